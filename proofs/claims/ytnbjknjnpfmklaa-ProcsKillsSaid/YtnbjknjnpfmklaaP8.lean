/- Contracts: slices.Clone, Ready, New. -/
import Derived.Test.YtnbjknjnpfmklaaP6
namespace Go.Proofs.Ytnbjknjnpfmklaa
open Go.RowKit

theorem own_slice {w : World} {base n size : Nat} {e : TypeId} {v : Value} {xs : List Value} (h : w.ownsRow base e size v n xs) : ∃ A C, v = .slice A n C := by
  rcases h.2 with ⟨h1, h2⟩ | ⟨g, cap, cur, h1, _⟩
  · exact ⟨none, 0, by rw [h1, h2]⟩
  · exact ⟨_, _, h1⟩
theorem own_cell {w : World} {base n C : Nat} {e : TypeId} {A : Option Addr} {xs : List Value} (h : w.ownsRow base e 1 (.slice A n C) n xs) (j : Nat) (hj : j < n) :
    ∃ g, A = some ⟨g, 0, none⟩ ∧ base ≤ g ∧ g < w.heap.size ∧ n ≤ C ∧ w.cell? ⟨g, j, none⟩ = xs[j]? := by
  rcases h.2 with ⟨h1, h2⟩ | ⟨g, cap, cur, h1, h2, h3, h4, h5, h6, h7⟩
  · omega
  · injection h1 with e1 e2 e3
    refine ⟨g, e1, h2, (Array.getElem?_eq_some_iff.1 h3).1, e3 ▸ h4, ?_⟩
    rw [Nat.mul_one] at h7
    rw [← h7, List.getElem?_take_of_lt hj]
    unfold World.cell?
    rw [h3]
    simp
theorem ints_get (zs : List Int) (j : Nat) (hj : j < zs.length) : (ints zs)[j]? = some (.int .i64 (zs.getD j 0)) := by simp [ints, List.getD, List.getElem?_eq_getElem hj]
theorem RowI.of_own {w : World} {base C : Nat} {A : Option Addr} {zs : List Int} (h : w.ownsRow base 3 1 (.slice A zs.length C) zs.length (ints zs)) : RowI w A zs := fun j hj => by
  obtain ⟨g, h1, _, h3, _, h4⟩ := own_cell h j hj
  exact ⟨g, 0, h1, h3, by rw [Nat.zero_add, h4, ints_get zs j hj]⟩
theorem RowI.below {w w' : World} {A : Option Addr} {zs : List Int} (h : RowI w A zs) (hb : Below w.heap.size w w') : RowI w' A zs := h.mut (S := fun _ => False) (Mut.of_below hb) fun _ _ h => h

theorem clone_calls (zs : List Int) (A : Option Addr) (C : Nat) (w : World) (h : RowI w A zs) (hl : zs.length ≤ 100000) :
    Calls Try.prog 32 #[.slice A zs.length C] w fun e w' => ∃ A1 C1, e = .returned (.slice A1 zs.length C1) ∧ w'.ownsRow w.heap.size 3 1 (.slice A1 zs.length C1) zs.length (ints zs) ∧ Below w.heap.size w w' := by
  cases A with
  | none =>
    have h0 : zs = [] := by
      rcases Nat.eq_zero_or_pos zs.length with h0 | h0
      · exact List.eq_nil_of_length_eq_zero h0
      · obtain ⟨_, _, h1, _⟩ := h 0 h0; cases h1
    subst h0
    exact (Try.slices_Clone_int_nil _ C w).mono fun e w' ⟨h1, h2⟩ => ⟨none, 0, h1, h2 ▸ World.ownsRow_nil _ _ _ _, h2 ▸ Below.refl _ _⟩
  | some a =>
    rcases Nat.eq_zero_or_pos zs.length with h0 | h0
    · obtain rfl := List.eq_nil_of_length_eq_zero h0
      refine (Try.slices_Clone_int_zero a C w).mono fun e w' ⟨v, h1, h2, _, h4⟩ => ?_
      obtain ⟨A1, C1, rfl⟩ := own_slice h2
      exact ⟨A1, C1, h1, h2, h4⟩
    · obtain ⟨g, o, h1, h2, _⟩ := h 0 h0
      injection h1 with h1
      subst h1
      refine (Try.slices_Clone_int g o zs.length C zs w (Nat.le_refl _) (by omega) fun j hj => ?_).mono fun e w' ⟨v, h1, h2, _, h4⟩ => ?_
      · obtain ⟨g', o', e1, _, e3⟩ := h j hj
        injection e1 with e1
        injection e1 with e1 e2
        subst e1 e2
        exact e3
      · obtain ⟨A1, C1, rfl⟩ := own_slice h2
        rw [List.take_length] at h2
        exact ⟨A1, C1, h1, h2, h4⟩

theorem ready_calls (T : Tb) (tb : Nat) (p : TA) (w : World) (h : TabAt w tb p T) (hl : T.ready.length ≤ 100000) :
    Calls Try.prog 16 #[.pointer (some ⟨tb, 0, none⟩)] w fun e w' => ∃ A1 C1, e = .returned (.slice A1 T.ready.length C1) ∧ w'.ownsRow w.heap.size 3 1 (.slice A1 T.ready.length C1) T.ready.length (ints T.ready) ∧ Below w.heap.size w w' := by
  have HC := Lib.hid (clone_calls T.ready p.rA p.rC w (RowI.of_own h.rdy) hl)
  obtain ⟨c0, c1, c2, c3, c4, c5, c6, c7, c8, hf⟩ := h.cells
  clear h
  go_enter Try.func16, Try.ntmps16
  go_wp2_with (go_at_call 32; refine HC.out.mono ?_; rintro e w1 ⟨A1, C1, rfl, ho, hb⟩; have HO := Lib.hid ho; have HB := Lib.hid hb; clear ho hb)
  go_ret
  exact ⟨A1, C1, rfl, HO.out, HB.out⟩

/-- A new table. -/
def newT (q : Int) (s : List Int) : Tb := ⟨q, s, 0, 0, [], [], 0, 0, 0⟩
theorem new_none (q : Int) (A : Option Addr) (n C : Nat) (w : World) (hq : q < 1) : Calls Try.prog 10 #[.int .i64 q, .slice A n C] w fun e w' => e = .returned (.tuple #[.pointer none, .int .i64 11]) ∧ w = w' := by
  go_enter Try.func10, Try.ntmps10
  go_wp2
  go_ret2
  exact ⟨rfl, rfl⟩
set_option maxHeartbeats 1000000 in
theorem new_calls (q : Int) (zs : List Int) (A : Option Addr) (C : Nat) (w : World) (hq : ¬ q < 1) (h : RowI w A zs) (hl : zs.length ≤ 100000) :
    Calls Try.prog 10 #[.int .i64 q, .slice A zs.length C] w fun e w' => ∃ tb p, e = .returned (.tuple #[.pointer (some ⟨tb, 0, none⟩), .int .i64 0]) ∧ TabAt w' tb p (newT q zs) ∧ (∀ k, p.fp tb k → w.heap.size ≤ k) ∧ (∀ a, p.sA = some a → w.heap.size ≤ a.block) ∧ Below w.heap.size w w' := by
  have HC := Lib.hid (clone_calls zs A C w h hl)
  have hmm := @run_makeMap Try.prog
  clear h
  go_enter Try.func10, Try.ntmps10
  go_wp2_with (go_at_call 32; refine HC.out.mono ?_; rintro e w1 ⟨A1, C1, rfl, ho, hb⟩; have HO := Lib.hid ho; have HB := Lib.hid hb; clear ho hb)
  go_ret2
  have HL : ∀ a : Addr, A1 = some a → w.heap.size ≤ a.block ∧ a.block < w1.heap.size := fun a ha => HO.out.lt a.block (by rw [ha]; rfl)
  have hs1 : (w1.alloc (.map #[] 0)).heap.size = w1.heap.size + 1 := by simp
  have hB1 : Below w1.heap.size w1 (w1.alloc (.map #[] 0)) := (Below.refl _ w1).alloc (Nat.le_refl _) _
  have hsz := HB.out.size
  refine ⟨_, ⟨w1.heap.size, A1, C1, none, 0⟩, rfl, ⟨?_, ?_, ?_, World.ownsRow_nil _ _ _ _, (fun a ha => by cases ha), ?_, ?_⟩, ?_, ?_, ?_⟩
  · have := heap_alloc_new (w1.alloc (.map #[] 0)) (.cells (tabC { mb := w1.heap.size, sA := A1, sC := C1, rA := none, rC := 0 } (newT q zs)) 63)
    rw [hs1] at this
    exact this
  · exact (Mp.MapIs.made w1 kV prV).of_block (heap_alloc_old _ _ (by simp))
  · exact (RowI.of_own HO.out).below (hB1.alloc (by simp) _)
  · intro a ha
    have := HL a ha
    exact ⟨by omega, Nat.ne_of_lt this.2, fun b hb => by cases hb⟩
  · intro a ha
    have := HL a ha
    simp
    omega
  · rintro k (h | h | ⟨a, ha, _⟩)
    · omega
    · rw [h]; exact hsz
    · cases ha
  · exact fun a ha => (HL a ha).1
  · exact HB.out.step2 (hB1.alloc (by simp) _)
end Go.Proofs.Ytnbjknjnpfmklaa
