/- The contracts of inst.set and of the law's same. -/
import Derived.Test.YtadkbcdopcehhaaDoorE1
namespace Go.Proofs.YtadkbcdopcehhaaDoor
open Go.RowKit Mp Go.Sort

/-- What inst.set makes of a list. -/
def setI (zs : List Int) : List Int := Lib.compact (zs.mergeSort fun x y => decide (x ≤ y))
theorem set_none (A : Option Addr) (C : Nat) (w : World) : Calls Tryd.prog 45 #[.slice A 0 C] w fun e w' => e = .returned (.slice A 0 C) ∧ w' = w := by
  go_enter Tryd.func45, Tryd.ntmps45
  go_wp2_with (first
    | (go_at_call 58; refine (Tryd.slices_Sort_int_none _ _ _).mono ?_; rintro e w1 ⟨rfl, rfl⟩)
    | (go_at_call 59; refine (Tryd.slices_Compact_int_empty _ _ _).mono ?_; rintro e w1 ⟨rfl, rfl⟩))
  go_ret
  exact ⟨rfl, rfl⟩

theorem row_prefix {w : World} {A : Option Addr} {xs ys : List Int} (h : RowI w A (xs ++ ys)) : RowI w A xs := fun j hj => by
  obtain ⟨g, h1, h2, h3⟩ := h j (by simp; omega)
  exact ⟨g, h1, h2, by rw [h3]; simp [List.getD, List.getElem?_append_left hj]⟩

theorem setI_nil : setI [] = [] := by
  have h : ([] : List Int).mergeSort (fun x y => decide (x ≤ y)) = [] := List.length_eq_zero_iff.1 (by rw [List.length_mergeSort]; rfl)
  unfold setI
  rw [h]
  rfl
theorem sort_own (zs : List Int) (g C B m : Nat) (w : World) (hm : zs.length = m) (hown : w.ownsRow B 3 1 (.slice (some ⟨g, 0, none⟩) m C) m (ints zs)) (hpos : 0 < m) (hl : m ≤ 100000) (hB : B ≤ w.heap.size) :
    Calls Tryd.prog 58 #[.slice (some ⟨g, 0, none⟩) m C] w fun e w' => e = .returned (.tuple #[]) ∧ w'.ownsRow B 3 1 (.slice (some ⟨g, 0, none⟩) m C) m (ints (zs.mergeSort fun x y => decide (x ≤ y))) ∧ Below B w w' := by
  subst hm
  rcases hown.2 with ⟨_, h⟩ | ⟨g', cap, cur, hv, hg, hcur, hn, hmax, hsz, htake⟩
  · omega
  · injection hv with e1 e2 e3
    injection e1 with e1
    injection e1 with e1
    subst e1 e3
    rw [Nat.mul_one] at htake
    refine (Tryd.slices_Sort_int g 0 C zs w (holds_of_blockI hcur htake) (Array.getElem?_eq_some_iff.1 hcur).1 (by omega)).mono ?_
    rintro e w1 ⟨rfl, n, os, rfl⟩
    exact ⟨rfl, ownsRow_sortedI (List.length_mergeSort _) hg hcur hn hmax hsz, (Below.refl B w).grown (grownBy_sortedI _) hB (fun k hk => by injection hk with hk; omega)⟩
theorem compact_own (ss : List Int) (g C B m : Nat) (w : World) (hm : ss.length = m) (hown : w.ownsRow B 3 1 (.slice (some ⟨g, 0, none⟩) m C) m (ints ss)) (hpos : 0 < m) (hl : m ≤ 100000) (hB : B ≤ w.heap.size) :
    Calls Tryd.prog 59 #[.slice (some ⟨g, 0, none⟩) m C] w fun e w' => e = .returned (.slice (some ⟨g, 0, none⟩) (Lib.compact ss).length C) ∧ RowI w' (some ⟨g, 0, none⟩) (Lib.compact ss) ∧ Below B w w' := by
  subst hm
  rcases hown.2 with ⟨_, h⟩ | ⟨g', cap, cur, hv, hg, hcur, hn, hmax, hsz, htake⟩
  · omega
  · injection hv with e1 e2 e3
    injection e1 with e1
    injection e1 with e1
    subst e1 e3
    rw [Nat.mul_one] at htake
    have hcl := Lib.compact_length_le ss
    refine (Tryd.slices_Compact_int g 0 C ss w (holds_of_blockI hcur htake) (by omega) (by omega)).mono ?_
    rintro e w2 ⟨rfl, q, rfl⟩
    refine ⟨rfl, ?_, ?_⟩
    · have hlen2 : (Lib.compact ss ++ List.replicate (ss.length - (Lib.compact ss).length) 0).length = ss.length := by simp; omega
      have := ownsRow_sortedI (n := q) (os := #[]) (ts := Lib.compact ss ++ List.replicate (ss.length - (Lib.compact ss).length) 0) (ss := ss) hlen2 hg hcur hn hmax hsz
      rw [grow_empty] at this
      generalize hts : Lib.compact ss ++ List.replicate (ss.length - (Lib.compact ss).length) 0 = ts at *
      rw [← hlen2] at this
      have hr := RowI.of_own this
      rw [← hts] at hr ⊢
      exact row_prefix hr
    · have := grownBy_sortedI (w := w) (g := g) (n := q) (os := #[]) (Lib.compact ss ++ List.replicate (ss.length - (Lib.compact ss).length) 0).toArray
      rw [grow_empty] at this
      exact (Below.refl B w).grown this hB (fun k hk => by injection hk with hk; omega)

set_option maxHeartbeats 1000000 in
theorem set_calls (zs : List Int) (A : Option Addr) (C B : Nat) (w : World) (hown : w.ownsRow B 3 1 (.slice A zs.length C) zs.length (ints zs)) (hl : zs.length ≤ 100000) (hB : B ≤ w.heap.size) :
    Calls Tryd.prog 45 #[.slice A zs.length C] w fun e w' => ∃ A1 C1, e = .returned (.slice A1 (setI zs).length C1) ∧ RowI w' A1 (setI zs) ∧ Below B w w' := by
  by_cases h0 : zs = []
  · subst h0
    exact (set_none A C w).mono fun e w' ⟨h1, h2⟩ => ⟨A, C, by rw [h1, setI_nil]; rfl, fun j hj => by rw [setI_nil] at hj; exact absurd hj (Nat.not_lt_zero _), h2 ▸ Below.refl _ _⟩
  · have hpos : 0 < zs.length := List.length_pos_iff.2 h0
    obtain ⟨g, rfl, _⟩ := own_cell hown 0 hpos
    have HS := Lib.hid (sort_own zs g C B zs.length w rfl hown hpos hl hB)
    have hlen : (zs.mergeSort fun x y => decide (x ≤ y)).length = zs.length := List.length_mergeSort _
    have HLEN := Lib.hid hlen
    have hset : Hid (setI zs = Lib.compact (zs.mergeSort fun x y => decide (x ≤ y))) := Lib.hid rfl
    generalize (zs.mergeSort fun x y => decide (x ≤ y)) = ss at *
    clear hown h0 hlen
    go_enter Tryd.func45, Tryd.ntmps45
    go_wp2_with (first
      | (go_at_call 58; refine HS.out.mono ?_; rintro e w1 ⟨rfl, ho, hb⟩; have HO := Lib.hid ho; have HB1 := Lib.hid hb; clear ho hb)
      | (go_at_call 59; refine (compact_own ss g C B zs.length _ HLEN.out HO.out hpos hl (Nat.le_trans hB HB1.out.size)).mono ?_; rintro e w2 ⟨rfl, hr, hb⟩; have HR := Lib.hid hr; have HB2 := Lib.hid (HB1.out.trans hb); clear hr hb))
    go_ret
    rw [hset.out]
    exact ⟨_, _, rfl, HR.out, HB2.out⟩

theorem same_yes (xs : List Int) (A1 A2 : Option Addr) (C1 C2 : Nat) (w : World) (h1 : RowI w A1 xs) (h2 : RowI w A2 xs) (hl : xs.length ≤ 100000) :
    Calls Tryd.prog 28 #[.slice A1 xs.length C1, .slice A2 xs.length C2] w fun e w' => e = .returned (.bool true) ∧ Below w.heap.size w w' := by
  have H1 := Lib.hid h1
  have H2 := Lib.hid h2
  clear h1 h2
  go_enter Tryd.func28, Tryd.ntmps28
  go_wp2
  go_loopw [5] (fun i wr => ∃ j : Nat, j ≤ xs.length ∧ i = .int .i64 j ∧ Hid (Below w.heap.size w wr)) (fun i _ => xs.length - (intOf i).toNat)
  case atStart => exact ⟨0, by omega, rfl, Below.refl _ _⟩
  case round =>
    obtain ⟨j, hj, rfl, hB⟩ := hrel
    by_cases hlt : j < xs.length
    · obtain ⟨g1, rfl, _, k1⟩ := H1.out.below hB.out j hlt
      obtain ⟨g2, rfl, _, k2⟩ := H2.out.below hB.out j hlt
      have g0 : (0 : Int) ≤ (j : Int) := by omega
      have g3 : (j : Int) < (xs.length : Int) := by omega
      go_wp2
      go_quiet (fail)
      go_wp2
      go_roundw
      case rel => exact ⟨j + 1, by omega, by go_num, Lib.hid (Below.dn hB.out _)⟩
      case measure => simp [intOf]; omega
    · obtain rfl : j = xs.length := by omega
      go_wp2
      go_ret
      exact ⟨rfl, hB.out⟩
end Go.Proofs.YtadkbcdopcehhaaDoor
