/- Contract of the reference: Turn. -/
import Derived.Test.YtnbjknjnpfmklaaP30
namespace Go.Proofs.Ytnbjknjnpfmklaa
open Go.RowKit

theorem rturn_cur (T : Tb) (m : Nat) (p : RA) (c : Int) (w : World) (h : RefAt w m p c T) (hc : Cnt c T) (h0 : T.cur ≠ 0) :
    Calls Try.prog 41 #[.pointer (some ⟨m, 0, none⟩)] w fun e w' => e = .returned (.tuple #[.int .i64 (turnI T), .bool (turnB T)]) ∧ Rx w m p (turnT T) w' := by
  have e1 : turnI T = T.cur := if_pos h0
  have e2 : turnB T = true := by unfold turnB; rw [decide_eq_true h0]; rfl
  have e3 : turnT T = T := if_pos h0
  rw [e1, e2, e3]
  have HT := Lib.hid h
  have HC := Lib.hid hc
  have h2 : (T.cur == 0) = false := by simpa using h0
  obtain ⟨c0, c1, c2, c3, c4, c5, c6, c7, hf⟩ := h.cells
  clear h hc e1 e2 e3
  go_enter Try.func41, Try.ntmps41
  go_wp2
  all_goals go_ret2
  all_goals exact ⟨rfl, Rx.refl HT.out HC.out⟩
theorem rturn_none (T : Tb) (m : Nat) (p : RA) (c : Int) (w : World) (h : RefAt w m p c T) (hc : Cnt c T) (h0 : T.cur = 0) (h1 : T.ready.length = 0) :
    Calls Try.prog 41 #[.pointer (some ⟨m, 0, none⟩)] w fun e w' => e = .returned (.tuple #[.int .i64 (turnI T), .bool (turnB T)]) ∧ Rx w m p (turnT T) w' := by
  have e0 : ¬ T.cur ≠ 0 := by simpa using h0
  have e1 : turnI T = 0 := by unfold turnI; rw [if_neg e0, if_pos h1]
  have e2 : turnB T = false := by unfold turnB; rw [h0, h1]; rfl
  have e3 : turnT T = T := by unfold turnT; rw [if_neg e0, if_pos h1]
  rw [e1, e2, e3]
  have HT := Lib.hid h
  have HC := Lib.hid hc
  obtain ⟨c0, c1, c2, c3, c4, c5, c6, c7, hf⟩ := h.cells
  rw [h0] at c1
  rw [h1] at c6
  clear h hc e0 e1 e2 e3
  go_enter Try.func41, Try.ntmps41
  go_wp2
  all_goals go_ret2
  all_goals exact ⟨rfl, Rx.refl HT.out HC.out⟩
theorem lst_cells {w : World} {m : Nat} {p : RA} {c : Int} {T : Tb} (h : RefAt w m p c T) (i : Nat) (hi : i < T.ready.length) : ∃ g, p.lA = some ⟨g, 0, none⟩ ∧ g < w.heap.size ∧ g ≠ m ∧ w.cell? ⟨g, i, none⟩ = some (.int .i64 (T.ready.getD i 0)) := by
  obtain ⟨g, hA, _, hg, _, p0⟩ := own_cell h.lst i hi
  rw [ints_get _ i hi] at p0
  exact ⟨g, hA, hg, h.nl _ hA, p0⟩

theorem rlist_fp {w W W' : World} {m n C : Nat} {p : RA} {A : Option Addr} {xs : List Value} (hs : w.heap.size ≤ W.heap.size) (ho : W'.ownsRow W.heap.size 3 1 (.slice A n C) n xs) (k : Nat) (hk : RA.fp m { p with lA := A, lC := C } k) : p.fp m k ∨ w.heap.size ≤ k := by
  rcases hk with e | ⟨a, ha, e⟩ | e
  · exact .inl (.inl e)
  · have := (own_blk ho a ha).1
    exact .inr (by omega)
  · exact .inl (.inr (.inr e))

set_option maxHeartbeats 4000000 in
theorem rturn_go (T : Tb) (m : Nat) (p : RA) (c : Int) (w : World) (h : RefAt w m p c T) (hnd : T.ready.Nodup) (h0 : T.cur = 0) (k : Nat) (h1 : T.ready.length = k + 1) (hk : k ≤ 90000) (hs : T.s.length ≤ 100000) :
    Calls Try.prog 41 #[.pointer (some ⟨m, 0, none⟩)] w fun e w' => e = .returned (.tuple #[.int .i64 (turnI T), .bool (turnB T)]) ∧ Rx w m p (turnT T) w' := by
  have e0 : ¬ T.cur ≠ 0 := by simpa using h0
  have e4 : ¬ T.ready.length = 0 := by omega
  obtain ⟨r0, r1⟩ := choose_range T ((k : Int) + 1) (by omega)
  have e1 : turnI T = T.ready.getD (chooseI T ((k : Int) + 1)).toNat 0 := by unfold turnI; rw [if_neg e0, if_neg e4, h1]; rfl
  have e2 : turnB T = true := by unfold turnB; rw [h0, h1]; simp
  have e3 : turnT T = { chooseT T ((k : Int) + 1) with cur := T.ready.getD (chooseI T ((k : Int) + 1)).toNat 0, ready := T.ready.eraseIdx (chooseI T ((k : Int) + 1)).toNat, left := T.q } := by unfold turnT; rw [if_neg e0, if_neg e4, h1]; rfl
  rw [e1, e2, e3]
  obtain ⟨s1, s2, s3, s4, s5, s6, s7, s8⟩ := chooseT_same T ((k : Int) + 1)
  have HT := Lib.hid h
  have HC := Lib.hid (fun W hW => rchoose_calls T m p c ((k : Int) + 1) W hW (by omega) hs)
  obtain ⟨i, hi⟩ : ∃ i : Nat, chooseI T ((k : Int) + 1) = (i : Int) := ⟨(chooseI T ((k : Int) + 1)).toNat, by omega⟩
  rw [hi] at HC r0 r1 ⊢
  rw [Int.toNat_natCast]
  have him : i ≤ k := by omega
  obtain ⟨c0, c1, c2, c3, c4, c5, c6, c7, hf⟩ := h.cells
  rw [h0] at c1
  obtain ⟨g, hA, hg, hgm, hc⟩ := lst_cells h i (by omega)
  rw [h1, hA] at c6
  have HA := Lib.hid hA
  have HE : Hid (T.ready.eraseIdx i = dropF T.ready (T.ready.getD i 0)) := Lib.hid (by
    rw [eraseIdx_filter T.ready hnd i (by omega), show T.ready.getD i 0 = T.ready[i] by simp [List.getD, List.getElem?_eq_getElem (show i < T.ready.length by omega)]]; rfl)
  generalize chooseT T ((k : Int) + 1) = T1 at *
  have HS := Lib.hid (And.intro s1 (And.intro s5 h1))
  generalize hv : T.ready.getD i 0 = v at *
  have HV := Lib.hid hv
  clear h e0 e1 e2 e3 e4 s1 s2 s3 s4 s5 s6 s7 s8 hi hv hA hc
  have i0 : (0 : Int) ≤ (i : Int) := by omega
  have i1 : (i : Int) < (k : Int) + 1 := by omega
  have i2 : i < k + 1 := by omega
  go_enter Try.func41, Try.ntmps41
  go_wp2
  go_region_law (go_simp; go_at_call 47; refine (HC.out _ (HT.out.below (Below.refl _ _).drew)).mono ?_; rintro e w1 ⟨rfl, ht1, hm1⟩; have HT1 := Lib.hid ht1; have HM1 := Lib.hid hm1; obtain ⟨d0, d1, d2, d3, d4, d5, d6, d7, df⟩ := ht1.cells; rw [HS.out.1] at d0; rw [HS.out.2.1, HS.out.2.2, HA.out] at d6; obtain ⟨g', hA', hg', _, hc⟩ := lst_cells ht1 i (by rw [HS.out.2.1, HS.out.2.2]; exact i2); rw [HA.out] at hA'; obtain rfl : g = g' := (by simpa using hA'); rw [HS.out.2.1, HV.out] at hc; clear ht1 hm1 hA')
  all_goals have HT2 : Hid (RefAt ((w1.setCell ⟨m, 1, none⟩ (.int .i64 v)).setCell ⟨m, 2, none⟩ (.int .i64 0)) m p 0 { T1 with cur := v }) := Lib.hid ((HT1.out.upd 1 (.int .i64 v) c { T1 with cur := v } (by unfold refC; simp) rfl rfl rfl).upd 2 (.int .i64 0) 0 { T1 with cur := v } (by unfold refC; simp) rfl rfl rfl)
  all_goals go_wp2_with (go_at_call 59; refine (rwithout_calls _ m p 0 v _ HT2.out (by show T1.ready.length ≤ 100000; rw [HS.out.2.1, HS.out.2.2]; omega)).mono ?_; rintro e w3 ⟨A, C, rfl, ho, hb⟩; have HO := Lib.hid ho; have HB := Lib.hid hb; have HT3 := Lib.hid (HT2.out.below hb); clear ho hb d0 d1 d2 d3 d4 d5 d6 d7 df hc; obtain ⟨d0, d1, d2, d3, d4, d5, d6, d7, df⟩ := HT3.out.cells; simp only at d0 d1 d2 d3 d4 d5 d6 d7)
  all_goals go_ret2
  all_goals refine ⟨rfl, { p with lA := A, lC := C }, 0, (HT2.out.list A C _ (HO.out.mono (Nat.zero_le _)) (Mut.of_below HB.out) (fun a ha => .inr (own_blk HO.out a ha).1)).as rfl rfl rfl rfl rfl ?_ rfl, ?_, ?_, ?_, rfl⟩
  all_goals first
    | (show T.ready.eraseIdx i = dropF T1.ready v; rw [HE.out, HS.out.2.1]; done)
    | (intro _; show (0 : Int) = T1.q - T.q; rw [HS.out.1]; omega)
    | exact ((((((Mut.of_below ((Below.refl _ w).drew)).then HM1.out).then (Mut.setCell _ m 1 _ (.inl rfl))).then (Mut.setCell _ m 2 _ (.inl rfl))).then (Mut.of_below HB.out)).then (Mut.setCell _ _ _ _ (.inl rfl)))
    | exact rlist_fp (by have := HM1.out.size; simpa using this) HO.out
theorem rturn_calls (T : Tb) (m : Nat) (p : RA) (c : Int) (w : World) (h : RefAt w m p c T) (hc : Cnt c T) (hnd : T.ready.Nodup) (hr : T.ready.length ≤ 90000) (hs : T.s.length ≤ 100000) :
    Calls Try.prog 41 #[.pointer (some ⟨m, 0, none⟩)] w fun e w' => e = .returned (.tuple #[.int .i64 (turnI T), .bool (turnB T)]) ∧ Rx w m p (turnT T) w' := by
  by_cases h0 : T.cur = 0
  · cases hk : T.ready.length with
    | zero => exact rturn_none T m p c w h hc h0 hk
    | succ k => exact rturn_go T m p c w h hnd h0 k hk (by omega) hs
  · exact rturn_cur T m p c w h hc h0
end Go.Proofs.Ytnbjknjnpfmklaa
