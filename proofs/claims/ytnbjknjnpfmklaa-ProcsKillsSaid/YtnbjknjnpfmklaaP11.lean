/- Contract: Turn. -/
import Derived.Test.YtnbjknjnpfmklaaP7D
import Derived.Test.YtnbjknjnpfmklaaP8
namespace Go.Proofs.Ytnbjknjnpfmklaa
open Go.RowKit

theorem choose_range (T : Tb) (n : Int) (hn : 0 < n) : 0 ≤ chooseI T n ∧ chooseI T n < n := by
  unfold chooseI
  split
  · omega
  · rename_i h
    have h2 : 2 ≤ n := by omega
    have b1 := tmod_lo (T.s.getD T.used 0) n h2
    have b2 := tmod_hi (T.s.getD T.used 0) n h2
    split <;> omega
theorem chooseT_same (T : Tb) (n : Int) : (chooseT T n).q = T.q ∧ (chooseT T n).s = T.s ∧ (chooseT T n).ticks = T.ticks ∧ (chooseT T n).P = T.P ∧ (chooseT T n).ready = T.ready ∧ (chooseT T n).cur = T.cur ∧ (chooseT T n).left = T.left ∧ (chooseT T n).last = T.last := by
  unfold chooseT; split <;> exact ⟨rfl, rfl, rfl, rfl, rfl, rfl, rfl, rfl⟩

theorem rdy_cells {w : World} {tb : Nat} {p : TA} {T : Tb} {zs : List Int} {g : Nat} (h : TabAt w tb p T) (hA : p.rA = some ⟨g, 0, none⟩) (hz : T.ready = zs) (j : Nat) (hj : j < zs.length) : w.cell? ⟨g, 0 + j, none⟩ = some (.int .i64 (zs.getD j 0)) := by
  subst hz
  obtain ⟨g', e1, _, _, _, e2⟩ := own_cell h.rdy j hj
  rw [hA] at e1
  injection e1 with e1
  injection e1 with e1
  subst e1
  rw [Nat.zero_add, e2, ints_get _ j hj]
theorem turn_cur (T : Tb) (tb : Nat) (p : TA) (w : World) (h : TabAt w tb p T) (h0 : T.cur ≠ 0) :
    Calls Try.prog 15 #[.pointer (some ⟨tb, 0, none⟩)] w fun e w' => e = .returned (.tuple #[.int .i64 (turnI T), .bool (turnB T)]) ∧ Nx w tb p (turnT T) w' := by
  have e1 : turnI T = T.cur := if_pos h0
  have e2 : turnB T = true := by unfold turnB; rw [decide_eq_true h0]; rfl
  have e3 : turnT T = T := if_pos h0
  rw [e1, e2, e3]
  have HT := Lib.hid h
  have h2 : (T.cur != 0) = true := by simpa using h0
  obtain ⟨c0, c1, c2, c3, c4, c5, c6, c7, c8, hf⟩ := h.cells
  clear h e1 e2 e3
  go_enter Try.func15, Try.ntmps15
  go_wp2
  all_goals go_ret2
  all_goals exact ⟨rfl, Nx.refl HT.out⟩
theorem turn_none (T : Tb) (tb : Nat) (p : TA) (w : World) (h : TabAt w tb p T) (h0 : T.cur = 0) (h1 : T.ready.length = 0) :
    Calls Try.prog 15 #[.pointer (some ⟨tb, 0, none⟩)] w fun e w' => e = .returned (.tuple #[.int .i64 (turnI T), .bool (turnB T)]) ∧ Nx w tb p (turnT T) w' := by
  have e0 : ¬ T.cur ≠ 0 := by simpa using h0
  have e1 : turnI T = 0 := by unfold turnI; rw [if_neg e0, if_pos h1]
  have e2 : turnB T = false := by unfold turnB; rw [h0, h1]; rfl
  have e3 : turnT T = T := by unfold turnT; rw [if_neg e0, if_pos h1]
  rw [e1, e2, e3]
  have HT := Lib.hid h
  obtain ⟨c0, c1, c2, c3, c4, c5, c6, c7, c8, hf⟩ := h.cells
  rw [h0] at c6
  rw [h1] at c5
  clear h e0 e1 e2 e3
  go_enter Try.func15, Try.ntmps15
  go_wp2
  all_goals go_ret2
  all_goals exact ⟨rfl, Nx.refl HT.out⟩

set_option maxHeartbeats 4000000 in
theorem turn_go (T : Tb) (tb : Nat) (p : TA) (w : World) (h : TabAt w tb p T) (h0 : T.cur = 0) (m : Nat) (h1 : T.ready.length = m + 1) (hm : m ≤ 100000) (hs : T.s.length ≤ 100000) :
    Calls Try.prog 15 #[.pointer (some ⟨tb, 0, none⟩)] w fun e w' => e = .returned (.tuple #[.int .i64 (turnI T), .bool (turnB T)]) ∧ Nx w tb p (turnT T) w' := by
  have e0 : ¬ T.cur ≠ 0 := by simpa using h0
  have e4 : ¬ T.ready.length = 0 := by omega
  obtain ⟨r0, r1⟩ := choose_range T ((m : Int) + 1) (by omega)
  have e1 : turnI T = T.ready.getD (chooseI T ((m : Int) + 1)).toNat 0 := by unfold turnI; rw [if_neg e0, if_neg e4, h1]; rfl
  have e2 : turnB T = true := by unfold turnB; rw [h0, h1]; simp
  have e3 : turnT T = { chooseT T ((m : Int) + 1) with cur := T.ready.getD (chooseI T ((m : Int) + 1)).toNat 0, ready := T.ready.eraseIdx (chooseI T ((m : Int) + 1)).toNat, left := T.q } := by unfold turnT; rw [if_neg e0, if_neg e4, h1]; rfl
  rw [e1, e2, e3]
  obtain ⟨s1, s2, s3, s4, s5, s6, s7, s8⟩ := chooseT_same T ((m : Int) + 1)
  have HT := Lib.hid h
  have HC := Lib.hid (choose_calls T tb p ((m : Int) + 1) w h (by omega) hs)
  obtain ⟨i, hi⟩ : ∃ i : Nat, chooseI T ((m : Int) + 1) = (i : Int) := ⟨(chooseI T ((m : Int) + 1)).toNat, by omega⟩
  rw [hi] at HC r0 r1 ⊢
  rw [Int.toNat_natCast]
  have him : i ≤ m := by omega
  obtain ⟨c0, c1, c2, c3, c4, c5, c6, c7, c8, hf⟩ := h.cells
  rw [h0] at c6
  rw [h1] at c5
  generalize chooseT T ((m : Int) + 1) = T1 at *
  have HS := Lib.hid (And.intro s1 (And.intro s5 h1))
  generalize hv : T.ready.getD i 0 = v at *
  have HV := Lib.hid hv
  have HLEN : Hid ((T.ready.eraseIdx i).length = m) := Lib.hid (by rw [List.length_eraseIdx, h1, if_pos (by omega)]; omega)
  clear h e0 e1 e2 e3 e4 s1 s2 s3 s4 s5 s6 s7 s8 hi hv
  have i0 : (0 : Int) ≤ (i : Int) := by omega
  have i1 : (i : Int) < (m : Int) + 1 := by omega
  have i2 : i < m + 1 := by omega
  go_enter Try.func15, Try.ntmps15
  go_wp2_with (first
    | (go_at_call 11; refine HC.out.mono ?_; rintro e w1 ⟨rfl, p1, ht1, hm1, hf1, hs1⟩; have HT1 := Lib.hid ht1; have HM1 := Lib.hid hm1; have HF1 := Lib.hid hf1; have HSA := Lib.hid hs1; clear hs1; clear ht1 hm1 hf1 c0 c1 c2 c3 c4 c5 c6 c7 c8 hf; obtain ⟨c0, c1, c2, c3, c4, c5, c6, c7, c8, hf⟩ := HT1.out.cells; rw [HS.out.1] at c0; rw [HS.out.2.1, HS.out.2.2] at c5; obtain ⟨g, hA, _, hg, hcap, hc⟩ := own_cell HT1.out.rdy i (by rw [HS.out.2.1, HS.out.2.2]; exact i2); rw [HS.out.2.1, ints_get _ i (by rw [HS.out.2.2]; exact i2), HV.out] at hc; have HA := Lib.hid hA; have HCAP := Lib.hid hcap; have hgt : ¬ g = tb := HT1.out.nr _ hA; rw [hA] at c5; have HT2 := Lib.hid (HT1.out.upd 6 (.int .i64 v) { T1 with cur := v } (by unfold tabC; simp) rfl rfl rfl); have HRD := Lib.hid (rdy_cells HT2.out HA.out HS.out.2.1); have HG : Hid (g < (w1.setCell ⟨tb, 6, none⟩ (.int .i64 v)).heap.size) := Lib.hid (by simpa using hg); clear hA hcap hg)
    | (go_at_call 33; refine (without_calls T.ready m i HS.out.2.2 him g 0 p1.rC _ hm (by have := HCAP.out; rw [HS.out.2.1, HS.out.2.2] at this; exact this) HRD.out HG.out).mono ?_; rintro e w3 ⟨rfl, ho, hb⟩; have HO := Lib.hid ho; have HB := Lib.hid hb; have HT3 := Lib.hid (HT2.out.below hb); clear ho hb c0 c1 c2 c3 c4 c5 c6 c7 c8 hf hc; obtain ⟨c0, c1, c2, c3, c4, c5, c6, c7, c8, hf⟩ := HT3.out.cells; simp only at c0 c1 c2 c3 c4 c5 c6 c7 c8; rw [HS.out.1] at c0))
  go_ret2
  have hlt := HT2.out.lt
  have HT4 := HT3.out.set 5 (.slice (some ⟨(w1.setCell ⟨tb, 6, none⟩ (.int .i64 v)).heap.size, 0, none⟩) m m) { p1 with rA := some ⟨(w1.setCell ⟨tb, 6, none⟩ (.int .i64 v)).heap.size, 0, none⟩, rC := m } { T1 with cur := v, ready := T.ready.eraseIdx i } (by unfold tabC; simp [HLEN.out]) rfl rfl rfl rfl (by rw [HLEN.out]; exact HO.out.mono (Nat.zero_le _)) (fun a ha => by injection ha with ha; subst ha; exact Nat.ne_of_gt hlt) (fun a b ha hb => by injection hb with hb; subst hb; exact Nat.ne_of_lt (HT2.out.sl a ha))
  have HT5 := HT4.upd 7 (.int .i64 T.q) { T1 with cur := v, ready := T.ready.eraseIdx i, left := T.q } (by unfold tabC; simp) rfl rfl rfl
  rw [show (w1.setCell ⟨tb, 6, none⟩ (.int .i64 v)).heap.size = w1.heap.size by simp] at HT5
  refine ⟨rfl, _, HT5, (((HM1.out.then (Mut.setCell _ tb 6 (.int .i64 v) (.inl rfl))).then (Mut.of_below HB.out)).then (Mut.setCell _ _ _ _ (.inl rfl))).then (Mut.setCell _ _ _ _ (.inl rfl)), ?_, HSA.out⟩
  rintro k (h | h | ⟨a, ha, rfl⟩)
  · exact .inl (.inl h)
  · exact HF1.out k (.inr (.inl h))
  · injection ha with ha
    subst ha
    exact .inr HM1.out.size
theorem turn_calls (T : Tb) (tb : Nat) (p : TA) (w : World) (h : TabAt w tb p T) (hr : T.ready.length ≤ 100000) (hs : T.s.length ≤ 100000) :
    Calls Try.prog 15 #[.pointer (some ⟨tb, 0, none⟩)] w fun e w' => e = .returned (.tuple #[.int .i64 (turnI T), .bool (turnB T)]) ∧ Nx w tb p (turnT T) w' := by
  by_cases h0 : T.cur = 0
  · cases hl : T.ready.length with
    | zero => exact turn_none T tb p w h h0 hl
    | succ m => exact turn_go T tb p w h h0 m hl (by omega) hs
  · exact turn_cur T tb p w h h0
end Go.Proofs.Ytnbjknjnpfmklaa
