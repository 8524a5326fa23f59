/- The law: a turn counts the ticks that are left, and sets aside. -/
import Derived.Test.YtnbjknjnpfmklaaP46
namespace Go.Proofs.Ytnbjknjnpfmklaa
open Go.RowKit

theorem prD_set {T : Tb} (g : Good T) (hc : T.cur ≠ 0) (f : Pr → Pr) : prD (setP T.P T.cur f) T.cur = f (prD T.P T.cur) := by
  obtain ⟨j, hj, e⟩ := g.cur_at hc
  rw [e, prD_at _ j hj, prD_at _ j (by rw [len_setP]; exact hj), setP_at, if_pos (by omega)]
theorem isB_setT {T : Tb} (g : Good T) (hc : T.cur ≠ 0) (b x : Int) (why : ByteArray) : isB (setT T b why) x = decide (b = x) := by
  unfold isB
  have h1 : (setT T b why).cur = T.cur := rfl
  have h2 : (prD (setT T b why).P (setT T b why).cur).state = b := by
    show (prD (setP T.P T.cur _) T.cur).state = b
    rw [prD_set g hc]
  rw [h2, h1, decide_eq_true hc, Bool.true_and]
theorem tick_step {T : Tb} (g : Good T) (h0 : isB T 0 = true) (hl : T.left ≠ 0) : tickB T = true ∧ (tickT T).cur = T.cur ∧ (tickT T).left = T.left - 1 ∧ (tickT T).ticks = T.ticks + 1 ∧ (tickT T).ready = T.ready ∧ isB (tickT T) 0 = true := by
  have hc := isB_cur h0
  have e2 : tickT T = { T with P := setP T.P T.cur (fun p => { p with ticks := p.ticks + 1 }), left := T.left - 1, ticks := T.ticks + 1 } := by unfold tickT; rw [if_pos h0, if_neg hl]
  refine ⟨by unfold tickB; rw [h0, decide_eq_true hl]; rfl, by rw [e2], by rw [e2], by rw [e2], by rw [e2], ?_⟩
  rw [e2]
  unfold isB at *
  show (decide (T.cur ≠ 0) && decide ((prD (setP T.P T.cur _) T.cur).state = 0)) = true
  rw [prD_set g hc]
  exact h0
theorem tick_end {T : Tb} (h0 : isB T 0 = true) (hl : T.left = 0) : tickB T = false ∧ (tickT T).cur = 0 ∧ (tickT T).ready = T.ready ++ [T.cur] ∧ (tickT T).ticks = T.ticks := by
  have e2 : tickT T = { T with ready := T.ready ++ [T.cur], cur := 0, left := 0 } := by unfold tickT; rw [if_pos h0, if_pos hl]
  exact ⟨by unfold tickB; rw [h0, decide_eq_false (by simpa using hl)]; rfl, by rw [e2], by rw [e2], by rw [e2]⟩
/-- i ticks. -/
def tickN (T : Tb) : Nat → Tb
  | 0 => T
  | i + 1 => tickT (tickN T i)
structure TickAt (N : Nat) (q : Int) (s : List Int) (T : Tb) (i : Nat) (S : Tb) : Prop where
  is : isB S 0 = true
  cur : S.cur = T.cur
  left : S.left = T.left - i
  ticks : S.ticks = T.ticks + i
  ready : S.ready = T.ready
  fit : Fit (N + i) q s S
theorem tickN_ok {N : Nat} {q : Int} {s : List Int} {T : Tb} (f : Fit N q s T) (h0 : isB T 0 = true) (i : Nat) : (i : Int) ≤ T.left → TickAt N q s T i (tickN T i) := by
  induction i with
  | zero => exact fun _ => ⟨h0, rfl, by show T.left = T.left - (0 : Nat); omega, by show T.ticks = T.ticks + (0 : Nat); omega, rfl, f⟩
  | succ i ih =>
    intro hi
    have h := ih (by omega)
    obtain ⟨_, a, b, c, d, e⟩ := tick_step h.fit.good h.is (by rw [h.left]; omega)
    refine ⟨e, a.trans h.cur, ?_, ?_, d.trans h.ready, h.fit.tick⟩
    · show (tickT (tickN T i)).left = _
      rw [b, h.left]; omega
    · show (tickT (tickN T i)).ticks = _
      rw [c, h.ticks]; omega
theorem turn_facts {N : Nat} {q : Int} {s : List Int} {T : Tb} (f : Fit N q s T) (hb : turnB T = true) : (turnT T).cur = turnI T ∧ turnI T ≠ 0 := by
  by_cases h0 : T.cur = 0
  · have h1 : ¬ T.ready.length = 0 := by
      unfold turnB at hb
      simp [h0] at hb
      simpa using hb
    have e0 : ¬ T.cur ≠ 0 := by simpa using h0
    obtain ⟨r0, r1⟩ := choose_range T (T.ready.length : Int) (by omega)
    have e1 : turnI T = T.ready.getD (chooseI T T.ready.length).toNat 0 := by unfold turnI; rw [if_neg e0, if_neg h1]
    have e2 : (turnT T).cur = T.ready.getD (chooseI T T.ready.length).toNat 0 := by unfold turnT; rw [if_neg e0, if_neg h1]
    refine ⟨e2.trans e1.symm, ?_⟩
    rw [e1]
    have hi : (chooseI T T.ready.length).toNat < T.ready.length := by omega
    rw [show T.ready.getD (chooseI T T.ready.length).toNat 0 = T.ready[(chooseI T T.ready.length).toNat] by simp [List.getD, List.getElem?_eq_getElem hi]]
    have := f.good.rin _ (List.getElem_mem hi)
    omega
  · have e1 : turnI T = T.cur := if_pos h0
    have e2 : turnT T = T := if_pos h0
    rw [e1, e2]
    exact ⟨rfl, h0⟩
theorem call_facts {N : Nat} {q : Int} {s : List Int} {T : Tb} (f : Fit N q s T) (hc : T.cur ≠ 0) (h0 : isB T 0 = false) : turnedE T 0 = 6 ∧ turnedT T 0 4 = T ∧ tickB T = false ∧ tickT T = T ∧ turnedE T 4 = 0 := by
  refine ⟨by unfold turnedE; rw [h0]; rfl, by unfold turnedT; rw [h0]; rfl, by unfold tickB; rw [h0]; rfl, by unfold tickT; rw [h0]; rfl, ?_⟩
  obtain ⟨j, hj, e⟩ := f.good.cur_at hc
  have hst := f.b j hj e.symm
  have hp := prD_at T.P j hj
  have hs : (prD T.P T.cur).state = (T.P[j]'hj).state := by rw [e, hp]
  have h4 : isB T 4 = true := by
    unfold isB at *
    rw [decide_eq_true hc, Bool.true_and, hs] at h0 ⊢
    rcases hst with h | h
    · rw [h] at h0; cases h0
    · rw [h]; rfl
  unfold turnedE
  rw [h4]
  rfl
structure MidC (N : Nat) (q : Int) (s : List Int) (T T2 T3 : Tb) : Prop where
  e1 : turnedE T 0 = 0
  t2 : turnedT T 0 4 = T2
  b2 : tickB T2 = false
  t2' : tickT T2 = T2
  e2 : turnedE T2 4 = 0
  t3 : turnedT T2 4 0 = T3
  is : isB T3 0 = true
  cur : T3.cur = T.cur
  f2 : Fit N q s T2
  f3 : Fit N q s T3
theorem mid_facts {N : Nat} {q : Int} {s : List Int} {T : Tb} (f : Fit N q s T) (h0 : isB T 0 = true) : ∃ T2 T3, MidC N q s T T2 T3 := by
  have hc := isB_cur h0
  have f2 := f.turned 0 4 (.inr rfl)
  have e2 : turnedT T 0 4 = setT T 4 ⟨#[]⟩ := by unfold turnedT; rw [h0]; rfl
  rw [e2] at f2
  have i2 : ∀ x, isB (setT T 4 ⟨#[]⟩) x = decide (4 = x) := fun x => isB_setT f.good hc 4 x _
  have i20 : isB (setT T 4 ⟨#[]⟩) 0 = false := by rw [i2]; rfl
  have i24 : isB (setT T 4 ⟨#[]⟩) 4 = true := by rw [i2]; rfl
  have f3 := f2.turned 4 0 (.inl rfl)
  have e3 : turnedT (setT T 4 ⟨#[]⟩) 4 0 = setT (setT T 4 ⟨#[]⟩) 0 ⟨#[]⟩ := by unfold turnedT; rw [i24]; rfl
  rw [e3] at f3
  refine ⟨_, _, by unfold turnedE; rw [h0]; rfl, e2, by unfold tickB; rw [i20]; rfl, by unfold tickT; rw [i20]; rfl, by unfold turnedE; rw [i24]; rfl, e3, ?_, rfl, f2, f3⟩
  rw [isB_setT f2.good (T := setT T 4 ⟨#[]⟩) hc]
  rfl
theorem call_cz {w wk : World} {tb : Nat} {T : Tb} (h : Cz w wk tb T) (hc : CurOk T) : Calls Try.prog 19 #[.pointer (some ⟨tb, 0, none⟩)] wk fun e w' => e = .returned (.int .i64 (turnedE T 0)) ∧ Cz w w' tb (turnedT T 0 4) := by
  obtain ⟨p, h1, h2, h3⟩ := h
  exact (call_calls T tb p wk h1 hc).mono fun _ _ ⟨e1, e2⟩ => ⟨e1, Cz.nx h2 h3 e2⟩
theorem answer_cz {w wk : World} {tb : Nat} {T : Tb} (h : Cz w wk tb T) (hc : CurOk T) : Calls Try.prog 20 #[.pointer (some ⟨tb, 0, none⟩)] wk fun e w' => e = .returned (.int .i64 (turnedE T 4)) ∧ Cz w w' tb (turnedT T 4 0) := by
  obtain ⟨p, h1, h2, h3⟩ := h
  exact (answer_calls T tb p wk h1 hc).mono fun _ _ ⟨e1, e2⟩ => ⟨e1, Cz.nx h2 h3 e2⟩
theorem left_lz {w wk : World} {tb : Nat} {T : Tb} (h : Cz w wk tb T) : Calls Try.prog 22 #[.pointer (some ⟨tb, 0, none⟩)] wk fun e w' => e = .returned (.int .i64 (leftI T)) ∧ Cz w w' tb T :=
  (left_cz h).mono fun _ _ ⟨e1, e2⟩ => ⟨e1, h.below e2⟩
theorem ticks_lz {w wk : World} {tb : Nat} {T : Tb} (h : Cz w wk tb T) : Calls Try.prog 21 #[.pointer (some ⟨tb, 0, none⟩)] wk fun e w' => e = .returned (.int .i64 T.ticks) ∧ Cz w w' tb T :=
  (ticks_cz h).mono fun _ _ ⟨e1, e2⟩ => ⟨e1, e2 ▸ h⟩
theorem current_z {w wk : World} {tb : Nat} {T : Tb} (h : Cz w wk tb T) : Calls Try.prog 17 #[.pointer (some ⟨tb, 0, none⟩)] wk fun e w' => e = .returned (.int .i64 T.cur) ∧ Cz w w' tb T :=
  (current_cz h).mono fun _ _ ⟨e1, e2⟩ => ⟨e1, e2 ▸ h⟩
set_option maxRecDepth 100000 in
set_option maxHeartbeats 8000000 in
theorem turns_big (q : Int) (A lA : Option Addr) (C lC : Nat) (zs : List Int) (l : List Ac) (w : World) (hq2 : q ≤ 9223372036854775807) (hA : A = none → C = 0) (hr : RowI w A zs) (hAl : ∀ a, A = some a → a.block < w.heap.size) (hl : ActsAt w lA l) (hact : ActsOk l) (hq3 : 300 < q) :
    Calls Try.prog 4 #[.agg #[.int .i64 q, .slice A zs.length C], .slice lA l.length lC] w fun e w' => e = .returned (.bool true) ∧ Below w.heap.size w w' := by
  have HR := Lib.hid hr
  have HL := Lib.hid hl
  have HAL := Lib.hid hAl
  have HACT := Lib.hid hact
  have HBW : Hid (Below w.heap.size w (w.alloc (.cells #[.int .i64 q, .slice A zs.length C] 32))) := Lib.hid ((Below.refl _ w).alloc (Nat.le_refl _) _)
  have HB0 : Hid (Below (w.alloc (.cells #[.int .i64 q, .slice A zs.length C] 32)).heap.size (w.alloc (.cells #[.int .i64 q, .slice A zs.length C] 32)) (w.alloc (.cells #[.int .i64 q, .slice A zs.length C] 32))) := Lib.hid (Below.refl _ _)
  clear hr hl hAl hact
  go_enter Try.func4, Try.ntmps4
  go_wp2_with (first
    | (go_at_call 9; refine (awake_calls _).mono ?_; rintro e wn ⟨rfl, hb⟩; replace HB0 := Lib.hid (HB0.out.step2 hb); clear hb; (try clear r0 r1); have r0 : wn.cell? ⟨w.heap.size, 0, none⟩ = some (.int .i64 q) := (HB0.out.cell (p := ⟨w.heap.size, 0, none⟩) (by simp)).trans (cell_of_heap (heap_alloc_new w _) rfl); have r1 : wn.cell? ⟨w.heap.size, 1, none⟩ = some (.slice A zs.length C) := (HB0.out.cell (p := ⟨w.heap.size, 1, none⟩) (by simp)).trans (cell_of_heap (heap_alloc_new w _) rfl))
    | (go_at_call 13; refine (few_calls q A zs.length C lA lC l _ (HL.out.below (HBW.out.step2 HB0.out))).mono ?_; rintro e wn ⟨⟨fb, rfl, hf⟩, hb⟩; have HF := Lib.hid hf; replace HB0 := Lib.hid (HB0.out.step2 hb); clear hb hf; (try clear r0 r1); have r0 : wn.cell? ⟨w.heap.size, 0, none⟩ = some (.int .i64 q) := (HB0.out.cell (p := ⟨w.heap.size, 0, none⟩) (by simp)).trans (cell_of_heap (heap_alloc_new w _) rfl); have r1 : wn.cell? ⟨w.heap.size, 1, none⟩ = some (.slice A zs.length C) := (HB0.out.cell (p := ⟨w.heap.size, 1, none⟩) (by simp)).trans (cell_of_heap (heap_alloc_new w _) rfl); cases fb))
  all_goals go_ret
  all_goals exact ⟨rfl, HBW.out.step2 HB0.out⟩
set_option maxRecDepth 100000 in
set_option maxHeartbeats 8000000 in
theorem turns_none (q : Int) (A lA : Option Addr) (C lC : Nat) (zs : List Int) (l : List Ac) (w : World) (hq2 : q ≤ 9223372036854775807) (hA : A = none → C = 0) (hr : RowI w A zs) (hAl : ∀ a, A = some a → a.block < w.heap.size) (hl : ActsAt w lA l) (hact : ActsOk l) (hq3 : ¬ 300 < q) (hcase : turnB (playN (newT (max q 1) zs) l) = false) :
    Calls Try.prog 4 #[.agg #[.int .i64 q, .slice A zs.length C], .slice lA l.length lC] w fun e w' => e = .returned (.bool true) ∧ Below w.heap.size w w' := by
  obtain ⟨T, hT⟩ : ∃ T, playN (newT (max q 1) zs) l = T := ⟨_, rfl⟩
  rw [hT] at hcase
  have HTE := Lib.hid hT
  have HFT : Hid (Fit l.length (max q 1) zs T) := Lib.hid (hT ▸ (Fit.new (max q 1) zs (by omega)).play l)
  clear hT
  have hc0 : T.cur = 0 ∧ T.ready.length = 0 := by
    unfold turnB at hcase
    simp at hcase
    exact ⟨hcase.1, by simp [hcase.2]⟩
  have HT1 : Hid (turnT T = T) := Lib.hid (by unfold turnT; rw [if_neg (by simpa using hc0.1), if_pos hc0.2])
  have HTB : Hid (tickB T = false ∧ tickT T = T) := Lib.hid (by
    have : isB T 0 = false := by unfold isB; rw [decide_eq_false (by simpa using hc0.1)]; rfl
    exact ⟨by unfold tickB; rw [this]; rfl, by unfold tickT; rw [this]; rfl⟩)
  obtain ⟨hc1, hc2⟩ := hc0
  have HC1 := Lib.hid hc1
  have HC2 := Lib.hid hc2
  have HCS := Lib.hid hcase
  clear hcase hc1 hc2
  have hq4 : decide (300 < q) = false := decide_eq_false hq3
  have HR := Lib.hid hr
  have HL := Lib.hid hl
  have HAL := Lib.hid hAl
  have HACT := Lib.hid hact
  have HBW : Hid (Below w.heap.size w (w.alloc (.cells #[.int .i64 q, .slice A zs.length C] 32))) := Lib.hid ((Below.refl _ w).alloc (Nat.le_refl _) _)
  have HB0 : Hid (Below (w.alloc (.cells #[.int .i64 q, .slice A zs.length C] 32)).heap.size (w.alloc (.cells #[.int .i64 q, .slice A zs.length C] 32)) (w.alloc (.cells #[.int .i64 q, .slice A zs.length C] 32))) := Lib.hid (Below.refl _ _)
  clear hr hl hAl hact
  go_enter Try.func4, Try.ntmps4
  go_wp2_with (first
    | (go_at_call 9; refine (awake_calls _).mono ?_; rintro e wn ⟨rfl, hb⟩; replace HB0 := Lib.hid (HB0.out.step2 hb); clear hb; (try clear r0 r1); have r0 : wn.cell? ⟨w.heap.size, 0, none⟩ = some (.int .i64 q) := (HB0.out.cell (p := ⟨w.heap.size, 0, none⟩) (by simp)).trans (cell_of_heap (heap_alloc_new w _) rfl); have r1 : wn.cell? ⟨w.heap.size, 1, none⟩ = some (.slice A zs.length C) := (HB0.out.cell (p := ⟨w.heap.size, 1, none⟩) (by simp)).trans (cell_of_heap (heap_alloc_new w _) rfl))
    | (go_at_call 13; refine (few_calls q A zs.length C lA lC l _ (HL.out.below (HBW.out.step2 HB0.out))).mono ?_; rintro e wn ⟨⟨fb, rfl, hf⟩, hb⟩; have HF := Lib.hid hf; replace HB0 := Lib.hid (HB0.out.step2 hb); clear hb hf; (try clear r0 r1); have r0 : wn.cell? ⟨w.heap.size, 0, none⟩ = some (.int .i64 q) := (HB0.out.cell (p := ⟨w.heap.size, 0, none⟩) (by simp)).trans (cell_of_heap (heap_alloc_new w _) rfl); have r1 : wn.cell? ⟨w.heap.size, 1, none⟩ = some (.slice A zs.length C) := (HB0.out.cell (p := ⟨w.heap.size, 1, none⟩) (by simp)).trans (cell_of_heap (heap_alloc_new w _) rfl); cases fb)
    | (go_at_call 14; refine (played_calls q A lA C lC zs l _ hq2 hA (HR.out.below (HBW.out.step2 HB0.out)) (fun a ha => Nat.lt_of_lt_of_le (HAL.out a ha) (HBW.out.step2 HB0.out).size) (HL.out.below (HBW.out.step2 HB0.out)) (HF.out (by first | rfl | trivial)).hs (HF.out (by first | rfl | trivial)).hl HACT.out).mono ?_; rintro e wp ⟨tb, rfl, hcz⟩; have HW := Lib.hid (HBW.out.step2 HB0.out); have HBP := Lib.hid (HB0.out.step2 hcz.out); rw [HTE.out] at hcz; have HCZ := Lib.hid hcz; clear hcz r0 r1; have r0 : wp.cell? ⟨w.heap.size, 0, none⟩ = some (.int .i64 q) := (HBP.out.cell (p := ⟨w.heap.size, 0, none⟩) (by simp)).trans (cell_of_heap (heap_alloc_new w _) rfl); have r1 : wp.cell? ⟨w.heap.size, 1, none⟩ = some (.slice A zs.length C) := (HBP.out.cell (p := ⟨w.heap.size, 1, none⟩) (by simp)).trans (cell_of_heap (heap_alloc_new w _) rfl))
    | (go_at_call 15; refine (turn_cz HCZ.out (by have := HC2.out; omega) (by rw [HFT.out.s]; have := (HF.out (by first | rfl | trivial)).hs; omega)).mono ?_; rintro e w2 ⟨rfl, hc⟩; rw [HCS.out]; rw [HT1.out] at hc; replace HCZ := Lib.hid hc; clear hc)
    | (go_at_call 16; refine (ready_cz HCZ.out (by have := HC2.out; omega)).mono ?_; rintro e w2 ⟨A2, C2, rfl, ho, hb, hc⟩; rw [HC2.out]; replace HCZ := Lib.hid hc; clear hc ho hb)
    | (go_at_call 17; refine (current_z HCZ.out).mono ?_; rintro e w2 ⟨rfl, hc⟩; rw [HC1.out]; replace HCZ := Lib.hid hc; clear hc)
    | (go_at_call 18; refine (tick_cz HCZ.out (HFT.out.tickOk (by have := (HF.out (by first | rfl | trivial)).hl; omega) (by omega))).mono ?_; rintro e w2 ⟨rfl, hc⟩; rw [HTB.out.1]; rw [HTB.out.2] at hc; replace HCZ := Lib.hid hc; clear hc))
  · go_ret
    exact ⟨rfl, HBW.out.step2 HB0.out⟩
  · go_ret
    exact ⟨rfl, HW.out.step2 HCZ.out.out⟩
set_option maxRecDepth 100000 in
set_option maxHeartbeats 8000000 in
theorem turns_call (q : Int) (A lA : Option Addr) (C lC : Nat) (zs : List Int) (l : List Ac) (w : World) (hq2 : q ≤ 9223372036854775807) (hA : A = none → C = 0) (hr : RowI w A zs) (hAl : ∀ a, A = some a → a.block < w.heap.size) (hl : ActsAt w lA l) (hact : ActsOk l) (hq3 : ¬ 300 < q) (hcase : turnB (playN (newT (max q 1) zs) l) = true) (h0 : isB (turnT (playN (newT (max q 1) zs) l)) 0 = false) :
    Calls Try.prog 4 #[.agg #[.int .i64 q, .slice A zs.length C], .slice lA l.length lC] w fun e w' => e = .returned (.bool true) ∧ Below w.heap.size w w' := by
  obtain ⟨T, hT⟩ : ∃ T, playN (newT (max q 1) zs) l = T := ⟨_, rfl⟩
  rw [hT] at hcase
  have HTE := Lib.hid hT
  have HFT : Hid (Fit l.length (max q 1) zs T) := Lib.hid (hT ▸ (Fit.new (max q 1) zs (by omega)).play l)
  clear hT
  rw [HTE.out] at h0
  obtain ⟨T1, hT1⟩ : ∃ T1, turnT T = T1 := ⟨_, rfl⟩
  obtain ⟨hti, htn⟩ := turn_facts HFT.out hcase
  have hf1 := HFT.out.turn
  rw [hT1] at hti h0 hf1
  have HT1 := Lib.hid hT1
  have HF1 : Hid (Fit l.length (max q 1) zs T1) := Lib.hid hf1
  have HTI : Hid (turnI T = T1.cur) := Lib.hid hti.symm
  have HCN : Hid (T1.cur ≠ 0) := Lib.hid (by rw [hti]; exact htn)
  have HCS := Lib.hid hcase
  clear hcase hT1 hti htn hf1
  have hq4 : decide (300 < q) = false := decide_eq_false hq3
  have HK := Lib.hid (call_facts HF1.out HCN.out h0)
  clear h0
  have HR := Lib.hid hr
  have HL := Lib.hid hl
  have HAL := Lib.hid hAl
  have HACT := Lib.hid hact
  have HBW : Hid (Below w.heap.size w (w.alloc (.cells #[.int .i64 q, .slice A zs.length C] 32))) := Lib.hid ((Below.refl _ w).alloc (Nat.le_refl _) _)
  have HB0 : Hid (Below (w.alloc (.cells #[.int .i64 q, .slice A zs.length C] 32)).heap.size (w.alloc (.cells #[.int .i64 q, .slice A zs.length C] 32)) (w.alloc (.cells #[.int .i64 q, .slice A zs.length C] 32))) := Lib.hid (Below.refl _ _)
  clear hr hl hAl hact
  go_enter Try.func4, Try.ntmps4
  go_wp2_with (first
    | (go_at_call 9; refine (awake_calls _).mono ?_; rintro e wn ⟨rfl, hb⟩; replace HB0 := Lib.hid (HB0.out.step2 hb); clear hb; (try clear r0 r1); have r0 : wn.cell? ⟨w.heap.size, 0, none⟩ = some (.int .i64 q) := (HB0.out.cell (p := ⟨w.heap.size, 0, none⟩) (by simp)).trans (cell_of_heap (heap_alloc_new w _) rfl); have r1 : wn.cell? ⟨w.heap.size, 1, none⟩ = some (.slice A zs.length C) := (HB0.out.cell (p := ⟨w.heap.size, 1, none⟩) (by simp)).trans (cell_of_heap (heap_alloc_new w _) rfl))
    | (go_at_call 13; refine (few_calls q A zs.length C lA lC l _ (HL.out.below (HBW.out.step2 HB0.out))).mono ?_; rintro e wn ⟨⟨fb, rfl, hf⟩, hb⟩; have HF := Lib.hid hf; replace HB0 := Lib.hid (HB0.out.step2 hb); clear hb hf; (try clear r0 r1); have r0 : wn.cell? ⟨w.heap.size, 0, none⟩ = some (.int .i64 q) := (HB0.out.cell (p := ⟨w.heap.size, 0, none⟩) (by simp)).trans (cell_of_heap (heap_alloc_new w _) rfl); have r1 : wn.cell? ⟨w.heap.size, 1, none⟩ = some (.slice A zs.length C) := (HB0.out.cell (p := ⟨w.heap.size, 1, none⟩) (by simp)).trans (cell_of_heap (heap_alloc_new w _) rfl); cases fb)
    | (go_at_call 14; refine (played_calls q A lA C lC zs l _ hq2 hA (HR.out.below (HBW.out.step2 HB0.out)) (fun a ha => Nat.lt_of_lt_of_le (HAL.out a ha) (HBW.out.step2 HB0.out).size) (HL.out.below (HBW.out.step2 HB0.out)) (HF.out (by first | rfl | trivial)).hs (HF.out (by first | rfl | trivial)).hl HACT.out).mono ?_; rintro e wp ⟨tb, rfl, hcz⟩; have HW := Lib.hid (HBW.out.step2 HB0.out); have HBP := Lib.hid (HB0.out.step2 hcz.out); rw [HTE.out] at hcz; have HCZ := Lib.hid hcz; clear hcz r0 r1; have r0 : wp.cell? ⟨w.heap.size, 0, none⟩ = some (.int .i64 q) := (HBP.out.cell (p := ⟨w.heap.size, 0, none⟩) (by simp)).trans (cell_of_heap (heap_alloc_new w _) rfl); have r1 : wp.cell? ⟨w.heap.size, 1, none⟩ = some (.slice A zs.length C) := (HBP.out.cell (p := ⟨w.heap.size, 1, none⟩) (by simp)).trans (cell_of_heap (heap_alloc_new w _) rfl))
    | (go_at_call 15; refine (turn_cz HCZ.out (by have h1 := HFT.out.nr; have := (HF.out (by first | rfl | trivial)).hl; omega) (by rw [HFT.out.s]; have := (HF.out (by first | rfl | trivial)).hs; omega)).mono ?_; rintro e w2 ⟨rfl, hc⟩; rw [HCS.out, HTI.out]; rw [HT1.out] at hc; replace HCZ := Lib.hid hc; clear hc)
    | (go_at_call 19; refine (call_cz HCZ.out HF1.out.good.curOk).mono ?_; rintro e w2 ⟨rfl, hc⟩; rw [HK.out.1]; rw [HK.out.2.1] at hc; replace HCZ := Lib.hid hc; clear hc)
    | (go_at_call 17; refine (current_z HCZ.out).mono ?_; rintro e w2 ⟨rfl, hc⟩; replace HCZ := Lib.hid hc; clear hc)
    | (go_at_call 18; refine (tick_cz HCZ.out (HF1.out.tickOk (by have := (HF.out (by first | rfl | trivial)).hl; omega) (by omega))).mono ?_; rintro e w2 ⟨rfl, hc⟩; rw [HK.out.2.2.1]; rw [HK.out.2.2.2.1] at hc; replace HCZ := Lib.hid hc; clear hc)
    | (go_at_call 20; refine (answer_cz HCZ.out HF1.out.good.curOk).mono ?_; rintro e w2 ⟨rfl, hc⟩; rw [HK.out.2.2.2.2]; replace HCZ := Lib.hid hc; clear hc))
  · go_ret
    exact ⟨rfl, HBW.out.step2 HB0.out⟩
  · go_ret
    exact ⟨rfl, HW.out.step2 HCZ.out.out⟩
set_option maxRecDepth 100000 in
set_option maxHeartbeats 8000000 in
theorem turns_go (q : Int) (A lA : Option Addr) (C lC : Nat) (zs : List Int) (l : List Ac) (w : World) (hq2 : q ≤ 9223372036854775807) (hA : A = none → C = 0) (hr : RowI w A zs) (hAl : ∀ a, A = some a → a.block < w.heap.size) (hl : ActsAt w lA l) (hact : ActsOk l) (hq3 : ¬ 300 < q) (hcase : turnB (playN (newT (max q 1) zs) l) = true) (h0 : isB (turnT (playN (newT (max q 1) zs) l)) 0 = true) :
    Calls Try.prog 4 #[.agg #[.int .i64 q, .slice A zs.length C], .slice lA l.length lC] w fun e w' => e = .returned (.bool true) ∧ Below w.heap.size w w' := by
  obtain ⟨T, hT⟩ : ∃ T, playN (newT (max q 1) zs) l = T := ⟨_, rfl⟩
  rw [hT] at hcase
  have HTE := Lib.hid hT
  have HFT : Hid (Fit l.length (max q 1) zs T) := Lib.hid (hT ▸ (Fit.new (max q 1) zs (by omega)).play l)
  clear hT
  rw [HTE.out] at h0
  obtain ⟨T1, hT1⟩ : ∃ T1, turnT T = T1 := ⟨_, rfl⟩
  obtain ⟨hti, htn⟩ := turn_facts HFT.out hcase
  have hf1 := HFT.out.turn
  rw [hT1] at hti h0 hf1
  have HT1 := Lib.hid hT1
  have HF1 : Hid (Fit l.length (max q 1) zs T1) := Lib.hid hf1
  have HTI : Hid (turnI T = T1.cur) := Lib.hid hti.symm
  have HCN : Hid (T1.cur ≠ 0) := Lib.hid (by rw [hti]; exact htn)
  have HCS := Lib.hid hcase
  clear hcase hT1 hti htn hf1
  have hq4 : decide (300 < q) = false := decide_eq_false hq3
  obtain ⟨T2, T3, hmid⟩ := mid_facts HF1.out h0
  have HK := Lib.hid hmid
  clear h0 hmid
  have HR := Lib.hid hr
  have HL := Lib.hid hl
  have HAL := Lib.hid hAl
  have HACT := Lib.hid hact
  have HBW : Hid (Below w.heap.size w (w.alloc (.cells #[.int .i64 q, .slice A zs.length C] 32))) := Lib.hid ((Below.refl _ w).alloc (Nat.le_refl _) _)
  have HB0 : Hid (Below (w.alloc (.cells #[.int .i64 q, .slice A zs.length C] 32)).heap.size (w.alloc (.cells #[.int .i64 q, .slice A zs.length C] 32)) (w.alloc (.cells #[.int .i64 q, .slice A zs.length C] 32))) := Lib.hid (Below.refl _ _)
  clear hr hl hAl hact
  go_enter Try.func4, Try.ntmps4
  go_wp2_with (first
    | (go_at_call 9; refine (awake_calls _).mono ?_; rintro e wn ⟨rfl, hb⟩; replace HB0 := Lib.hid (HB0.out.step2 hb); clear hb; (try clear r0 r1); have r0 : wn.cell? ⟨w.heap.size, 0, none⟩ = some (.int .i64 q) := (HB0.out.cell (p := ⟨w.heap.size, 0, none⟩) (by simp)).trans (cell_of_heap (heap_alloc_new w _) rfl); have r1 : wn.cell? ⟨w.heap.size, 1, none⟩ = some (.slice A zs.length C) := (HB0.out.cell (p := ⟨w.heap.size, 1, none⟩) (by simp)).trans (cell_of_heap (heap_alloc_new w _) rfl))
    | (go_at_call 13; refine (few_calls q A zs.length C lA lC l _ (HL.out.below (HBW.out.step2 HB0.out))).mono ?_; rintro e wn ⟨⟨fb, rfl, hf⟩, hb⟩; have HF := Lib.hid hf; replace HB0 := Lib.hid (HB0.out.step2 hb); clear hb hf; (try clear r0 r1); have r0 : wn.cell? ⟨w.heap.size, 0, none⟩ = some (.int .i64 q) := (HB0.out.cell (p := ⟨w.heap.size, 0, none⟩) (by simp)).trans (cell_of_heap (heap_alloc_new w _) rfl); have r1 : wn.cell? ⟨w.heap.size, 1, none⟩ = some (.slice A zs.length C) := (HB0.out.cell (p := ⟨w.heap.size, 1, none⟩) (by simp)).trans (cell_of_heap (heap_alloc_new w _) rfl); cases fb)
    | (go_at_call 14; refine (played_calls q A lA C lC zs l _ hq2 hA (HR.out.below (HBW.out.step2 HB0.out)) (fun a ha => Nat.lt_of_lt_of_le (HAL.out a ha) (HBW.out.step2 HB0.out).size) (HL.out.below (HBW.out.step2 HB0.out)) (HF.out (by first | rfl | trivial)).hs (HF.out (by first | rfl | trivial)).hl HACT.out).mono ?_; rintro e wp ⟨tb, rfl, hcz⟩; have HW := Lib.hid (HBW.out.step2 HB0.out); have HBP := Lib.hid (HB0.out.step2 hcz.out); rw [HTE.out] at hcz; have HCZ := Lib.hid hcz; clear hcz r0 r1; have r0 : wp.cell? ⟨w.heap.size, 0, none⟩ = some (.int .i64 q) := (HBP.out.cell (p := ⟨w.heap.size, 0, none⟩) (by simp)).trans (cell_of_heap (heap_alloc_new w _) rfl); have r1 : wp.cell? ⟨w.heap.size, 1, none⟩ = some (.slice A zs.length C) := (HBP.out.cell (p := ⟨w.heap.size, 1, none⟩) (by simp)).trans (cell_of_heap (heap_alloc_new w _) rfl))
    | (go_at_call 15; refine (turn_cz HCZ.out (by have h1 := HFT.out.nr; have := (HF.out (by first | rfl | trivial)).hl; omega) (by rw [HFT.out.s]; have := (HF.out (by first | rfl | trivial)).hs; omega)).mono ?_; rintro e w2 ⟨rfl, hc⟩; rw [HCS.out, HTI.out]; rw [HT1.out] at hc; replace HCZ := Lib.hid hc; clear hc)
    | (go_at_call 19; refine (call_cz HCZ.out HF1.out.good.curOk).mono ?_; rintro e w2 ⟨rfl, hc⟩; rw [HK.out.e1]; rw [HK.out.t2] at hc; replace HCZ := Lib.hid hc; clear hc)
    | (go_at_call 18; refine (tick_cz HCZ.out (HK.out.f2.tickOk (by have := (HF.out (by first | rfl | trivial)).hl; omega) (by omega))).mono ?_; rintro e w2 ⟨rfl, hc⟩; rw [HK.out.b2]; rw [HK.out.t2'] at hc; replace HCZ := Lib.hid hc; clear hc)
    | (go_at_call 20; refine (answer_cz HCZ.out HK.out.f2.good.curOk).mono ?_; rintro e w2 ⟨rfl, hc⟩; rw [HK.out.e2]; rw [HK.out.t3] at hc; replace HCZ := Lib.hid hc; clear hc)
    | (go_at_call 21; refine (ticks_lz HCZ.out).mono ?_; rintro e w2 ⟨rfl, hc⟩; replace HCZ := Lib.hid hc; clear hc)
    | (go_at_call 22; refine (left_lz HCZ.out).mono ?_; rintro e w2 ⟨rfl, hc⟩; replace HCZ := Lib.hid hc; clear hc))
  · go_ret
    exact ⟨rfl, HBW.out.step2 HB0.out⟩
  · have hlI : leftI T3 = T3.left := by unfold leftI; rw [if_neg (by rw [HK.out.cur]; exact HCN.out)]
    obtain ⟨ln, hln⟩ : ∃ ln : Nat, T3.left = (ln : Int) := ⟨T3.left.toNat, by have := HK.out.f3.l0; omega⟩
    have hln3 : ln ≤ 300 := by have h1 := HK.out.f3.l1; rw [HK.out.f3.q] at h1; omega
    rw [hlI, hln]
    have HLN := Lib.hid hln
    have HL2 := Lib.hid (HF.out (by first | rfl | trivial)).hl
    have HSN : Hid (∀ j : Nat, j ≤ ln → TickAt l.length (max q 1) zs T3 j (tickN T3 j)) := Lib.hid (fun j hj => tickN_ok HK.out.f3 HK.out.is j (by rw [HLN.out]; omega))
    clear hlI hln
    go_loopw [10] (fun i wr => ∃ j : Nat, j ≤ ln ∧ i = .int .i64 j ∧ Hid (Cz wn wr tb (tickN T3 j))) (fun i _ => ln - (intOf i).toNat)
    case atStart => exact ⟨0, by omega, rfl, HCZ⟩
    case round =>
      obtain ⟨j, hj, rfl, hC⟩ := hrel
      have HS := Lib.hid (HSN.out j hj)
      by_cases hlt : j < ln
      · have HST := Lib.hid (tick_step HS.out.fit.good HS.out.is (by rw [HS.out.left, HLN.out]; omega))
        have HCU : Hid ((tickT (tickN T3 j)).cur = T1.cur) := Lib.hid (HST.out.2.1.trans (HS.out.cur.trans HK.out.cur))
        have j0 : (0 : Int) ≤ (j : Int) := by omega
        have j1 : (j : Int) < (ln : Int) := by omega
        go_wp2_with (first
          | (go_at_call 18; refine (tick_cz hC.out (HS.out.fit.tickOk (by have := HL2.out; omega) (by omega))).mono ?_; rintro e w4 ⟨rfl, hc⟩; rw [HST.out.1]; have HC4 := Lib.hid hc; clear hc)
          | (go_at_call 17; refine (current_z HC4.out).mono ?_; rintro e w5 ⟨rfl, hc⟩; rw [HCU.out]; have HC5 := Lib.hid hc; clear hc))
        go_roundw
        case rel => exact ⟨j + 1, by omega, by go_num, HC5⟩
        case measure => simp [intOf]; omega
      · obtain rfl : j = ln := by omega
        have hl0 : (tickN T3 j).left = 0 := by rw [HS.out.left, HLN.out]; omega
        have HE := Lib.hid (tick_end HS.out.is hl0)
        have hTK : (tickN T3 j).ticks = T3.ticks + (j : Int) := HS.out.ticks
        obtain ⟨S, hS⟩ : ∃ S, tickT (tickN T3 j) = S := ⟨_, rfl⟩
        rw [hS] at HE
        have HSE := Lib.hid hS
        have hb1 := HK.out.f3.t0
        have hb2 := HK.out.f3.t1
        have hb3 := HL2.out
        have HTK : Hid (S.ticks = T3.ticks + (j : Int)) := Lib.hid (HE.out.2.2.2.trans hTK)
        have hcur := HS.out.cur.trans HK.out.cur
        have HR1 : Hid (S.ready = T3.ready ++ [T1.cur]) := Lib.hid (by rw [HE.out.2.2.1, HS.out.ready, hcur])
        have hr9 := HK.out.f3.nr
        obtain ⟨k, hk⟩ : ∃ k, T3.ready.length = k := ⟨_, rfl⟩
        have HRL : Hid (S.ready.length = k + 1) := Lib.hid (by rw [HR1.out]; simp [hk])
        have HRG : Hid (S.ready.getD k 0 = T1.cur) := Lib.hid (by rw [HR1.out]; simp [List.getD, ← hk])
        have hk9 : k ≤ 200 := by omega
        clear hS hTK hcur hr9 hk
        generalize T3.ticks = tk at *
        go_wp2_with (first
          | (go_at_call 18; refine (tick_cz hC.out (HS.out.fit.tickOk (by have := HL2.out; omega) (by omega))).mono ?_; rintro e w4 ⟨rfl, hc⟩; rw [HE.out.1]; rw [HSE.out] at hc; have HC4 := Lib.hid hc; clear hc)
          | (go_at_call 17; refine (current_z HC4.out).mono ?_; rintro e w5 ⟨rfl, hc⟩; rw [HE.out.2.1]; replace HC4 := Lib.hid hc; clear hc)
          | (go_at_call 21; refine (ticks_lz HC4.out).mono ?_; rintro e w5 ⟨rfl, hc⟩; rw [HTK.out]; replace HC4 := Lib.hid hc; clear hc)
          | (go_at_call 16; refine (ready_cz HC4.out (by rw [HRL.out]; omega)).mono ?_; rintro e w6 ⟨A2, C2, rfl, ho, hb, hc⟩; have hro := RowI.of_own ho; obtain ⟨g, o, rfl, hg, z0⟩ := hro k (by rw [HRL.out]; omega); rw [HRG.out] at z0; rw [HRL.out]; have HC6 := Lib.hid hc; clear ho hb hc hro))
        all_goals go_ret
        all_goals exact ⟨rfl, HW.out.step2 HC6.out.out⟩
theorem law_turns (q : Int) (A lA : Option Addr) (C lC : Nat) (zs : List Int) (l : List Ac) (w : World) (hq2 : q ≤ 9223372036854775807) (hA : A = none → C = 0) (hr : RowI w A zs) (hAl : ∀ a, A = some a → a.block < w.heap.size) (hl : ActsAt w lA l) (hact : ActsOk l) :
    Calls Try.prog 4 #[.agg #[.int .i64 q, .slice A zs.length C], .slice lA l.length lC] w fun e w' => e = .returned (.bool true) ∧ Below w.heap.size w w' := by
  by_cases hq3 : 300 < q
  · exact turns_big q A lA C lC zs l w hq2 hA hr hAl hl hact hq3
  · cases hcase : turnB (playN (newT (max q 1) zs) l) with
    | false => exact turns_none q A lA C lC zs l w hq2 hA hr hAl hl hact hq3 hcase
    | true =>
      cases h0 : isB (turnT (playN (newT (max q 1) zs) l)) 0 with
      | false => exact turns_call q A lA C lC zs l w hq2 hA hr hAl hl hact hq3 hcase h0
      | true => exact turns_go q A lA C lC zs l w hq2 hA hr hAl hl hact hq3 hcase h0
end Go.Proofs.Ytnbjknjnpfmklaa
