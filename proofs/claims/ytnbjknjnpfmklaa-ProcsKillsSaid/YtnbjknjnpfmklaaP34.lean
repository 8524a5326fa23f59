/- Contract of the reference: Wake. -/
import Derived.Test.YtnbjknjnpfmklaaP33
namespace Go.Proofs.Ytnbjknjnpfmklaa
open Go.RowKit

set_option maxHeartbeats 2000000 in
theorem rwake_none (T : Tb) (m : Nat) (p : RA) (c : Int) (pid : Int) (w : World) (h : RefAt w m p c T) (hc : Cnt c T) (h1 : prAt T.P pid = none) :
    Calls Try.prog 44 #[.pointer (some ⟨m, 0, none⟩), .int .i64 pid] w fun e w' => e = .returned (.int .i64 (wakeE T pid)) ∧ Rx w m p (wakeT T pid) w' := by
  have e1 : wakeE T pid = 4 := by unfold wakeE; rw [h1]
  have e2 : wakeT T pid = T := by unfold wakeT; rw [e1]; rfl
  rw [e1, e2]
  have HT := Lib.hid h
  have HC := Lib.hid hc
  obtain ⟨c0, c1, c2, c3, c4, c5, c6, c7, hf⟩ := h.cells
  by_cases h2 : pid < 1
  · clear h hc h1 e1 e2
    go_enter Try.func44, Try.ntmps44
    go_wp2
    go_ret
    exact ⟨rfl, Rx.refl HT.out HC.out⟩
  · have h3 : (T.P.length : Int) < pid := by
      unfold prAt at h1
      rw [if_pos (by omega)] at h1
      have := List.getElem?_eq_none_iff.1 h1
      omega
    have h4 : decide (pid < 1) = false := decide_eq_false h2
    clear h hc h1 e1 e2
    go_enter Try.func44, Try.ntmps44
    go_wp2
    go_ret
    exact ⟨rfl, Rx.refl HT.out HC.out⟩
set_option maxHeartbeats 2000000 in
theorem rwake_no (T : Tb) (m : Nat) (p : RA) (c : Int) (j : Nat) (w : World) (h : RefAt w m p c T) (hc : Cnt c T) (hj : j < T.P.length) (hn : T.P.length ≤ 100000) (h1 : T.P[j].state = 6 ∨ waitsB T.P[j].state = false) :
    Calls Try.prog 44 #[.pointer (some ⟨m, 0, none⟩), .int .i64 ((j : Int) + 1)] w fun e w' => e = .returned (.int .i64 (wakeE T ((j : Int) + 1))) ∧ Rx w m p (wakeT T ((j : Int) + 1)) w' := by
  have hp : prAt T.P ((j : Int) + 1) = some T.P[j] := by
    unfold prAt
    rw [if_pos (by omega), show ((j : Int) + 1 - 1).toNat = j by omega, List.getElem?_eq_getElem hj]
  have e0 : wakeE T ((j : Int) + 1) = if T.P[j].state = 6 then 4 else if waitsB T.P[j].state = false then 6 else 0 := by unfold wakeE; rw [hp]
  have HT := Lib.hid h
  have HC := Lib.hid hc
  have j0 : (0 : Int) ≤ (j : Int) := by omega
  have j1 : (j : Int) < (T.P.length : Int) := by omega
  have j2 : decide ((j : Int) + 1 < 1) = false := decide_eq_false (by omega)
  have j3 : ((j : Int) + 1) - 1 = (j : Int) := by omega
  have j4 : decide ((T.P.length : Int) < (j : Int) + 1) = false := decide_eq_false (by omega)
  obtain ⟨c0, c1, c2, c3, c4, c5, c6, c7, hf⟩ := h.cells
  have hlt := h.lt
  obtain ⟨bl, hA, hbl, hbm, hC, hfb, p0, p1, p2, p3, p4⟩ := h.pcells j hj
  rw [hA] at c7
  have HW := Lib.hid (fun w => rwaits_calls T.P[j].state w)
  clear h hc hp hA p0 p1 p3 p4 hC
  by_cases h6 : T.P[j].state = 6
  · have e1 : wakeE T ((j : Int) + 1) = 4 := e0.trans (if_pos h6)
    have e2 : wakeT T ((j : Int) + 1) = T := by unfold wakeT; rw [e1]; rfl
    rw [e1, e2]
    rw [h6] at p2
    clear e0 e1 e2 h1 h6
    go_enter Try.func44, Try.ntmps44
    go_wp2
    all_goals go_ret
    all_goals exact ⟨rfl, Rx.refl HT.out HC.out⟩
  · have h7 : waitsB T.P[j].state = false := h1.resolve_left h6
    have e1 : wakeE T ((j : Int) + 1) = 6 := by rw [e0, if_neg h6, if_pos h7]
    have e2 : wakeT T ((j : Int) + 1) = T := by unfold wakeT; rw [e1]; rfl
    rw [e1, e2]
    rw [h7] at HW
    have h8 : (T.P[j].state == 6) = false := by simpa using h6
    generalize T.P[j].state = st at *
    clear e0 e1 e2 h1 h6 h7
    go_enter Try.func44, Try.ntmps44
    go_wp2_with (go_at_call 61; refine (HW.out _).mono ?_; rintro e w2 ⟨rfl, hb⟩; have HB := Lib.hid hb; clear hb)
    all_goals go_ret
    all_goals exact ⟨rfl, Rx.same (HT.out.below HB.out) HC.out (Mut.of_below HB.out)⟩
set_option maxHeartbeats 4000000 in
theorem rwake_go (T : Tb) (m : Nat) (p : RA) (c : Int) (j : Nat) (w : World) (h : RefAt w m p c T) (hc : Cnt c T) (hj : j < T.P.length) (hn : T.P.length ≤ 100000) (hr : T.ready.length ≤ 90000) (h6 : T.P[j].state ≠ 6) (h7 : waitsB T.P[j].state = true) :
    Calls Try.prog 44 #[.pointer (some ⟨m, 0, none⟩), .int .i64 ((j : Int) + 1)] w fun e w' => e = .returned (.int .i64 (wakeE T ((j : Int) + 1))) ∧ Rx w m p (wakeT T ((j : Int) + 1)) w' := by
  have hp : prAt T.P ((j : Int) + 1) = some T.P[j] := by
    unfold prAt
    rw [if_pos (by omega), show ((j : Int) + 1 - 1).toNat = j by omega, List.getElem?_eq_getElem hj]
  have e0 : wakeE T ((j : Int) + 1) = 0 := by unfold wakeE; rw [hp]; simp [h6, h7]
  have e2 : wakeT T ((j : Int) + 1) = { T with P := setP T.P ((j : Int) + 1) (fun p => { p with state := 0 }), ready := T.ready ++ [(j : Int) + 1] } := by unfold wakeT; rw [e0]; rfl
  rw [e0, e2]
  have HT := Lib.hid h
  have HC := Lib.hid hc
  have j0 : (0 : Int) ≤ (j : Int) := by omega
  have j1 : (j : Int) < (T.P.length : Int) := by omega
  have j2 : decide ((j : Int) + 1 < 1) = false := decide_eq_false (by omega)
  have j3 : ((j : Int) + 1) - 1 = (j : Int) := by omega
  have j4 : decide ((T.P.length : Int) < (j : Int) + 1) = false := decide_eq_false (by omega)
  obtain ⟨c0, c1, c2, c3, c4, c5, c6, c7, hf⟩ := h.cells
  have hlt := h.lt
  obtain ⟨bl, hA, hbl, hbm, hC, hfb, p0, p1, p2, p3, p4⟩ := h.pcells j hj
  rw [hA] at c7
  have HA := Lib.hid hA
  have HW := Lib.hid (fun w => rwaits_calls T.P[j].state w)
  rw [h7] at HW
  have h8 : (T.P[j].state == 6) = false := by simpa using h6
  have HJ := Lib.hid hj
  generalize T.P[j].state = st at *
  clear h hc hp hA p0 p1 p3 p4 hC e0 e2 h7 hj h6
  go_enter Try.func44, Try.ntmps44
  go_wp2_with (first
    | (go_at_call 61; refine (HW.out _).mono ?_; rintro e w1 ⟨rfl, hb⟩; have HB := Lib.hid hb; have HT1 := Lib.hid (HT.out.below HB.out); clear hb c0 c1 c2 c3 c4 c5 c6 c7 hf hlt p2 hfb hbl; obtain ⟨c0, c1, c2, c3, c4, c5, c6, c7, hf⟩ := HT1.out.cells; have hlt := HT1.out.lt; obtain ⟨b2, hA2, hbl, _, _, hfb, _, _, p2, _, _⟩ := HT1.out.pcells j HJ.out; obtain rfl : bl = b2 := (by have := HA.out.symm.trans hA2; simpa using this); rw [hA2] at c7; clear hA2; have HT4 : Hid (RefAt (w1.setCell ⟨bl, j * 5 + 2, none⟩ (.int .i64 0)) m p c { T with P := setP T.P ((j : Int) + 1) (fun p => { p with state := 0 }) }) := Lib.hid (HT1.out.put bl j 2 HA.out HJ.out (by omega) (.int .i64 0) (fun p => { p with state := 0 }) rfl); have HT5 : Hid (RefAt ((w1.setCell ⟨bl, j * 5 + 2, none⟩ (.int .i64 0)).alloc (.cells #[.int .i64 ((j : Int) + 1)] 3)) m p c { T with P := setP T.P ((j : Int) + 1) (fun p => { p with state := 0 }) }) := Lib.hid (HT4.out.below ((Below.refl _ _).alloc (Nat.le_refl _) _)); have HQ : Hid (((w1.setCell ⟨bl, j * 5 + 2, none⟩ (.int .i64 0)).alloc (.cells #[.int .i64 ((j : Int) + 1)] 3)).cell? ⟨w1.heap.size, 0, none⟩ = some (.int .i64 ((j : Int) + 1))) := Lib.hid (by have := cell_of_heap (j := 0) (heap_alloc_new (w1.setCell ⟨bl, j * 5 + 2, none⟩ (.int .i64 0)) (.cells #[.int .i64 ((j : Int) + 1)] 3)) rfl; simpa using this))
    | (at_builtin; go_loud (refine app_w rfl _ _ rfl p.lA p.lC T.ready ((j : Int) + 1) rfl HT5.out.lst _ rfl HQ.out (by omega) ?_; intro g cap w4 ho hg hloc; have HO := Lib.hid ho.out; have HG4 := Lib.hid hg.out; have HL := Lib.hid hloc.out; clear ho hg hloc c0 c1 c2 c3 c4 c5 c6 c7 hf hlt p2 hfb hbl; obtain ⟨c0, c1, c2, c3, c4, c5, c6, c7, hf⟩ := HT5.out.grownL HG4.out; simp only at c0 c1 c2 c3 c4 c5 c6 c7)))
  all_goals go_ret
  all_goals refine ⟨rfl, _, _, HT5.out.push1 g cap HO.out HG4.out HL.out, HC.out, ?_, ?_, rfl⟩
  all_goals first
    | exact rpush_fp (by have := HB.out.size; simp; omega) HL.out
    | exact ((((Mut.of_below HB.out).then (Mut.setCell _ _ _ _ (.inr (.inr ⟨_, HA.out, rfl⟩)))).then (Mut.of_below ((Below.refl _ _).alloc (Nat.le_refl _) _))).then (mutL_fp (mutL HG4.out) fun _ h => h)).then (Mut.setCell _ _ _ _ (.inl rfl))
theorem rwake_calls (T : Tb) (m : Nat) (p : RA) (c : Int) (pid : Int) (w : World) (h : RefAt w m p c T) (hc : Cnt c T) (hn : T.P.length ≤ 100000) (hr : T.ready.length ≤ 90000) :
    Calls Try.prog 44 #[.pointer (some ⟨m, 0, none⟩), .int .i64 pid] w fun e w' => e = .returned (.int .i64 (wakeE T pid)) ∧ Rx w m p (wakeT T pid) w' := by
  cases hp : prAt T.P pid with
  | none => exact rwake_none T m p c pid w h hc hp
  | some q =>
    obtain ⟨x1, x2, x3⟩ := prAt_some hp
    obtain ⟨j, rfl⟩ : ∃ j : Nat, pid = (j : Int) + 1 := ⟨(pid - 1).toNat, by omega⟩
    rw [show ((j : Int) + 1 - 1).toNat = j by omega] at x2
    by_cases h6 : T.P[j].state = 6
    · exact rwake_no T m p c j w h hc x2 hn (.inl h6)
    · cases h7 : waitsB T.P[j].state with
      | false => exact rwake_no T m p c j w h hc x2 hn (.inr h7)
      | true => exact rwake_go T m p c j w h hc x2 hn hr h6 h7
end Go.Proofs.Ytnbjknjnpfmklaa
