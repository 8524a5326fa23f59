/- Contracts of the reference: Wait, Turned, Stop. -/
import Derived.Test.YtnbjknjnpfmklaaP32
namespace Go.Proofs.Ytnbjknjnpfmklaa
open Go.RowKit

theorem setP_congr (P : List Pr) (j : Nat) (hj : j < P.length) (f g : Pr → Pr) (h : f P[j] = g P[j]) : setP P ((j : Int) + 1) f = setP P ((j : Int) + 1) g := by
  apply List.ext_getElem (by rw [len_setP, len_setP])
  intro i h1 h2
  rw [setP_at, setP_at]
  split
  · rename_i e
    obtain rfl : i = j := by omega
    exact h
  · rfl
theorem setP_setP (P : List Pr) (x : Int) (f g : Pr → Pr) : setP (setP P x f) x g = setP P x (fun p => g (f p)) := by
  apply List.ext_getElem (by rw [len_setP, len_setP, len_setP])
  intro i h1 h2
  rw [setP_at, setP_at, setP_at]
  split <;> rfl
/-- The current process is one of the list. -/
theorem Good.cur_at {T : Tb} (g : Good T) (h : T.cur ≠ 0) : ∃ j : Nat, j < T.P.length ∧ T.cur = (j : Int) + 1 := by
  rcases g.cin with h0 | ⟨h1, h2⟩
  · exact absurd h0 h
  · exact ⟨(T.cur - 1).toNat, by omega, by omega⟩

set_option maxHeartbeats 2000000 in
theorem rturned_no (T : Tb) (m : Nat) (p : RA) (c : Int) (a b : Int) (w : World) (h : RefAt w m p c T) (hc : Cnt c T) (g : Good T) (hn : T.P.length ≤ 100000) (ha : 0 ≤ a) (h0 : isB T a = false) :
    Calls Try.prog 45 #[.pointer (some ⟨m, 0, none⟩), .int .i64 a, .int .i64 b] w fun e w' => e = .returned (.int .i64 (turnedE T a)) ∧ Rx w m p (turnedT T a b) w' := by
  have e1 : turnedE T a = 6 := by unfold turnedE; rw [h0]; rfl
  have e2 : turnedT T a b = T := by unfold turnedT; rw [h0]; rfl
  rw [e1, e2]
  have HT := Lib.hid h
  have HC := Lib.hid hc
  have HI := Lib.hid (rstate_calls T m p c w h g hn)
  have hne : (stI T != a) = true := by rw [stI_is T a ha] at h0; simpa using h0
  clear h hc h0 e1 e2
  generalize stI T = st at *
  go_enter Try.func45, Try.ntmps45
  go_wp2_with (go_at_call 60; refine HI.out.mono ?_; rintro e w1 ⟨rfl, hb⟩; have HB := Lib.hid hb; clear hb)
  go_ret
  exact ⟨rfl, Rx.same (HT.out.below HB.out) HC.out (Mut.of_below HB.out)⟩
set_option maxHeartbeats 2000000 in
theorem rturned_yes (T : Tb) (m : Nat) (p : RA) (c : Int) (a b : Int) (w : World) (h : RefAt w m p c T) (hc : Cnt c T) (g : Good T) (hn : T.P.length ≤ 100000) (ha : 0 ≤ a) (h5 : a ≠ 5) (hw : ∀ (j : Nat) (h : j < T.P.length), (T.P[j]'h).state ≠ 5 → (T.P[j]'h).why = ⟨#[]⟩) (h0 : isB T a = true) :
    Calls Try.prog 45 #[.pointer (some ⟨m, 0, none⟩), .int .i64 a, .int .i64 b] w fun e w' => e = .returned (.int .i64 (turnedE T a)) ∧ Rx w m p (turnedT T a b) w' := by
  have e1 : turnedE T a = 0 := by unfold turnedE; rw [h0]; rfl
  have e2 : turnedT T a b = setT T b ⟨#[]⟩ := by unfold turnedT; rw [h0]; rfl
  rw [e1, e2]
  have HT := Lib.hid h
  have HC := Lib.hid hc
  have HI := Lib.hid (rstate_calls T m p c w h g hn)
  have hst : stI T = a := by rw [stI_is T a ha] at h0; simpa using h0
  rw [hst] at HI
  obtain ⟨j, hj, e, e5⟩ := isB_spec g h0
  have HE := Lib.hid e
  have HW := Lib.hid (hw j hj (by rw [e5]; exact h5))
  have j0 : (0 : Int) ≤ (j : Int) := by omega
  have j1 : (j : Int) < (T.P.length : Int) := by omega
  have j3 : ((j : Int) + 1) - 1 = (j : Int) := by omega
  clear h hc h0 e1 e2 hst g e hw e5
  go_enter Try.func45, Try.ntmps45
  go_wp2_with (go_at_call 60; refine HI.out.mono ?_; rintro e w1 ⟨rfl, hb⟩; have HB := Lib.hid hb; have HT1 := Lib.hid (HT.out.below hb); clear hb; obtain ⟨c0, c1, c2, c3, c4, c5, c6, c7, hf⟩ := HT1.out.cells; have hlt := HT1.out.lt; rw [HE.out] at c1; obtain ⟨bl, hA, hbl, hbm, hC, hfb, p0, p1, p2, p3, p4⟩ := HT1.out.pcells j hj; rw [hA] at c7; have HA := Lib.hid hA; clear hA p0 p1 p3 p4 hC)
  go_region
  go_wp2
  go_ret
  have HT3 := (HT1.out.below (Below.refl _ w1).drew).put bl j 2 HA.out hj (by omega) (.int .i64 b) (fun p => { p with state := b }) rfl
  refine ⟨rfl, p, c, HT3.as rfl rfl rfl rfl ?_ rfl rfl, HC.out, ?_, fun _ => .inl, rfl⟩
  · show setP T.P T.cur _ = setP T.P ((j : Int) + 1) _
    rw [HE.out]
    exact setP_congr _ j hj _ _ (by rw [← HW.out])
  · exact (Mut.of_below HB.out.drew).then (Mut.setCell _ _ _ _ (.inr (.inr ⟨_, HA.out, rfl⟩)))
theorem rturned_calls (T : Tb) (m : Nat) (p : RA) (c : Int) (a b : Int) (w : World) (h : RefAt w m p c T) (hc : Cnt c T) (n : Nat) (q : Int) (s : List Int) (f : Fit n q s T) (hn : n ≤ 90000) (ha : 0 ≤ a) (h5 : a ≠ 5) :
    Calls Try.prog 45 #[.pointer (some ⟨m, 0, none⟩), .int .i64 a, .int .i64 b] w fun e w' => e = .returned (.int .i64 (turnedE T a)) ∧ Rx w m p (turnedT T a b) w' := by
  have := f.np
  cases h0 : isB T a with
  | false => exact rturned_no T m p c a b w h hc f.good (by omega) ha h0
  | true => exact rturned_yes T m p c a b w h hc f.good (by omega) ha h5 f.e h0

theorem rwait_no (T : Tb) (m : Nat) (p : RA) (c : Int) (st : Int) (w : World) (h : RefAt w m p c T) (hc : Cnt c T) (h0 : waitsB st = false) :
    Calls Try.prog 43 #[.pointer (some ⟨m, 0, none⟩), .int .i64 st] w fun e w' => e = .returned (.int .i64 (waitE T st)) ∧ Rx w m p (waitT T st) w' := by
  have e1 : waitE T st = 13 := if_pos h0
  have e2 : waitT T st = T := by unfold waitT; rw [e1]; rfl
  rw [e1, e2]
  have HT := Lib.hid h
  have HC := Lib.hid hc
  have HW := Lib.hid (h0 ▸ rwaits_calls st w)
  clear h hc h0 e1 e2
  go_enter Try.func43, Try.ntmps43
  go_wp2_with (go_at_call 61; refine HW.out.mono ?_; rintro e w1 ⟨rfl, hb⟩; have HB := Lib.hid hb; clear hb)
  go_ret
  exact ⟨rfl, Rx.same (HT.out.below HB.out) HC.out (Mut.of_below HB.out)⟩
theorem rwait_state (T : Tb) (m : Nat) (p : RA) (c : Int) (st : Int) (w : World) (h : RefAt w m p c T) (hc : Cnt c T) (g : Good T) (hn : T.P.length ≤ 100000) (h1 : waitsB st = true) (h0 : isB T 0 = false) :
    Calls Try.prog 43 #[.pointer (some ⟨m, 0, none⟩), .int .i64 st] w fun e w' => e = .returned (.int .i64 (waitE T st)) ∧ Rx w m p (waitT T st) w' := by
  have e1 : waitE T st = 6 := by unfold waitE; rw [if_neg (by simp [h1]), if_pos h0]
  have e2 : waitT T st = T := by unfold waitT; rw [e1]; rfl
  rw [e1, e2]
  have HT := Lib.hid h
  have HC := Lib.hid hc
  have HW := Lib.hid (h1 ▸ rwaits_calls st w)
  have HI := Lib.hid (fun W hW => rstate_calls T m p c W hW g hn)
  have hne : (stI T != 0) = true := by rw [stI_is T 0 (by omega)] at h0; simpa using h0
  clear h hc h0 h1 e1 e2
  generalize stI T = sx at *
  go_enter Try.func43, Try.ntmps43
  go_wp2_with (first
    | (go_at_call 61; refine HW.out.mono ?_; rintro e w1 ⟨rfl, hb⟩; have HB := Lib.hid hb; have HT1 := Lib.hid (HT.out.below hb); clear hb)
    | (go_at_call 60; refine (HI.out _ HT1.out).mono ?_; rintro e w2 ⟨rfl, hb⟩; replace HB := Lib.hid (HB.out.step2 hb); clear hb))
  go_ret
  exact ⟨rfl, Rx.same (HT.out.below HB.out) HC.out (Mut.of_below HB.out)⟩
set_option maxHeartbeats 2000000 in
theorem rwait_go (T : Tb) (m : Nat) (p : RA) (c : Int) (st : Int) (w : World) (h : RefAt w m p c T) (g : Good T) (hn : T.P.length ≤ 100000) (hw : ∀ (j : Nat) (h : j < T.P.length), (T.P[j]'h).state ≠ 5 → (T.P[j]'h).why = ⟨#[]⟩) (h1 : waitsB st = true) (h0 : isB T 0 = true) :
    Calls Try.prog 43 #[.pointer (some ⟨m, 0, none⟩), .int .i64 st] w fun e w' => e = .returned (.int .i64 (waitE T st)) ∧ Rx w m p (waitT T st) w' := by
  have e1 : waitE T st = 0 := by unfold waitE; rw [if_neg (by simp [h1]), if_neg (by simp [h0])]
  have e2 : waitT T st = overT (setT T st ⟨#[]⟩) := by unfold waitT; rw [e1]; rfl
  rw [e1, e2]
  have HT := Lib.hid h
  have HWA := Lib.hid (h1 ▸ rwaits_calls st w)
  have HI := Lib.hid (fun W hW => rstate_calls T m p c W hW g hn)
  have hst : stI T = 0 := by rw [stI_is T 0 (by omega)] at h0; simpa using h0
  rw [hst] at HI
  obtain ⟨j, hj, e, e5⟩ := isB_spec g h0
  have HE := Lib.hid e
  have HW := Lib.hid (hw j hj (by rw [e5]; omega))
  have j0 : (0 : Int) ≤ (j : Int) := by omega
  have j1 : (j : Int) < (T.P.length : Int) := by omega
  have j3 : ((j : Int) + 1) - 1 = (j : Int) := by omega
  clear h h0 h1 e1 e2 hst g e hw e5
  go_enter Try.func43, Try.ntmps43
  go_wp2_with (first
    | (go_at_call 61; refine HWA.out.mono ?_; rintro e w1 ⟨rfl, hb⟩; have HB := Lib.hid hb; have HT1 := Lib.hid (HT.out.below hb); clear hb)
    | (go_at_call 60; refine (HI.out _ HT1.out).mono ?_; rintro e w2 ⟨rfl, hb⟩; replace HB := Lib.hid (HB.out.step2 hb); replace HT1 := Lib.hid (HT1.out.below hb); clear hb; obtain ⟨c0, c1, c2, c3, c4, c5, c6, c7, hf⟩ := HT1.out.cells; have hlt := HT1.out.lt; rw [HE.out] at c1; obtain ⟨bl, hA, hbl, hbm, hC, hfb, p0, p1, p2, p3, p4⟩ := HT1.out.pcells j hj; rw [hA] at c7; have HA := Lib.hid hA; clear hA p0 p1 p3 p4 hC))
  go_region
  go_wp2
  go_ret
  have HT3 := ((HT1.out.below (Below.refl _ w2).drew).put bl j 2 HA.out hj (by omega) (.int .i64 st) (fun p => { p with state := st }) rfl).upd 1 (.int .i64 0) c { T with P := setP T.P ((j : Int) + 1) (fun p => { p with state := st }), cur := 0 } (by unfold refC; simp) rfl rfl rfl
  refine ⟨rfl, p, c, HT3.as rfl rfl rfl rfl ?_ rfl rfl, (fun h => absurd rfl h), ?_, fun _ => .inl, rfl⟩
  · show setP T.P T.cur _ = setP T.P ((j : Int) + 1) _
    rw [HE.out]
    exact setP_congr _ j hj _ _ (by rw [← HW.out])
  · exact ((Mut.of_below HB.out.drew).then (Mut.setCell _ _ _ _ (.inr (.inr ⟨_, HA.out, rfl⟩)))).then (Mut.setCell _ _ _ _ (.inl rfl))
theorem rwait_calls (T : Tb) (m : Nat) (p : RA) (c : Int) (st : Int) (w : World) (h : RefAt w m p c T) (hc : Cnt c T) (n : Nat) (q : Int) (s : List Int) (f : Fit n q s T) (hn : n ≤ 90000) :
    Calls Try.prog 43 #[.pointer (some ⟨m, 0, none⟩), .int .i64 st] w fun e w' => e = .returned (.int .i64 (waitE T st)) ∧ Rx w m p (waitT T st) w' := by
  have := f.np
  cases h1 : waitsB st with
  | false => exact rwait_no T m p c st w h hc h1
  | true =>
    cases h0 : isB T 0 with
    | false => exact rwait_state T m p c st w h hc f.good (by omega) h1 h0
    | true => exact rwait_go T m p c st w h f.good (by omega) f.e h1 h0

theorem rstop_no (T : Tb) (m : Nat) (p : RA) (c : Int) (st : Int) (why : ByteArray) (w : World) (h : RefAt w m p c T) (hc : Cnt c T) (h0 : T.cur = 0) :
    Calls Try.prog 46 #[.pointer (some ⟨m, 0, none⟩), .int .i64 st, .string why] w fun e w' => e = .returned (.int .i64 (endsE T)) ∧ Rx w m p (endsT T st why) w' := by
  rw [show endsE T = 6 from if_pos h0, show endsT T st why = T from if_pos h0]
  have HT := Lib.hid h
  have HC := Lib.hid hc
  obtain ⟨c0, c1, c2, c3, c4, c5, c6, c7, hf⟩ := h.cells
  rw [h0] at c1
  clear h hc
  go_enter Try.func46, Try.ntmps46
  go_wp2
  go_ret
  exact ⟨rfl, Rx.refl HT.out HC.out⟩
set_option maxHeartbeats 2000000 in
theorem rstop_go (T : Tb) (m : Nat) (p : RA) (c : Int) (st : Int) (why : ByteArray) (w : World) (h : RefAt w m p c T) (g : Good T) (h0 : T.cur ≠ 0) (hn : T.P.length ≤ 100000) :
    Calls Try.prog 46 #[.pointer (some ⟨m, 0, none⟩), .int .i64 st, .string why] w fun e w' => e = .returned (.int .i64 (endsE T)) ∧ Rx w m p (endsT T st why) w' := by
  rw [show endsE T = 0 from if_neg h0, show endsT T st why = overT (setT T st why) from if_neg h0]
  have HT := Lib.hid h
  obtain ⟨j, hj, e⟩ := g.cur_at h0
  have HE := Lib.hid e
  have j0 : (0 : Int) ≤ (j : Int) := by omega
  have j1 : (j : Int) < (T.P.length : Int) := by omega
  have j2 : ((j : Int) + 1 == 0) = false := by simp; omega
  have j3 : ((j : Int) + 1) - 1 = (j : Int) := by omega
  obtain ⟨c0, c1, c2, c3, c4, c5, c6, c7, hf⟩ := h.cells
  have hlt := h.lt
  rw [e] at c1
  obtain ⟨bl, hA, hbl, hbm, hC, hfb, p0, p1, p2, p3, p4⟩ := h.pcells j hj
  rw [hA] at c7
  have HA := Lib.hid hA
  clear h g h0 e hA p0 p1 p4 hC
  go_enter Try.func46, Try.ntmps46
  go_wp2
  go_region
  all_goals go_wp2
  all_goals go_ret
  have HT2 := (HT.out.put bl j 2 HA.out hj (by omega) (.int .i64 st) (fun p => { p with state := st }) rfl).put bl j 3 HA.out (by show j < (setP T.P _ _).length; rw [len_setP]; exact hj) (by omega) (.string why) (fun p => { p with why := why }) rfl
  have HT3 := HT2.upd 1 (.int .i64 0) c { T with P := setP (setP T.P ((j : Int) + 1) (fun p => { p with state := st })) ((j : Int) + 1) (fun p => { p with why := why }), cur := 0 } (by unfold refC; simp) rfl rfl rfl
  refine ⟨rfl, p, c, (HT3.below (Below.refl _ _).drew).as rfl rfl rfl rfl ?_ rfl rfl, (fun h => absurd rfl h), ?_, fun _ => .inl, rfl⟩
  · show setP T.P T.cur _ = setP (setP T.P ((j : Int) + 1) _) ((j : Int) + 1) _
    rw [HE.out, setP_setP]
  · exact ((((Mut.refl _ w).then (Mut.setCell _ _ _ _ (.inr (.inr ⟨_, HA.out, rfl⟩)))).then (Mut.setCell _ _ _ _ (.inr (.inr ⟨_, HA.out, rfl⟩)))).then (Mut.setCell _ _ _ _ (.inl rfl))).then (Mut.of_below (Below.refl _ _).drew)
theorem rstop_calls (T : Tb) (m : Nat) (p : RA) (c : Int) (st : Int) (why : ByteArray) (w : World) (h : RefAt w m p c T) (hc : Cnt c T) (g : Good T) (hn : T.P.length ≤ 100000) :
    Calls Try.prog 46 #[.pointer (some ⟨m, 0, none⟩), .int .i64 st, .string why] w fun e w' => e = .returned (.int .i64 (endsE T)) ∧ Rx w m p (endsT T st why) w' := by
  by_cases h0 : T.cur = 0
  · exact rstop_no T m p c st why w h hc h0
  · exact rstop_go T m p c st why w h g h0 hn
end Go.Proofs.Ytnbjknjnpfmklaa
