/- Contract of the law's act: the table and the reference answer alike. -/
import Derived.Test.YtnbjknjnpfmklaaP38
namespace Go.Proofs.Ytnbjknjnpfmklaa
open Go.RowKit

/-- What a call of act rests on. -/
structure ActOk (N : Nat) (q : Int) (s : List Int) (T : Tb) : Prop where
  f : Fit N q s T
  hN : N ≤ 1000
  hq : q ≤ 9223372036854775807
  hs : s.length ≤ 1000
theorem ActOk.p1 {N : Nat} {q : Int} {s : List Int} {T : Tb} (a : ActOk N q s T) : T.P.length ≤ 90000 := Nat.le_trans a.f.np (Nat.le_trans a.hN (by decide))
theorem ActOk.r1 {N : Nat} {q : Int} {s : List Int} {T : Tb} (a : ActOk N q s T) : T.ready.length ≤ 90000 := Nat.le_trans a.f.nr (Nat.le_trans a.hN (by decide))
theorem ActOk.p2 {N : Nat} {q : Int} {s : List Int} {T : Tb} (a : ActOk N q s T) : T.P.length ≤ 100000 := Nat.le_trans a.p1 (by decide)
theorem ActOk.r2 {N : Nat} {q : Int} {s : List Int} {T : Tb} (a : ActOk N q s T) : T.ready.length ≤ 100000 := Nat.le_trans a.r1 (by decide)
theorem ActOk.s1 {N : Nat} {q : Int} {s : List Int} {T : Tb} (a : ActOk N q s T) : T.s.length ≤ 100000 := by rw [a.f.s]; exact Nat.le_trans a.hs (by decide)
theorem ActOk.n1 {N : Nat} {q : Int} {s : List Int} {T : Tb} (a : ActOk N q s T) : N ≤ 90000 := Nat.le_trans a.hN (by decide)
theorem ActOk.tick {N : Nat} {q : Int} {s : List Int} {T : Tb} (a : ActOk N q s T) : TickOk T := a.f.tickOk (Nat.le_trans a.hN (by decide)) a.hq
/-- Tick of the table, whole. -/
theorem tick_calls (T : Tb) (tb : Nat) (p : TA) (wk : World) (h : TabAt wk tb p T) (ok : TickOk T) : Calls Try.prog 18 #[.pointer (some ⟨tb, 0, none⟩)] wk fun e w' => e = .returned (.bool (tickB T)) ∧ Nx wk tb p (tickT T) w' := by
  cases h0 : isB T 0 with
  | false => exact tick_none T tb p wk h h0
  | true =>
    by_cases hl : T.left = 0
    · exact tick_over T tb p wk h h0 hl ok.r
    · obtain ⟨q, hq, b5, b6⟩ := ok.p h0 hl
      exact tick_go T tb p wk h h0 hl q hq (by have := ok.l0; omega) ok.l1 ok.t0 ok.t1 b5 b6
theorem Cnt.choose {c : Int} {T : Tb} (h : Cnt c T) (n : Int) : Cnt c (chooseT T n) := by
  obtain ⟨s1, _, _, _, _, s6, s7, _⟩ := chooseT_same T n
  intro hne
  rw [s6] at hne
  rw [s1, s7]
  exact h hne

set_option maxRecDepth 100000 in
set_option maxHeartbeats 4000000 in
theorem act_0 {w wk : World} {tb m : Nat} {T : Tb} {N : Nat} {q : Int} {s : List Int} (B : Both w wk tb m (fun _ _ => False) T T) (a : ActOk N q s T) (k n : Int) (t : ByteArray) (_hn : n ≤ 9223372036854775807) (hk : k.tmod 12 = 0) :
    Calls Try.prog 25 #[.pointer (some ⟨tb, 0, none⟩), .pointer (some ⟨m, 0, none⟩), .agg #[.int .u8 k, .int .i64 n, .string t]] wk fun e w' => e = .returned (.bool true) ∧ Both w w' tb m (fun _ _ => False) (makeT T n) (makeT T n) := by
  have HB := Lib.hid (B.hold #[.int .u8 k, .int .i64 n, .string t] 52)
  have HA := Lib.hid a
  clear B a
  go_enter Try.func25, Try.ntmps25
  go_wp2_with (first
    | (go_at_call 27; refine (HB.out.call fun p hp => make_calls T tb p n _ hp HA.out.f.good.last HA.out.p2 HA.out.r2).mono ?_; rintro e w1 ⟨rfl, hb⟩; have HB1 := Lib.hid hb; obtain ⟨r0, r1, r2⟩ := box3 (hb.held _ _ ⟨rfl, rfl⟩); clear hb)
    | (go_at_call 40; refine (HB1.out.rcall fun rp c hp hc => rmake_calls T m rp c n _ hp hc HA.out.p1 HA.out.r1).mono ?_; rintro e w2 ⟨rfl, hb⟩; have HB2 := Lib.hid hb; clear hb))
  go_ret
  all_goals exact ⟨rfl, HB2.out.less (fun _ _ h => h.elim)⟩

set_option maxRecDepth 100000 in
set_option maxHeartbeats 4000000 in
theorem act_1 {w wk : World} {tb m : Nat} {T : Tb} {N : Nat} {q : Int} {s : List Int} (B : Both w wk tb m (fun _ _ => False) T T) (a : ActOk N q s T) (k n : Int) (t : ByteArray) (_hn : n ≤ 9223372036854775807) (hk : k.tmod 12 = 1) :
    Calls Try.prog 25 #[.pointer (some ⟨tb, 0, none⟩), .pointer (some ⟨m, 0, none⟩), .agg #[.int .u8 k, .int .i64 n, .string t]] wk fun e w' => e = .returned (.bool true) ∧ Both w w' tb m (fun _ _ => False) (turnT T) (turnT T) := by
  have HB := Lib.hid (B.hold #[.int .u8 k, .int .i64 n, .string t] 52)
  have HA := Lib.hid a
  clear B a
  go_enter Try.func25, Try.ntmps25
  go_wp2_with (first
    | (go_at_call 15; refine (HB.out.call fun p hp => turn_calls T tb p _ hp HA.out.r2 HA.out.s1).mono ?_; rintro e w1 ⟨rfl, hb⟩; have HB1 := Lib.hid hb; obtain ⟨r0, r1, r2⟩ := box3 (hb.held _ _ ⟨rfl, rfl⟩); clear hb)
    | (go_at_call 41; refine (HB1.out.rcall fun rp c hp hc => rturn_calls T m rp c _ hp hc HA.out.f.good.nd HA.out.r1 HA.out.s1).mono ?_; rintro e w2 ⟨rfl, hb⟩; have HB2 := Lib.hid hb; clear hb))
  go_ret
  all_goals exact ⟨rfl, HB2.out.less (fun _ _ h => h.elim)⟩

set_option maxRecDepth 100000 in
set_option maxHeartbeats 4000000 in
theorem act_2 {w wk : World} {tb m : Nat} {T : Tb} {N : Nat} {q : Int} {s : List Int} (B : Both w wk tb m (fun _ _ => False) T T) (a : ActOk N q s T) (k n : Int) (t : ByteArray) (_hn : n ≤ 9223372036854775807) (hk : k.tmod 12 = 2) :
    Calls Try.prog 25 #[.pointer (some ⟨tb, 0, none⟩), .pointer (some ⟨m, 0, none⟩), .agg #[.int .u8 k, .int .i64 n, .string t]] wk fun e w' => e = .returned (.bool true) ∧ Both w w' tb m (fun _ _ => False) (tickT T) (tickT T) := by
  have HB := Lib.hid (B.hold #[.int .u8 k, .int .i64 n, .string t] 52)
  have HA := Lib.hid a
  clear B a
  go_enter Try.func25, Try.ntmps25
  go_wp2_with (first
    | (go_at_call 18; refine (HB.out.call fun p hp => tick_calls T tb p _ hp HA.out.tick).mono ?_; rintro e w1 ⟨rfl, hb⟩; have HB1 := Lib.hid hb; obtain ⟨r0, r1, r2⟩ := box3 (hb.held _ _ ⟨rfl, rfl⟩); clear hb)
    | (go_at_call 42; refine (HB1.out.rcall fun rp c hp hc => rtick_calls T m rp c _ hp hc N q s HA.out.f HA.out.n1 HA.out.hq).mono ?_; rintro e w2 ⟨rfl, hb⟩; have HB2 := Lib.hid hb; clear hb))
  go_ret
  all_goals exact ⟨rfl, HB2.out.less (fun _ _ h => h.elim)⟩

set_option maxRecDepth 100000 in
set_option maxHeartbeats 4000000 in
theorem act_3 {w wk : World} {tb m : Nat} {T : Tb} {N : Nat} {q : Int} {s : List Int} (B : Both w wk tb m (fun _ _ => False) T T) (a : ActOk N q s T) (k n : Int) (t : ByteArray) (_hn : n ≤ 9223372036854775807) (hk : k.tmod 12 = 3) :
    Calls Try.prog 25 #[.pointer (some ⟨tb, 0, none⟩), .pointer (some ⟨m, 0, none⟩), .agg #[.int .u8 k, .int .i64 n, .string t]] wk fun e w' => e = .returned (.bool true) ∧ Both w w' tb m (fun _ _ => False) (waitT T n) (waitT T n) := by
  have HB := Lib.hid (B.hold #[.int .u8 k, .int .i64 n, .string t] 52)
  have HA := Lib.hid a
  clear B a
  go_enter Try.func25, Try.ntmps25
  go_wp2
  go_region_law (first
    | (go_simp; go_at_call 28; refine ((HB.out.below (Below.refl _ _).drew).call fun p hp => wait_calls T tb p n _ hp HA.out.f.good.curOk).mono ?_; rintro e w1 ⟨rfl, hb⟩; have HB1 := Lib.hid hb; obtain ⟨r0, r1, r2⟩ := box3 (hb.held _ _ ⟨rfl, rfl⟩); clear hb)
    | (go_simp; go_at_call 43; refine (HB1.out.rcall fun rp c hp hc => rwait_calls T m rp c n _ hp hc N q s HA.out.f HA.out.n1).mono ?_; rintro e w2 ⟨rfl, hb⟩; have HB2 := Lib.hid hb; clear hb))
  all_goals go_wp2
  all_goals go_ret
  all_goals exact ⟨rfl, HB2.out.less (fun _ _ h => h.elim)⟩

set_option maxRecDepth 100000 in
set_option maxHeartbeats 4000000 in
theorem act_4 {w wk : World} {tb m : Nat} {T : Tb} {N : Nat} {q : Int} {s : List Int} (B : Both w wk tb m (fun _ _ => False) T T) (a : ActOk N q s T) (k n : Int) (t : ByteArray) (_hn : n ≤ 9223372036854775807) (hk : k.tmod 12 = 4) :
    Calls Try.prog 25 #[.pointer (some ⟨tb, 0, none⟩), .pointer (some ⟨m, 0, none⟩), .agg #[.int .u8 k, .int .i64 n, .string t]] wk fun e w' => e = .returned (.bool true) ∧ Both w w' tb m (fun _ _ => False) (wakeT T n) (wakeT T n) := by
  have HB := Lib.hid (B.hold #[.int .u8 k, .int .i64 n, .string t] 52)
  have HA := Lib.hid a
  clear B a
  go_enter Try.func25, Try.ntmps25
  go_wp2
  go_region_law (first
    | (go_simp; go_at_call 29; refine ((HB.out.below (Below.refl _ _).drew).call fun p hp => wake_calls T tb p n _ hp HA.out.r2).mono ?_; rintro e w1 ⟨rfl, hb⟩; have HB1 := Lib.hid hb; obtain ⟨r0, r1, r2⟩ := box3 (hb.held _ _ ⟨rfl, rfl⟩); clear hb)
    | (go_simp; go_at_call 44; refine (HB1.out.rcall fun rp c hp hc => rwake_calls T m rp c n _ hp hc HA.out.p2 HA.out.r1).mono ?_; rintro e w2 ⟨rfl, hb⟩; have HB2 := Lib.hid hb; clear hb))
  all_goals go_wp2
  all_goals go_ret
  all_goals exact ⟨rfl, HB2.out.less (fun _ _ h => h.elim)⟩

set_option maxRecDepth 100000 in
set_option maxHeartbeats 4000000 in
theorem act_5 {w wk : World} {tb m : Nat} {T : Tb} {N : Nat} {q : Int} {s : List Int} (B : Both w wk tb m (fun _ _ => False) T T) (a : ActOk N q s T) (k n : Int) (t : ByteArray) (_hn : n ≤ 9223372036854775807) (hk : k.tmod 12 = 5) :
    Calls Try.prog 25 #[.pointer (some ⟨tb, 0, none⟩), .pointer (some ⟨m, 0, none⟩), .agg #[.int .u8 k, .int .i64 n, .string t]] wk fun e w' => e = .returned (.bool true) ∧ Both w w' tb m (fun _ _ => False) (turnedT T 0 4) (turnedT T 0 4) := by
  have HB := Lib.hid (B.hold #[.int .u8 k, .int .i64 n, .string t] 52)
  have HA := Lib.hid a
  clear B a
  go_enter Try.func25, Try.ntmps25
  go_wp2_with (first
    | (go_at_call 19; refine (HB.out.call fun p hp => call_calls T tb p _ hp HA.out.f.good.curOk).mono ?_; rintro e w1 ⟨rfl, hb⟩; have HB1 := Lib.hid hb; obtain ⟨r0, r1, r2⟩ := box3 (hb.held _ _ ⟨rfl, rfl⟩); clear hb)
    | (go_at_call 45; refine (HB1.out.rcall fun rp c hp hc => rturned_calls T m rp c 0 4 _ hp hc N q s HA.out.f HA.out.n1 (by decide) (by decide)).mono ?_; rintro e w2 ⟨rfl, hb⟩; have HB2 := Lib.hid hb; clear hb))
  go_ret
  all_goals exact ⟨rfl, HB2.out.less (fun _ _ h => h.elim)⟩

set_option maxRecDepth 100000 in
set_option maxHeartbeats 4000000 in
theorem act_6 {w wk : World} {tb m : Nat} {T : Tb} {N : Nat} {q : Int} {s : List Int} (B : Both w wk tb m (fun _ _ => False) T T) (a : ActOk N q s T) (k n : Int) (t : ByteArray) (_hn : n ≤ 9223372036854775807) (hk : k.tmod 12 = 6) :
    Calls Try.prog 25 #[.pointer (some ⟨tb, 0, none⟩), .pointer (some ⟨m, 0, none⟩), .agg #[.int .u8 k, .int .i64 n, .string t]] wk fun e w' => e = .returned (.bool true) ∧ Both w w' tb m (fun _ _ => False) (turnedT T 4 0) (turnedT T 4 0) := by
  have HB := Lib.hid (B.hold #[.int .u8 k, .int .i64 n, .string t] 52)
  have HA := Lib.hid a
  clear B a
  go_enter Try.func25, Try.ntmps25
  go_wp2_with (first
    | (go_at_call 20; refine (HB.out.call fun p hp => answer_calls T tb p _ hp HA.out.f.good.curOk).mono ?_; rintro e w1 ⟨rfl, hb⟩; have HB1 := Lib.hid hb; obtain ⟨r0, r1, r2⟩ := box3 (hb.held _ _ ⟨rfl, rfl⟩); clear hb)
    | (go_at_call 45; refine (HB1.out.rcall fun rp c hp hc => rturned_calls T m rp c 4 0 _ hp hc N q s HA.out.f HA.out.n1 (by decide) (by decide)).mono ?_; rintro e w2 ⟨rfl, hb⟩; have HB2 := Lib.hid hb; clear hb))
  go_ret
  all_goals exact ⟨rfl, HB2.out.less (fun _ _ h => h.elim)⟩

set_option maxRecDepth 100000 in
set_option maxHeartbeats 4000000 in
theorem act_7 {w wk : World} {tb m : Nat} {T : Tb} {N : Nat} {q : Int} {s : List Int} (B : Both w wk tb m (fun _ _ => False) T T) (a : ActOk N q s T) (k n : Int) (t : ByteArray) (_hn : n ≤ 9223372036854775807) (hk : k.tmod 12 = 7) :
    Calls Try.prog 25 #[.pointer (some ⟨tb, 0, none⟩), .pointer (some ⟨m, 0, none⟩), .agg #[.int .u8 k, .int .i64 n, .string t]] wk fun e w' => e = .returned (.bool true) ∧ Both w w' tb m (fun _ _ => False) (endsT T 6 ⟨#[]⟩) (endsT T 6 ⟨#[]⟩) := by
  have HB := Lib.hid (B.hold #[.int .u8 k, .int .i64 n, .string t] 52)
  have HA := Lib.hid a
  clear B a
  go_enter Try.func25, Try.ntmps25
  go_wp2_with (first
    | (go_at_call 30; refine (HB.out.call fun p hp => end_calls T tb p _ hp HA.out.f.good.curOk).mono ?_; rintro e w1 ⟨rfl, hb⟩; have HB1 := Lib.hid hb; obtain ⟨r0, r1, r2⟩ := box3 (hb.held _ _ ⟨rfl, rfl⟩); clear hb)
    | (go_at_call 46; refine (HB1.out.rcall fun rp c hp hc => rstop_calls T m rp c 6 ⟨#[]⟩ _ hp hc HA.out.f.good HA.out.p2).mono ?_; rintro e w2 ⟨rfl, hb⟩; have HB2 := Lib.hid hb; clear hb))
  go_ret
  all_goals exact ⟨rfl, HB2.out.less (fun _ _ h => h.elim)⟩

set_option maxRecDepth 100000 in
set_option maxHeartbeats 4000000 in
theorem act_8 {w wk : World} {tb m : Nat} {T : Tb} {N : Nat} {q : Int} {s : List Int} (B : Both w wk tb m (fun _ _ => False) T T) (a : ActOk N q s T) (k n : Int) (t : ByteArray) (_hn : n ≤ 9223372036854775807) (hk : k.tmod 12 = 8) :
    Calls Try.prog 25 #[.pointer (some ⟨tb, 0, none⟩), .pointer (some ⟨m, 0, none⟩), .agg #[.int .u8 k, .int .i64 n, .string t]] wk fun e w' => e = .returned (.bool true) ∧ Both w w' tb m (fun _ _ => False) (endsT T 5 t) (endsT T 5 t) := by
  have HB := Lib.hid (B.hold #[.int .u8 k, .int .i64 n, .string t] 52)
  have HA := Lib.hid a
  clear B a
  go_enter Try.func25, Try.ntmps25
  go_wp2
  go_region_law (first
    | (go_simp; go_at_call 31; refine ((HB.out.below (Below.refl _ _).drew).call fun p hp => break_calls T tb p t _ hp HA.out.f.good.curOk).mono ?_; rintro e w1 ⟨rfl, hb⟩; have HB1 := Lib.hid hb; obtain ⟨r0, r1, r2⟩ := box3 (hb.held _ _ ⟨rfl, rfl⟩); clear hb)
    | (go_simp; go_at_call 46; refine (HB1.out.rcall fun rp c hp hc => rstop_calls T m rp c 5 t _ hp hc HA.out.f.good HA.out.p2).mono ?_; rintro e w2 ⟨rfl, hb⟩; have HB2 := Lib.hid hb; clear hb))
  all_goals go_wp2
  all_goals go_ret
  all_goals exact ⟨rfl, HB2.out.less (fun _ _ h => h.elim)⟩

set_option maxRecDepth 100000 in
set_option maxHeartbeats 4000000 in
theorem act_11 {w wk : World} {tb m : Nat} {T : Tb} {N : Nat} {q : Int} {s : List Int} (B : Both w wk tb m (fun _ _ => False) T T) (a : ActOk N q s T) (k n : Int) (t : ByteArray) (hn : n ≤ 9223372036854775807) (hk : k.tmod 12 = 11) :
    Calls Try.prog 25 #[.pointer (some ⟨tb, 0, none⟩), .pointer (some ⟨m, 0, none⟩), .agg #[.int .u8 k, .int .i64 n, .string t]] wk fun e w' => e = .returned (.bool true) ∧ Both w w' tb m (fun _ _ => False) (chooseT T n) (chooseT T n) := by
  have HB := Lib.hid (B.hold #[.int .u8 k, .int .i64 n, .string t] 52)
  have HA := Lib.hid a
  clear B a
  go_enter Try.func25, Try.ntmps25
  go_wp2
  go_region_law (first
    | (go_simp; go_at_call 11; refine ((HB.out.below (Below.refl _ _).drew).call fun p hp => choose_calls T tb p n _ hp hn HA.out.s1).mono ?_; rintro e w1 ⟨rfl, hb⟩; have HB1 := Lib.hid hb; obtain ⟨r0, r1, r2⟩ := box3 (hb.held _ _ ⟨rfl, rfl⟩); clear hb)
    | (go_simp; go_at_call 47; refine (HB1.out.rcall fun rp c hp hc => (rchoose_calls T m rp c n _ hp hn HA.out.s1).mono fun _ _ ⟨h1, h2, h3⟩ => ⟨h1, Rx.same h2 (Cnt.choose hc n) h3⟩).mono ?_; rintro e w2 ⟨rfl, hb⟩; have HB2 := Lib.hid hb; clear hb))
  all_goals go_wp2
  all_goals go_ret
  all_goals exact ⟨rfl, HB2.out.less (fun _ _ h => h.elim)⟩
end Go.Proofs.Ytnbjknjnpfmklaa
