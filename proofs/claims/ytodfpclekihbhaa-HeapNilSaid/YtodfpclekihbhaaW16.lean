/- element: the place of a word of an element of an array. -/
import Derived.Test.YtodfpclekihbhaaW15
import Derived.IntWalk
namespace Go.Proofs.Ytodfpclekihbhaa
open Go.RowKit Go.Shelf

variable {w : World} {hb : Nat} {A : HA} {H : Hp} {S : Nat → Prop}
theorem el_nil (r el i : Int) (w : World) : Calls Try.prog 64 #[.pointer none, .int .i64 r, .int .i64 el, .int .i64 i] w (WdErr w 4) := by
  have HF := Lib.hid (find_nil r w)
  go_enter Try.func64, Try.ntmps64
  go_wp2_with (go_at_call 57; refine HF.out.mono ?_; rintro e w1 ⟨rfl, rfl⟩)
  all_goals go_ret3
  all_goals exact ⟨rfl, Below.refl _ _⟩
theorem el_none (h : HpAt w hb A H S) {r : Int} (ho : Mp.get H.objs r = none) (el i : Int) : Calls Try.prog 64 #[.pointer (some ⟨hb, 0, none⟩), .int .i64 r, .int .i64 el, .int .i64 i] w (WdErr w 4) := by
  have HF := Lib.hid (find_none h ho)
  clear h ho
  go_enter Try.func64, Try.ntmps64
  go_wp2_with (go_at_call 57; refine HF.out.mono ?_; rintro e w1 ⟨rfl, rfl⟩)
  all_goals go_ret3
  all_goals exact ⟨rfl, Below.refl _ _⟩
theorem el_kind (h : HpAt w hb A H S) {r : Int} {o : Ob} (ho : Mp.get H.objs r = some o) (el i : Int) (hk : o.kind ≠ 2) : Calls Try.prog 64 #[.pointer (some ⟨hb, 0, none⟩), .int .i64 r, .int .i64 el, .int .i64 i] w (WdErr w 13) := by
  have HF := Lib.hid (find_some h ho)
  obtain ⟨d0, _⟩ := h.ocells ho
  have k1 : (o.kind != 2) = !false := by simpa using hk
  clear h ho hk
  go_enter Try.func64, Try.ntmps64
  go_wp2_with (go_at_call 57; refine HF.out.mono ?_; rintro e w1 ⟨rfl, rfl⟩)
  all_goals go_ret3
  all_goals exact ⟨rfl, Below.refl _ _⟩
theorem quiet_add_same' {P : Program} {f : FuncId} {args : Array Value} {w : World} {a n : Nat} {v : Value}
    (h : Calls P f args (w.drewN (a + n)) fun e w' => e = .returned v ∧ w' = w.drewN (a + n)) :
    Calls P f args (w.drewN (a + n)) fun e w'' => e = .returned v ∧ ∃ m, w'' = w.drewN (a + m) :=
  h.mono fun _ _ ⟨he, hm⟩ => ⟨he, n, hm⟩
theorem width_q (h : HpAt w hb A H S) {r : Int} {o : Ob} (ho : Mp.get H.objs r = some o) (n : Nat) : Calls Try.prog 59 #[.pointer (some ⟨A.ob r, 0, none⟩)] (w.drewN n) fun e w' => e = .returned (.int .i64 o.refs.length) ∧ w' = w.drewN n := (width_calls (h.below ((Below.refl _ _).dn n)) ho).mono fun _ _ ⟨h1, h2⟩ => ⟨h1, h2.symm⟩
set_option maxHeartbeats 1000000 in
theorem el_neg (h : HpAt w hb A H S) {r : Int} {o : Ob} (ho : Mp.get H.objs r = some o) (hk : o.kind = 2) (el i : Int) (hl : el < 0) : Calls Try.prog 64 #[.pointer (some ⟨hb, 0, none⟩), .int .i64 r, .int .i64 el, .int .i64 i] w (WdErr w 11) := by
  have HF := Lib.hid (find_some h ho)
  obtain ⟨d0, d1, d2, d3, d4, d5, d6, d7, d8, d9, _⟩ := h.ocells ho
  have HWd := Lib.hid (width_q h ho)
  rw [hk] at d0
  have g1 : decide (el < 0) = true := by simpa using hl
  clear h ho hk hl
  go_enter Try.func64, Try.ntmps64
  go_wp2_with (go_at_call 57; refine HF.out.mono ?_; rintro e w1 ⟨rfl, rfl⟩)
  go_quiet ((go_at_call 59; exact Calls.quiet_of_same (HWd.out _)))
  go_wp2
  all_goals go_ret3
  all_goals exact ⟨rfl, (Below.refl _ _).dn _⟩
set_option maxHeartbeats 1000000 in
theorem el_far (h : HpAt w hb A H S) {r : Int} {o : Ob} (ho : Mp.get H.objs r = some o) (hk : o.kind = 2) (el : Nat) (i : Int) (hlh : o.lo ≤ o.hi) (hhi : o.hi ≤ 100000000) (hl : o.hi - o.lo ≤ el) : Calls Try.prog 64 #[.pointer (some ⟨hb, 0, none⟩), .int .i64 r, .int .i64 (el : Int), .int .i64 i] w (WdErr w 11) := by
  have HF := Lib.hid (find_some h ho)
  obtain ⟨d0, d1, d2, d3, d4, d5, d6, d7, d8, d9, _⟩ := h.ocells ho
  have HWd := Lib.hid (width_q h ho)
  rw [hk] at d0
  obtain ⟨D, hD⟩ : ∃ D : Nat, D = o.hi - o.lo := ⟨_, rfl⟩
  have s1 : IntKind.i64.wrap ((o.hi : Int) - (o.lo : Int)) = (D : Int) := by rw [IntWalk.i64_in _ (by omega)]; omega
  have g1 : decide ((el : Int) < 0) = false := by simp
  have g2 : decide (D ≤ el) = true := decide_eq_true (by omega)
  clear h ho hk hlh hhi hl hD
  go_enter Try.func64, Try.ntmps64
  go_wp2_with (go_at_call 57; refine HF.out.mono ?_; rintro e w1 ⟨rfl, rfl⟩)
  go_quiet ((go_at_call 59; exact Calls.quiet_of_same (HWd.out _)))
  go_wp2
  all_goals go_ret3
  all_goals exact ⟨rfl, (Below.refl _ _).dn _⟩
set_option maxHeartbeats 1000000 in
theorem el_ineg (h : HpAt w hb A H S) {r : Int} {o : Ob} (ho : Mp.get H.objs r = some o) (hk : o.kind = 2) (el : Nat) (i : Int) (hlh : o.lo ≤ o.hi) (hhi : o.hi ≤ 100000000) (hl : el < o.hi - o.lo) (hi : i < 0) : Calls Try.prog 64 #[.pointer (some ⟨hb, 0, none⟩), .int .i64 r, .int .i64 (el : Int), .int .i64 i] w (WdErr w 11) := by
  have HF := Lib.hid (find_some h ho)
  obtain ⟨d0, d1, d2, d3, d4, d5, d6, d7, d8, d9, _⟩ := h.ocells ho
  have HWd := Lib.hid (width_q h ho)
  rw [hk] at d0
  obtain ⟨D, hD⟩ : ∃ D : Nat, D = o.hi - o.lo := ⟨_, rfl⟩
  have s1 : IntKind.i64.wrap ((o.hi : Int) - (o.lo : Int)) = (D : Int) := by rw [IntWalk.i64_in _ (by omega)]; omega
  have g1 : decide ((el : Int) < 0) = false := by simp
  have g2 : decide (D ≤ el) = false := decide_eq_false (by omega)
  have g3 : decide (i < 0) = true := by simpa using hi
  clear h ho hk hlh hhi hl hD hi
  go_enter Try.func64, Try.ntmps64
  go_wp2_with (go_at_call 57; refine HF.out.mono ?_; rintro e w1 ⟨rfl, rfl⟩)
  go_quiet ((go_at_call 59; exact Calls.quiet_of_same (HWd.out _)))
  go_wp2
  all_goals go_ret3
  all_goals exact ⟨rfl, (Below.refl _ _).dn _⟩
set_option maxHeartbeats 1000000 in
theorem el_ifar (h : HpAt w hb A H S) {r : Int} {o : Ob} (ho : Mp.get H.objs r = some o) (hk : o.kind = 2) (el : Nat) (i : Nat) (hlh : o.lo ≤ o.hi) (hhi : o.hi ≤ 100000000) (hl : el < o.hi - o.lo) (hi : o.refs.length ≤ i) : Calls Try.prog 64 #[.pointer (some ⟨hb, 0, none⟩), .int .i64 r, .int .i64 (el : Int), .int .i64 (i : Int)] w (WdErr w 11) := by
  have HF := Lib.hid (find_some h ho)
  obtain ⟨d0, d1, d2, d3, d4, d5, d6, d7, d8, d9, _⟩ := h.ocells ho
  have HWd := Lib.hid (width_q h ho)
  rw [hk] at d0
  obtain ⟨D, hD⟩ : ∃ D : Nat, D = o.hi - o.lo := ⟨_, rfl⟩
  have s1 : IntKind.i64.wrap ((o.hi : Int) - (o.lo : Int)) = (D : Int) := by rw [IntWalk.i64_in _ (by omega)]; omega
  have g1 : decide ((el : Int) < 0) = false := by simp
  have g2 : decide (D ≤ el) = false := decide_eq_false (by omega)
  have g3 : decide ((i : Int) < 0) = false := by simp
  have g4 : decide (o.refs.length ≤ i) = true := decide_eq_true (by omega)
  clear h ho hk hlh hhi hl hD hi
  go_enter Try.func64, Try.ntmps64
  go_wp2_with (go_at_call 57; refine HF.out.mono ?_; rintro e w1 ⟨rfl, rfl⟩)
  go_quiet ((go_at_call 59; exact Calls.quiet_of_same (HWd.out _)))
  go_wp2
  all_goals go_ret3
  all_goals exact ⟨rfl, (Below.refl _ _).dn _⟩
set_option maxHeartbeats 2000000 in
theorem el_ok (h : HpAt w hb A H S) {r : Int} {o : Ob} (ho : Mp.get H.objs r = some o) (hk : o.kind = 2) {x : Rw} (hx : Mp.get H.rows o.row = some x) (hxA : x.isA = true) (hxl : x.words.length ≤ 100000000) (el i : Nat) (hlh : o.lo ≤ o.hi) (hhi : o.hi ≤ 100000000) (hrl : o.refs.length ≤ 1000) (hl : el < o.hi - o.lo) (hi : i < o.refs.length) (hj : (o.lo + el) * o.refs.length + i < x.words.length) {g : Nat} (hA : A.wA o.row = some ⟨g, 0, none⟩) (hC : x.words.length ≤ A.wC o.row) :
    Calls Try.prog 64 #[.pointer (some ⟨hb, 0, none⟩), .int .i64 r, .int .i64 (el : Int), .int .i64 (i : Int)] w fun e w' => e = .returned (.tuple #[.pointer (some ⟨A.ob r, 0, none⟩), .pointer (some ⟨g, ((o.lo + el) * o.refs.length + i) * 2, none⟩), .int .i64 0]) ∧ Below w.heap.size w w' := by
  have HF := Lib.hid (find_some h ho)
  obtain ⟨d0, d1, d2, d3, d4, d5, d6, d7, d8, d9, _⟩ := h.ocells ho
  have HWd := Lib.hid (width_q h ho)
  rw [hk] at d0
  obtain ⟨D, hD⟩ : ∃ D : Nat, D = o.hi - o.lo := ⟨_, rfl⟩
  have s1 : IntKind.i64.wrap ((o.hi : Int) - (o.lo : Int)) = (D : Int) := by rw [IntWalk.i64_in _ (by omega)]; omega
  have g1 : decide ((el : Int) < 0) = false := by simp
  have g2 : decide (D ≤ el) = false := decide_eq_false (by omega)
  have g3 : decide ((i : Int) < 0) = false := by simp
  have g4 : decide (o.refs.length ≤ i) = false := decide_eq_false (by omega)
  rw [show A.pF o = .pointer (some ⟨A.st o.row, 0, none⟩) from by unfold HA.pF; rw [if_pos hk]] at d7
  have e1 := cell_of_heap (v := .slice (A.wA o.row) x.words.length (A.wC o.row)) (h.sto _ _ hx hxA) (j := 1) rfl
  rw [hA] at e1
  obtain ⟨L, hL⟩ : ∃ L : Nat, L = o.lo + el := ⟨_, rfl⟩
  have s2 : IntKind.i64.wrap ((o.lo : Int) + (el : Int)) = (L : Int) := by rw [IntWalk.i64_in _ (by omega)]; omega
  generalize hrn : o.refs.length = n at *
  obtain ⟨M, hM⟩ : ∃ M : Nat, M = L * n := ⟨_, rfl⟩
  have hLM : M + i < x.words.length := by rw [hM, hL]; exact hj
  have s3 : IntKind.i64.wrap ((L : Int) * (n : Int)) = (M : Int) := by
    have : ((L : Int) * (n : Int)) = (M : Int) := by rw [hM]; exact (Int.natCast_mul L n).symm
    rw [this, IntWalk.i64_in _ (by omega)]
  obtain ⟨K, hK⟩ : ∃ K : Nat, K = M + i := ⟨_, rfl⟩
  have s4 : IntKind.i64.wrap ((M : Int) + (i : Int)) = (K : Int) := by rw [IntWalk.i64_in _ (by omega)]; omega
  have HKE : Hid (((o.lo + el) * n + i) = K) := Lib.hid (by rw [hK, hM, hL])
  have q1 : (0 : Int) ≤ (K : Int) := by omega
  have q2 : (K : Int) < (x.words.length : Int) := by omega
  generalize x.words.length = xl at *
  clear h ho hk hlh hhi hl hD hi hj hrl hA hx hxA hL hM hK hLM hrn d1 d2 d3 d4 d5 d6
  rw [HKE.out]
  go_enter Try.func64, Try.ntmps64
  go_wp2_with (go_at_call 57; refine HF.out.mono ?_; rintro e w1 ⟨rfl, rfl⟩)
  go_quiet ((go_at_call 59; exact Calls.quiet_of_same (HWd.out _)))
  go_wp2
  go_quiet ((go_at_call 59; exact quiet_add_same' (HWd.out _)))
  go_wp2
  all_goals go_ret3
  all_goals exact ⟨rfl, by first | exact (Below.refl _ _).dn _ | exact ((Below.refl _ _).dn _).dn _⟩
end Go.Proofs.Ytodfpclekihbhaa
