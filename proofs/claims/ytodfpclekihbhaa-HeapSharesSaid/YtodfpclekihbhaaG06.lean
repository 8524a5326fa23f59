/- Texts on the heap, merged: W16, W17, W18. -/
import Derived.Test.YtodfpclekihbhaaG05
import Derived.IntWalk
/- element: the place of a word of an element of an array. -/
namespace Go.Proofs.Ytodfpclekihbhaa
open Go.RowKit Go.Shelf

variable {w : World} {hb : Nat} {A : HA} {H : Hp} {S : Nat → Prop}
theorem el_nil (r el i : Int) (w : World) : Calls Try.prog 64 #[.pointer none, .int .i64 r, .int .i64 el, .int .i64 i] w (WdErr w 4) := by
  have HF := Lib.hid (find_nil r w)
  go_enter Try.func64, Try.ntmps64
  go_wp2_with (go_at_call 57; refine HF.out.mono ?_; rintro e w1 ⟨rfl, rfl⟩)
  all_goals go_ret3
  all_goals exact ⟨rfl, Below.refl _ _⟩
theorem el_none (h : HpAt w hb A H S) {r : Int} (ho : Mp.get H.objs r = none) (el i : Int) : Calls Try.prog 64 #[.pointer (some ⟨hb, 0, none⟩), .int .i64 r, .int .i64 el, .int .i64 i] w (WdErr w 4) := by
  have HF := Lib.hid (find_none h ho)
  clear h ho
  go_enter Try.func64, Try.ntmps64
  go_wp2_with (go_at_call 57; refine HF.out.mono ?_; rintro e w1 ⟨rfl, rfl⟩)
  all_goals go_ret3
  all_goals exact ⟨rfl, Below.refl _ _⟩
theorem el_kind (h : HpAt w hb A H S) {r : Int} {o : Ob} (ho : Mp.get H.objs r = some o) (el i : Int) (hk : o.kind ≠ 2) : Calls Try.prog 64 #[.pointer (some ⟨hb, 0, none⟩), .int .i64 r, .int .i64 el, .int .i64 i] w (WdErr w 13) := by
  have HF := Lib.hid (find_some h ho)
  obtain ⟨d0, _⟩ := h.ocells ho
  have k1 : (o.kind != 2) = !false := by simpa using hk
  clear h ho hk
  go_enter Try.func64, Try.ntmps64
  go_wp2_with (go_at_call 57; refine HF.out.mono ?_; rintro e w1 ⟨rfl, rfl⟩)
  all_goals go_ret3
  all_goals exact ⟨rfl, Below.refl _ _⟩
theorem quiet_add_same' {P : Program} {f : FuncId} {args : Array Value} {w : World} {a n : Nat} {v : Value}
    (h : Calls P f args (w.drewN (a + n)) fun e w' => e = .returned v ∧ w' = w.drewN (a + n)) :
    Calls P f args (w.drewN (a + n)) fun e w'' => e = .returned v ∧ ∃ m, w'' = w.drewN (a + m) :=
  h.mono fun _ _ ⟨he, hm⟩ => ⟨he, n, hm⟩
theorem width_q (h : HpAt w hb A H S) {r : Int} {o : Ob} (ho : Mp.get H.objs r = some o) (n : Nat) : Calls Try.prog 59 #[.pointer (some ⟨A.ob r, 0, none⟩)] (w.drewN n) fun e w' => e = .returned (.int .i64 o.refs.length) ∧ w' = w.drewN n := (width_calls (h.below ((Below.refl _ _).dn n)) ho).mono fun _ _ ⟨h1, h2⟩ => ⟨h1, h2.symm⟩
set_option maxHeartbeats 1000000 in
theorem el_neg (h : HpAt w hb A H S) {r : Int} {o : Ob} (ho : Mp.get H.objs r = some o) (hk : o.kind = 2) (el i : Int) (hl : el < 0) : Calls Try.prog 64 #[.pointer (some ⟨hb, 0, none⟩), .int .i64 r, .int .i64 el, .int .i64 i] w (WdErr w 11) := by
  have HF := Lib.hid (find_some h ho)
  obtain ⟨d0, d1, d2, d3, d4, d5, d6, d7, d8, d9, _⟩ := h.ocells ho
  have HWd := Lib.hid (width_q h ho)
  rw [hk] at d0
  have g1 : decide (el < 0) = true := by simpa using hl
  clear h ho hk hl
  go_enter Try.func64, Try.ntmps64
  go_wp2_with (go_at_call 57; refine HF.out.mono ?_; rintro e w1 ⟨rfl, rfl⟩)
  go_quiet ((go_at_call 59; exact Calls.quiet_of_same (HWd.out _)))
  go_wp2
  all_goals go_ret3
  all_goals exact ⟨rfl, (Below.refl _ _).dn _⟩
set_option maxHeartbeats 1000000 in
theorem el_far (h : HpAt w hb A H S) {r : Int} {o : Ob} (ho : Mp.get H.objs r = some o) (hk : o.kind = 2) (el : Nat) (i : Int) (hlh : o.lo ≤ o.hi) (hhi : o.hi ≤ 100000000) (hl : o.hi - o.lo ≤ el) : Calls Try.prog 64 #[.pointer (some ⟨hb, 0, none⟩), .int .i64 r, .int .i64 (el : Int), .int .i64 i] w (WdErr w 11) := by
  have HF := Lib.hid (find_some h ho)
  obtain ⟨d0, d1, d2, d3, d4, d5, d6, d7, d8, d9, _⟩ := h.ocells ho
  have HWd := Lib.hid (width_q h ho)
  rw [hk] at d0
  obtain ⟨D, hD⟩ : ∃ D : Nat, D = o.hi - o.lo := ⟨_, rfl⟩
  have s1 : IntKind.i64.wrap ((o.hi : Int) - (o.lo : Int)) = (D : Int) := by rw [IntWalk.i64_in _ (by omega)]; omega
  have g1 : decide ((el : Int) < 0) = false := by simp
  have g2 : decide (D ≤ el) = true := decide_eq_true (by omega)
  clear h ho hk hlh hhi hl hD
  go_enter Try.func64, Try.ntmps64
  go_wp2_with (go_at_call 57; refine HF.out.mono ?_; rintro e w1 ⟨rfl, rfl⟩)
  go_quiet ((go_at_call 59; exact Calls.quiet_of_same (HWd.out _)))
  go_wp2
  all_goals go_ret3
  all_goals exact ⟨rfl, (Below.refl _ _).dn _⟩
set_option maxHeartbeats 1000000 in
theorem el_ineg (h : HpAt w hb A H S) {r : Int} {o : Ob} (ho : Mp.get H.objs r = some o) (hk : o.kind = 2) (el : Nat) (i : Int) (hlh : o.lo ≤ o.hi) (hhi : o.hi ≤ 100000000) (hl : el < o.hi - o.lo) (hi : i < 0) : Calls Try.prog 64 #[.pointer (some ⟨hb, 0, none⟩), .int .i64 r, .int .i64 (el : Int), .int .i64 i] w (WdErr w 11) := by
  have HF := Lib.hid (find_some h ho)
  obtain ⟨d0, d1, d2, d3, d4, d5, d6, d7, d8, d9, _⟩ := h.ocells ho
  have HWd := Lib.hid (width_q h ho)
  rw [hk] at d0
  obtain ⟨D, hD⟩ : ∃ D : Nat, D = o.hi - o.lo := ⟨_, rfl⟩
  have s1 : IntKind.i64.wrap ((o.hi : Int) - (o.lo : Int)) = (D : Int) := by rw [IntWalk.i64_in _ (by omega)]; omega
  have g1 : decide ((el : Int) < 0) = false := by simp
  have g2 : decide (D ≤ el) = false := decide_eq_false (by omega)
  have g3 : decide (i < 0) = true := by simpa using hi
  clear h ho hk hlh hhi hl hD hi
  go_enter Try.func64, Try.ntmps64
  go_wp2_with (go_at_call 57; refine HF.out.mono ?_; rintro e w1 ⟨rfl, rfl⟩)
  go_quiet ((go_at_call 59; exact Calls.quiet_of_same (HWd.out _)))
  go_wp2
  all_goals go_ret3
  all_goals exact ⟨rfl, (Below.refl _ _).dn _⟩
set_option maxHeartbeats 1000000 in
theorem el_ifar (h : HpAt w hb A H S) {r : Int} {o : Ob} (ho : Mp.get H.objs r = some o) (hk : o.kind = 2) (el : Nat) (i : Nat) (hlh : o.lo ≤ o.hi) (hhi : o.hi ≤ 100000000) (hl : el < o.hi - o.lo) (hi : o.refs.length ≤ i) : Calls Try.prog 64 #[.pointer (some ⟨hb, 0, none⟩), .int .i64 r, .int .i64 (el : Int), .int .i64 (i : Int)] w (WdErr w 11) := by
  have HF := Lib.hid (find_some h ho)
  obtain ⟨d0, d1, d2, d3, d4, d5, d6, d7, d8, d9, _⟩ := h.ocells ho
  have HWd := Lib.hid (width_q h ho)
  rw [hk] at d0
  obtain ⟨D, hD⟩ : ∃ D : Nat, D = o.hi - o.lo := ⟨_, rfl⟩
  have s1 : IntKind.i64.wrap ((o.hi : Int) - (o.lo : Int)) = (D : Int) := by rw [IntWalk.i64_in _ (by omega)]; omega
  have g1 : decide ((el : Int) < 0) = false := by simp
  have g2 : decide (D ≤ el) = false := decide_eq_false (by omega)
  have g3 : decide ((i : Int) < 0) = false := by simp
  have g4 : decide (o.refs.length ≤ i) = true := decide_eq_true (by omega)
  clear h ho hk hlh hhi hl hD hi
  go_enter Try.func64, Try.ntmps64
  go_wp2_with (go_at_call 57; refine HF.out.mono ?_; rintro e w1 ⟨rfl, rfl⟩)
  go_quiet ((go_at_call 59; exact Calls.quiet_of_same (HWd.out _)))
  go_wp2
  all_goals go_ret3
  all_goals exact ⟨rfl, (Below.refl _ _).dn _⟩
set_option maxHeartbeats 2000000 in
theorem el_ok (h : HpAt w hb A H S) {r : Int} {o : Ob} (ho : Mp.get H.objs r = some o) (hk : o.kind = 2) {x : Rw} (hx : Mp.get H.rows o.row = some x) (hxA : x.isA = true) (hxl : x.words.length ≤ 100000000) (el i : Nat) (hlh : o.lo ≤ o.hi) (hhi : o.hi ≤ 100000000) (hrl : o.refs.length ≤ 1000) (hl : el < o.hi - o.lo) (hi : i < o.refs.length) (hj : (o.lo + el) * o.refs.length + i < x.words.length) {g : Nat} (hA : A.wA o.row = some ⟨g, 0, none⟩) (hC : x.words.length ≤ A.wC o.row) :
    Calls Try.prog 64 #[.pointer (some ⟨hb, 0, none⟩), .int .i64 r, .int .i64 (el : Int), .int .i64 (i : Int)] w fun e w' => e = .returned (.tuple #[.pointer (some ⟨A.ob r, 0, none⟩), .pointer (some ⟨g, ((o.lo + el) * o.refs.length + i) * 2, none⟩), .int .i64 0]) ∧ Below w.heap.size w w' := by
  have HF := Lib.hid (find_some h ho)
  obtain ⟨d0, d1, d2, d3, d4, d5, d6, d7, d8, d9, _⟩ := h.ocells ho
  have HWd := Lib.hid (width_q h ho)
  rw [hk] at d0
  obtain ⟨D, hD⟩ : ∃ D : Nat, D = o.hi - o.lo := ⟨_, rfl⟩
  have s1 : IntKind.i64.wrap ((o.hi : Int) - (o.lo : Int)) = (D : Int) := by rw [IntWalk.i64_in _ (by omega)]; omega
  have g1 : decide ((el : Int) < 0) = false := by simp
  have g2 : decide (D ≤ el) = false := decide_eq_false (by omega)
  have g3 : decide ((i : Int) < 0) = false := by simp
  have g4 : decide (o.refs.length ≤ i) = false := decide_eq_false (by omega)
  rw [show A.pF o = .pointer (some ⟨A.st o.row, 0, none⟩) from by unfold HA.pF; rw [if_pos hk]] at d7
  have e1 := cell_of_heap (v := .slice (A.wA o.row) x.words.length (A.wC o.row)) (h.sto _ _ hx hxA) (j := 1) rfl
  rw [hA] at e1
  obtain ⟨L, hL⟩ : ∃ L : Nat, L = o.lo + el := ⟨_, rfl⟩
  have s2 : IntKind.i64.wrap ((o.lo : Int) + (el : Int)) = (L : Int) := by rw [IntWalk.i64_in _ (by omega)]; omega
  generalize hrn : o.refs.length = n at *
  obtain ⟨M, hM⟩ : ∃ M : Nat, M = L * n := ⟨_, rfl⟩
  have hLM : M + i < x.words.length := by rw [hM, hL]; exact hj
  have s3 : IntKind.i64.wrap ((L : Int) * (n : Int)) = (M : Int) := by
    have : ((L : Int) * (n : Int)) = (M : Int) := by rw [hM]; exact (Int.natCast_mul L n).symm
    rw [this, IntWalk.i64_in _ (by omega)]
  obtain ⟨K, hK⟩ : ∃ K : Nat, K = M + i := ⟨_, rfl⟩
  have s4 : IntKind.i64.wrap ((M : Int) + (i : Int)) = (K : Int) := by rw [IntWalk.i64_in _ (by omega)]; omega
  have HKE : Hid (((o.lo + el) * n + i) = K) := Lib.hid (by rw [hK, hM, hL])
  have q1 : (0 : Int) ≤ (K : Int) := by omega
  have q2 : (K : Int) < (x.words.length : Int) := by omega
  generalize x.words.length = xl at *
  clear h ho hk hlh hhi hl hD hi hj hrl hA hx hxA hL hM hK hLM hrn d1 d2 d3 d4 d5 d6
  rw [HKE.out]
  go_enter Try.func64, Try.ntmps64
  go_wp2_with (go_at_call 57; refine HF.out.mono ?_; rintro e w1 ⟨rfl, rfl⟩)
  go_quiet ((go_at_call 59; exact Calls.quiet_of_same (HWd.out _)))
  go_wp2
  go_quiet ((go_at_call 59; exact quiet_add_same' (HWd.out _)))
  go_wp2
  all_goals go_ret3
  all_goals exact ⟨rfl, by first | exact (Below.refl _ _).dn _ | exact ((Below.refl _ _).dn _).dn _⟩
end Go.Proofs.Ytodfpclekihbhaa

/- Set and Put, whole. -/
namespace Go.Proofs.Ytodfpclekihbhaa
open Go.RowKit Go.Shelf

variable {w : World} {hb : Nat} {A : HA} {H : Hp} {S : Nat → Prop}
/-- What a call that changes a heap leaves. -/
def ChPost (w : World) (hb : Nat) (A : HA) (S : Nat → Prop) (R : Hp × Int) (e : Ending) (w' : World) : Prop := e = .returned (.int .i64 R.2) ∧ HpAt w' hb A R.1 S ∧ Mut S w w'
theorem ChPost.err (h : HpAt w hb A H S) (n : Int) : ∀ e w', (e = .returned (.int .i64 n) ∧ Below w.heap.size w w') → ChPost w hb A S (H, n) e w' := fun _ _ ⟨h1, h2⟩ => ⟨h1, h.below h2, Mut.of_below h2⟩
theorem word_err (h : HpAt w hb A H S) (r i : Int) (l : Bool) (he : (placeO H r i l).1 = none) (W : World) (hW : Below w.heap.size w W) : Calls Try.prog 73 #[.pointer (some ⟨hb, 0, none⟩), .int .i64 r, .int .i64 i, .bool l] W (WdErr W (placeO H r i l).2) := by
  have h1 := h.below hW
  unfold placeO at he ⊢
  cases ho : Mp.get H.objs r with
  | none => exact word_none h1 ho i l
  | some o =>
    rw [ho] at he
    simp only at he ⊢
    by_cases hk : ¬ (o.kind = 4 ∨ o.kind = 6 ∨ o.kind = 7 ∨ o.kind = 3 ∧ l = true)
    · rw [if_pos hk]
      by_cases h3 : o.kind = 3
      · have : l = false := by
          cases l with
          | false => rfl
          | true => exact absurd (.inr (.inr (.inr ⟨h3, rfl⟩))) hk
        subst this
        exact word_list h1 ho i h3
      · exact word_kind h1 ho i l ⟨fun e => hk (.inl e), fun e => hk (.inr (.inl e)), fun e => hk (.inr (.inr (.inl e))), h3⟩
    · rw [if_neg hk] at he ⊢
      have hk' : o.kind = 4 ∨ o.kind = 6 ∨ o.kind = 7 ∨ o.kind = 3 ∧ l = true := Classical.not_not.1 hk
      by_cases hr : i < 0 ∨ ((H.rowOf o.row).length : Int) ≤ i
      · rw [if_pos hr]
        by_cases hn : i < 0
        · rcases hk' with e | e | e | ⟨e, rfl⟩
          · exact word_neg4 h1 ho i l e hn
          · exact word_neg6 h1 ho i l e hn
          · exact word_neg7 h1 ho i l e hn
          · exact word_neg3 h1 ho i e hn
        · obtain ⟨j, rfl⟩ : ∃ j : Nat, i = (j : Int) := ⟨i.toNat, by omega⟩
          have hj : (H.rowOf o.row).length ≤ j := by omega
          rcases hk' with e | e | e | ⟨e, rfl⟩
          · exact word_far4 h1 ho j l e hj
          · exact word_far6 h1 ho j l e hj
          · exact word_far7 h1 ho j l e hj
          · exact word_far3 h1 ho j e hj
      · rw [if_neg hr] at he
        cases he
theorem placeO_err {H : Hp} {r i : Int} {l : Bool} (he : (placeO H r i l).1 = none) : (placeO H r i l).2 ≠ 0 ∧ placeO H r i l = (none, (placeO H r i l).2) := by
  refine ⟨?_, by rw [← he]⟩
  unfold placeO at he ⊢
  cases ho : Mp.get H.objs r with
  | none => simp
  | some o =>
    rw [ho] at he
    simp only at he ⊢
    split
    · simp
    · split
      · simp
      · rename_i h1 h2
        rw [if_neg h1, if_neg h2] at he
        cases he
theorem placeO_some {H : Hp} {r i : Int} {l : Bool} {k : Int} {j : Nat} (he : (placeO H r i l).1 = some (k, j)) : placeO H r i l = (some (k, j), 0) ∧ i = (j : Int) ∧ ∃ o, Mp.get H.objs r = some o ∧ o.row = k ∧ (o.kind = 4 ∨ o.kind = 6 ∨ o.kind = 7 ∨ o.kind = 3 ∧ l = true) ∧ j < (H.rowOf k).length := by
  unfold placeO at he ⊢
  cases ho : Mp.get H.objs r with
  | none => rw [ho] at he; cases he
  | some o =>
    rw [ho] at he
    simp only at he ⊢
    by_cases h1 : ¬ (o.kind = 4 ∨ o.kind = 6 ∨ o.kind = 7 ∨ o.kind = 3 ∧ l = true)
    · rw [if_pos h1] at he; cases he
    · rw [if_neg h1] at he ⊢
      by_cases h2 : i < 0 ∨ ((H.rowOf o.row).length : Int) ≤ i
      · rw [if_pos h2] at he; cases he
      · rw [if_neg h2] at he ⊢
        simp only [Option.some.injEq, Prod.mk.injEq] at he
        obtain ⟨rfl, rfl⟩ := he
        exact ⟨rfl, by omega, o, rfl, rfl, Classical.not_not.1 h1, by omega⟩
theorem rowOf_some {H : Hp} {k : Int} {j : Nat} (h : j < (H.rowOf k).length) : ∃ y, Mp.get H.rows k = some y ∧ H.rowOf k = y.words := by
  unfold Hp.rowOf at h ⊢
  cases hy : Mp.get H.rows k with
  | none => rw [hy] at h; exact absurd h (Nat.not_lt_zero _)
  | some y => exact ⟨y, rfl, rfl⟩
theorem word_ok (h : HpAt w hb A H S) {r : Int} {o : Ob} (ho : Mp.get H.objs r = some o) (j : Nat) (l : Bool) (hk : o.kind = 4 ∨ o.kind = 6 ∨ o.kind = 7 ∨ o.kind = 3 ∧ l = true) (hj : j < (H.rowOf o.row).length) {g : Nat} (hA : A.wA o.row = some ⟨g, 0, none⟩) (hC : (H.rowOf o.row).length ≤ A.wC o.row) :
    Calls Try.prog 73 #[.pointer (some ⟨hb, 0, none⟩), .int .i64 r, .int .i64 (j : Int), .bool l] w fun e w' => e = .returned (.tuple #[.pointer (some ⟨A.ob r, 0, none⟩), .pointer (some ⟨g, j * 2, none⟩), .int .i64 0]) ∧ Below w.heap.size w w' := by
  rcases hk with e | e | e | ⟨e, rfl⟩
  · exact word_ok4 h ho j l e hj hA hC
  · exact word_ok6 h ho j l e hj hA hC
  · exact word_ok7 h ho j l e hj hA hC
  · exact word_ok3 h ho j e hj hA hC
theorem set_calls (h : HpAt w hb A H S) (hi : Inv H []) (hmu : muH H ≤ 90000000) (hbd : HoldsLe H 1000000000) (hlen : LenOk H) (r i num ref : Int) :
    Calls Try.prog 32 #[.pointer (some ⟨hb, 0, none⟩), .int .i64 r, .int .i64 i, .agg #[.int .i64 num, .int .i64 ref]] w (ChPost w hb A S (setH H r i ⟨num, ref⟩)) := by
  cases hp : (placeO H r i false).1 with
  | none =>
    obtain ⟨h1, h2⟩ := placeO_err hp
    have e : setH H r i ⟨num, ref⟩ = (H, (placeO H r i false).2) := by unfold setH; rw [h2]; rfl
    rw [e]
    exact (set_err _ r i num ref _ h1 (word_err h r i false hp)).mono (ChPost.err h _)
  | some kj =>
    obtain ⟨k, j⟩ := kj
    obtain ⟨h2, rfl, o, ho, rfl, hk, hj⟩ := placeO_some hp
    obtain ⟨y, hy, hye⟩ := rowOf_some hj
    have hj' := hj
    rw [hye] at hj'
    obtain ⟨g, hA, _, hC, _⟩ := (h.row _ y hy).cell j hj'
    have hk2 : o.kind = 4 ∨ o.kind = 6 ∨ o.kind = 7 := by
      rcases hk with e | e | e | ⟨_, e⟩
      · exact .inl e
      · exact .inr (.inl e)
      · exact .inr (.inr e)
      · cases e
    have hl := (hlen r o y ho hy).1 (by omega) (by omega) (by omega)
    have e : setH H r (j : Int) ⟨num, ref⟩ = storeH H r (j : Int) ⟨num, ref⟩ (some (o.row, j), 0) := by unfold setH; rw [h2]
    rw [e]
    exact set_ok h hi hmu hbd ho (by omega) num ref hy hA j hj' fun W hW => word_ok (h.below hW) ho j false hk hj hA (by rw [hye]; exact hC)
theorem placeA_err {H : Hp} {r el i : Int} (he : (placeA H r el i).1 = none) : (placeA H r el i).2 ≠ 0 ∧ placeA H r el i = (none, (placeA H r el i).2) := by
  refine ⟨?_, by rw [← he]⟩
  unfold placeA at he ⊢
  cases ho : Mp.get H.objs r with
  | none => simp
  | some o =>
    rw [ho] at he
    simp only at he ⊢
    split
    · simp
    · split
      · simp
      · rename_i h1 h2
        rw [if_neg h1, if_neg h2] at he
        cases he
theorem placeA_some {H : Hp} {r el i : Int} {k : Int} {j : Nat} (he : (placeA H r el i).1 = some (k, j)) : placeA H r el i = (some (k, j), 0) ∧ ∃ (o : Ob) (a b : Nat), el = (a : Int) ∧ i = (b : Int) ∧ Mp.get H.objs r = some o ∧ o.row = k ∧ o.kind = 2 ∧ a < o.hi - o.lo ∧ b < o.refs.length ∧ j = (o.lo + a) * o.refs.length + b := by
  unfold placeA at he ⊢
  cases ho : Mp.get H.objs r with
  | none => rw [ho] at he; cases he
  | some o =>
    rw [ho] at he
    simp only at he ⊢
    by_cases h1 : o.kind ≠ 2
    · rw [if_pos h1] at he; cases he
    · rw [if_neg h1] at he ⊢
      by_cases h2 : el < 0 ∨ (o.hi : Int) - o.lo ≤ el ∨ i < 0 ∨ (o.refs.length : Int) ≤ i
      · rw [if_pos h2] at he; cases he
      · rw [if_neg h2] at he ⊢
        simp only [Option.some.injEq, Prod.mk.injEq] at he
        obtain ⟨rfl, rfl⟩ := he
        exact ⟨rfl, o, el.toNat, i.toNat, by omega, by omega, rfl, rfl, Classical.not_not.1 h1, by omega, by omega, rfl⟩
theorem el_err (h : HpAt w hb A H S) (hlen : LenOk H) (hi : Inv H []) (r el i : Int) (he : (placeA H r el i).1 = none) (W : World) (hW : Below w.heap.size w W) : Calls Try.prog 64 #[.pointer (some ⟨hb, 0, none⟩), .int .i64 r, .int .i64 el, .int .i64 i] W (WdErr W (placeA H r el i).2) := by
  have h1 := h.below hW
  unfold placeA at he ⊢
  cases ho : Mp.get H.objs r with
  | none => exact el_none h1 ho el i
  | some o =>
    rw [ho] at he
    simp only at he ⊢
    by_cases hk : o.kind ≠ 2
    · rw [if_pos hk]; exact el_kind h1 ho el i hk
    · rw [if_neg hk] at he ⊢
      have hk2 : o.kind = 2 := Classical.not_not.1 hk
      obtain ⟨x, hx, _⟩ := hi.row r o ho
      obtain ⟨hl1, hl2, hl3⟩ := (hlen r o x ho hx).2.1 hk2
      by_cases hr : el < 0 ∨ (o.hi : Int) - o.lo ≤ el ∨ i < 0 ∨ (o.refs.length : Int) ≤ i
      · rw [if_pos hr]
        by_cases c1 : el < 0
        · exact el_neg h1 ho hk2 el i c1
        · obtain ⟨a, rfl⟩ : ∃ a : Nat, el = (a : Int) := ⟨el.toNat, by omega⟩
          by_cases c2 : o.hi - o.lo ≤ a
          · exact el_far h1 ho hk2 a i hl1 (by omega) c2
          · by_cases c3 : i < 0
            · exact el_ineg h1 ho hk2 a i hl1 (by omega) (by omega) c3
            · obtain ⟨b, rfl⟩ : ∃ b : Nat, i = (b : Int) := ⟨i.toNat, by omega⟩
              exact el_ifar h1 ho hk2 a b hl1 (by omega) (by omega) (by omega)
      · rw [if_neg hr] at he
        cases he
theorem put_calls (h : HpAt w hb A H S) (hi : Inv H []) (hmu : muH H ≤ 90000000) (hbd : HoldsLe H 1000000000) (hlen : LenOk H) (r el i num ref : Int) :
    Calls Try.prog 16 #[.pointer (some ⟨hb, 0, none⟩), .int .i64 r, .int .i64 el, .int .i64 i, .agg #[.int .i64 num, .int .i64 ref]] w (ChPost w hb A S (putH H r el i ⟨num, ref⟩)) := by
  cases hp : (placeA H r el i).1 with
  | none =>
    obtain ⟨h1, h2⟩ := placeA_err hp
    have e : putH H r el i ⟨num, ref⟩ = (H, (placeA H r el i).2) := by unfold putH; rw [h2]; rfl
    rw [e]
    exact (put_err _ r el i num ref _ h1 (el_err h hlen hi r el i hp)).mono (ChPost.err h _)
  | some kj =>
    obtain ⟨k, j⟩ := kj
    obtain ⟨h2, o, a, b, rfl, rfl, ho, rfl, hk, ha, hbl, rfl⟩ := placeA_some hp
    obtain ⟨x, hx, hxA, _⟩ := hi.row r o ho
    obtain ⟨hl1, hl2, hl3⟩ := (hlen r o x ho hx).2.1 hk
    have hj := el_lt ha hbl hl2
    obtain ⟨g, hA, _, hC, _⟩ := (h.row _ x hx).cell _ hj
    have e : putH H r (a : Int) (b : Int) ⟨num, ref⟩ = storeH H r (b : Int) ⟨num, ref⟩ (some (o.row, (o.lo + a) * o.refs.length + b), 0) := by unfold putH; rw [h2]
    rw [e]
    exact put_ok h hi hmu hbd (a : Int) ho hbl num ref hx hA _ hj fun W hW => el_ok (h.below hW) ho hk hx (hxA.2 hk) (by have := words_le_mu hx; omega) a b hl1 (by omega) (by have := (hlen r o x ho hx).2.2; omega) ha hbl hj hA hC
end Go.Proofs.Ytodfpclekihbhaa

/- Hold, Drop. -/
namespace Go.Proofs.Ytodfpclekihbhaa
open Go.RowKit Go.Shelf

variable {w : World} {hb : Nat} {A : HA} {H : Hp} {S : Nat → Prop}
theorem hold_nil (r : Int) (w : World) : Calls Try.prog 34 #[.pointer none, .int .i64 r] w fun e w' => e = .returned (.int .i64 4) ∧ Below w.heap.size w w' := by
  have HF := Lib.hid (find_nil r w)
  go_enter Try.func34, Try.ntmps34
  go_wp2_with (go_at_call 57; refine HF.out.mono ?_; rintro e w1 ⟨rfl, rfl⟩)
  all_goals go_ret
  all_goals exact ⟨rfl, Below.refl _ _⟩
theorem drop_nil (r : Int) (w : World) : Calls Try.prog 35 #[.pointer none, .int .i64 r] w fun e w' => e = .returned (.int .i64 4) ∧ Below w.heap.size w w' := by
  have HF := Lib.hid (find_nil r w)
  go_enter Try.func35, Try.ntmps35
  go_wp2_with (go_at_call 57; refine HF.out.mono ?_; rintro e w1 ⟨rfl, rfl⟩)
  all_goals go_ret
  all_goals exact ⟨rfl, Below.refl _ _⟩
set_option maxHeartbeats 1000000 in
theorem hold_calls (h : HpAt w hb A H S) (r : Int) (hbd : ∀ o, Mp.get H.objs r = some o → 0 ≤ o.holds ∧ o.holds ≤ 1000000000) : Calls Try.prog 34 #[.pointer (some ⟨hb, 0, none⟩), .int .i64 r] w (ChPost w hb A S (holdH H r)) := by
  cases ho : Mp.get H.objs r with
  | none =>
    rw [show holdH H r = (H, 4) from by unfold holdH; rw [if_pos ho]]
    have HF := Lib.hid (find_none h ho)
    have HH := Lib.hid h
    clear h ho hbd
    go_enter Try.func34, Try.ntmps34
    go_wp2_with (go_at_call 57; refine HF.out.mono ?_; rintro e w1 ⟨rfl, rfl⟩)
    all_goals go_ret
    all_goals exact ChPost.err HH.out 4 _ _ ⟨rfl, Below.refl _ _⟩
  | some o =>
    rw [show holdH H r = (seeH (H.upd r Ob.hold) r, 0) from by unfold holdH; rw [if_neg (by rw [ho]; simp)]]
    have HF := Lib.hid (find_some h ho)
    have HP : Hid (HpAt (w.setCell ⟨A.ob r, 10, none⟩ (.int .i64 (o.holds + 1))) hb A (H.upd r Ob.hold) S) := Lib.hid (h.setOb r o ho 10 _ Ob.hold rfl fun _ => rfl)
    have HM : Hid (Mut S w (w.setCell ⟨A.ob r, 10, none⟩ (.int .i64 (o.holds + 1)))) := Lib.hid (Mut.setCell _ _ _ _ (h.So r o ho))
    obtain ⟨b1, b2⟩ := hbd o ho
    obtain ⟨d0, d1, d2, d3, d4, d5, d6, d7, d8, d9, d10, d11, df⟩ := h.ocells ho
    have HSee := Lib.hid (see_S HP.out r)
    clear h ho hbd d0 d1 d2 d3 d4 d5 d6 d7 d8 d9 d11
    generalize o.holds = n at *
    go_enter Try.func34, Try.ntmps34
    go_wp2_with (first
      | (go_at_call 57; refine HF.out.mono ?_; rintro e w1 ⟨rfl, rfl⟩)
      | (go_at_call 62; refine HSee.out.mono ?_; rintro e w2 ⟨rfl, h2, m2⟩; have H2 := Lib.hid h2; have M2 := Lib.hid m2; clear h2 m2))
    go_ret
    exact ⟨rfl, H2.out, HM.out.then M2.out⟩
theorem Lst.nil (w : World) (S : Nat → Prop) : Lst w S none 0 [] := ⟨World.ownsRow_nil _ _ _ _, fun a ha => by cases ha⟩
set_option maxHeartbeats 2000000 in
theorem drop_calls (h : HpAt w hb A H S) (hi : Inv H []) (hmu : muH H ≤ 90000000) (hbd : HoldsLe H 1000000000) (r : Int) : Calls Try.prog 35 #[.pointer (some ⟨hb, 0, none⟩), .int .i64 r] w (ChPost w hb A S (dropH H r)) := by
  have HH := Lib.hid h
  cases ho : Mp.get H.objs r with
  | none =>
    rw [show dropH H r = (H, 4) from by unfold dropH; rw [ho]]
    have HF := Lib.hid (find_none h ho)
    clear h ho hbd hi hmu
    go_enter Try.func35, Try.ntmps35
    go_wp2_with (go_at_call 57; refine HF.out.mono ?_; rintro e w1 ⟨rfl, rfl⟩)
    all_goals go_ret
    all_goals exact ChPost.err HH.out 4 _ _ ⟨rfl, Below.refl _ _⟩
  | some o =>
    have HF := Lib.hid (find_some h ho)
    obtain ⟨d0, d1, d2, d3, d4, d5, d6, d7, d8, d9, d10, d11, df⟩ := h.ocells ho
    clear d0 d1 d2 d3 d4 d5 d6 d7 d8 d9 d11
    by_cases h0 : o.holds = 0
    · rw [show dropH H r = (H, 6) from by unfold dropH; rw [ho]; simp only; rw [if_pos h0]]
      rw [h0] at d10
      clear h ho hbd hi hmu h0
      go_enter Try.func35, Try.ntmps35
      go_wp2_with (go_at_call 57; refine HF.out.mono ?_; rintro e w1 ⟨rfl, rfl⟩)
      all_goals go_ret
      all_goals exact ChPost.err HH.out 6 _ _ ⟨rfl, Below.refl _ _⟩
    · have HP : Hid (HpAt (w.setCell ⟨A.ob r, 10, none⟩ (.int .i64 (o.holds - 1))) hb A (H.upd r Ob.drop) S) := Lib.hid (h.setOb r o ho 10 _ Ob.drop rfl fun _ => rfl)
      have HM : Hid (Mut S w (w.setCell ⟨A.ob r, 10, none⟩ (.int .i64 (o.holds - 1)))) := Lib.hid (Mut.setCell _ _ _ _ (h.So r o ho))
      have hpo := hi.pos r o ho
      have hcn := hi.cnt r o ho
      rw [List.count_nil] at hcn
      have hle := inH_le H r
      have e0 : muH H = wsum H.rows + 2 * H.objs.length := rfl
      have hbo := hbd r o ho
      have ho' : Mp.get (H.upd r Ob.drop).objs r = some o.drop := by rw [get_upd, if_pos rfl, ho]; rfl
      have HC : Hid (Calls Try.prog 75 #[.pointer (some ⟨A.ob r, 0, none⟩)] (w.setCell ⟨A.ob r, 10, none⟩ (.int .i64 (o.holds - 1))) fun e w' => e = .returned (.int .i64 (o.holds - 1 + o.rc)) ∧ Below (w.setCell ⟨A.ob r, 10, none⟩ (.int .i64 (o.holds - 1))).heap.size (w.setCell ⟨A.ob r, 10, none⟩ (.int .i64 (o.holds - 1))) w') := Lib.hid (count_calls HP.out ho' (by show 0 ≤ o.holds - 1; omega) (by show o.holds - 1 ≤ _; omega) (by show _ ≤ o.rc; omega) (by show o.rc ≤ _; omega))
      have k0 : (o.holds == 0) = false := by simpa using h0
      have b1 : 1 ≤ o.holds := by omega
      by_cases hc : o.holds - 1 + o.rc = 0
      · have e1 : dropH H r = (relH (freeH (H.upd r Ob.drop) r o).1 (freeH (H.upd r Ob.drop) r o).2.reverse, 0) := by unfold dropH; rw [ho]; simp only; rw [if_neg h0, if_pos hc]
        rw [e1]
        obtain ⟨x, hx, hxA, _⟩ := hi.row r o ho
        obtain ⟨ha1, ha2, ha3⟩ := hi.arr _ _ hx
        have hwl := words_le hx
        have hal : arrC H.objs o.row ≤ H.objs.length := List.length_filter_le _ _
        have hi2 := hi.drop0 ho h0 hc
        rw [List.append_nil] at hi2
        have hmu2 := mu_free (H.upd r Ob.drop) r o _ ho'
        rw [mu_upd] at hmu2
        have HFr := Lib.hid fun (w2 : World) (hm : Below (w.setCell ⟨A.ob r, 10, none⟩ (.int .i64 (o.holds - 1))).heap.size (w.setCell ⟨A.ob r, 10, none⟩ (.int .i64 (o.holds - 1))) w2) => (callsIn_wide (n := 5)).1 (free_calls 5 (by omega) (HP.out.below hm) (o := o.drop) ho' (x := x) hx hxA (by omega) (by omega) ha3 (by
          intro hA r2 o2 h2 e2
          have hfi := hi2.row
          rw [freeH_none (H := H.upd r Ob.drop) (x := x) hx hA] at hfi
          obtain ⟨z, hz, _⟩ := hfi r2 o2 h2
          rw [e2] at hz
          have hz' : Mp.get (Mp.del H.rows o.row) o.row = some z := hz
          rw [Mp.get_del, if_pos rfl] at hz'
          cases hz') (by omega) (Lst.nil w2 S) (by simp))
        have HI2 := Lib.hid hi2
        have HMU2 : Hid (muH (freeH (H.upd r Ob.drop) r o).1 + (freeH (H.upd r Ob.drop) r o).2.length ≤ 100000000) := Lib.hid (by omega)
        have HB2 : Hid (HoldsLe (freeH (H.upd r Ob.drop) r o).1 1000000000) := Lib.hid (by
          intro x y hy
          rw [freeH_objs] at hy
          have hy2 := (get_del_of hy)
          have := hy2.1
          rw [get_upd, if_neg hy2.2] at this
          exact hbd x y this)
        clear h ho hbd hi hmu h0 hpo hcn hle e0 ho' hx hxA ha1 ha2 ha3 hwl hal hi2 hmu2 e1
        generalize hm : o.holds - 1 + o.rc = m at *
        subst hc
        clear hm
        generalize o.holds = nh at *
        go_enter Try.func35, Try.ntmps35
        go_wp2_with (first
          | (go_at_call 57; refine HF.out.mono ?_; rintro e w1 ⟨rfl, rfl⟩)
          | (go_at_call 75; refine HC.out.mono ?_; rintro e w2 ⟨rfl, hb2⟩
             have HBl := Lib.hid hb2
             clear hb2)
          | (go_at_call 76; refine (HFr.out _ HBl.out).mono ?_; rintro e w3 ⟨LA2, LC2, rfl, h3, l3, f3, m3⟩
             have H3 := Lib.hid h3
             have L3 := Lib.hid l3
             have F3 := Lib.hid f3
             have M3 := Lib.hid m3
             clear h3 l3 f3 m3)
          | (go_at_call 63; refine (release_calls (l := (freeH (H.upd r Ob.drop) r o).2) H3.out HI2.out HMU2.out HB2.out L3.out).mono ?_; rintro e w4 ⟨rfl, h4, m4⟩
             have H4 := Lib.hid h4
             have M4 := Lib.hid m4
             clear h4 m4))
        go_ret
        refine ⟨rfl, H4.out, ?_⟩
        refine (((HM.out.then (Mut.of_below HBl.out)).trans M3.out fun k hk => ?_).trans M4.out fun k hk => ?_)
        · rcases hk with hk | ⟨a, ha, _⟩
          · exact .inl hk
          · cases ha
        · rcases hk with hk | ⟨a, ha, rfl⟩
          · exact .inl hk
          · rcases F3.out a ha with e | e
            · cases e
            · exact .inr (by have := HBl.out.size; simp at this; omega)
      · have e1 : dropH H r = (H.upd r Ob.drop, 0) := by unfold dropH; rw [ho]; simp only; rw [if_neg h0, if_neg hc]
        rw [e1]
        have k1 : (o.holds - 1 + o.rc == 0) = false := by simpa using hc
        clear h ho hbd hi hmu h0 hpo hcn hle e0 ho' e1 hc
        generalize hm : o.holds - 1 + o.rc = m at *
        clear hm
        generalize o.holds = nh at *
        go_enter Try.func35, Try.ntmps35
        go_wp2_with (first
          | (go_at_call 57; refine HF.out.mono ?_; rintro e w1 ⟨rfl, rfl⟩)
          | (go_at_call 75; refine HC.out.mono ?_; rintro e w2 ⟨rfl, hb2⟩
             have HBl := Lib.hid hb2
             clear hb2))
        go_ret
        exact ⟨rfl, HP.out.below HBl.out, HM.out.then (Mut.of_below HBl.out)⟩
end Go.Proofs.Ytodfpclekihbhaa

