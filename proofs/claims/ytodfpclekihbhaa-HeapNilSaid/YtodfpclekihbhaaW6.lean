/- Calls that look an object up and read it; on a heap that is nil. -/
import Derived.Test.YtodfpclekihbhaaW5
namespace Go.Proofs.Ytodfpclekihbhaa
open Go.RowKit Go.Shelf

variable {w : World} {hb : Nat} {A : HA} {H : Hp} {S : Nat → Prop}
theorem find_none (h : HpAt w hb A H S) {r : Int} (ho : Mp.get H.objs r = none) : Calls Try.prog 57 #[.pointer (some ⟨hb, 0, none⟩), .int .i64 r] w fun e w' => e = .returned (.pointer none) ∧ w = w' := by
  have := find_calls h r
  rw [HA.at_none ho] at this
  exact this
theorem find_some (h : HpAt w hb A H S) {r : Int} {o : Ob} (ho : Mp.get H.objs r = some o) : Calls Try.prog 57 #[.pointer (some ⟨hb, 0, none⟩), .int .i64 r] w fun e w' => e = .returned (.pointer (some ⟨A.ob r, 0, none⟩)) ∧ w = w' := by
  have := find_calls h r
  rw [HA.at_some ho] at this
  exact this
theorem kind_nil (r : Int) (w : World) : Calls Try.prog 37 #[.pointer none, .int .i64 r] w fun e w' => e = .returned (.int .i64 0) ∧ w = w' := by
  have HF := Lib.hid (find_nil r w)
  go_enter Try.func37, Try.ntmps37
  go_wp2_with (go_at_call 57; refine HF.out.mono ?_; rintro e w1 ⟨rfl, rfl⟩)
  all_goals go_ret
  all_goals exact ⟨rfl, rfl⟩
theorem kind_calls (h : HpAt w hb A H S) (r : Int) : Calls Try.prog 37 #[.pointer (some ⟨hb, 0, none⟩), .int .i64 r] w fun e w' => e = .returned (.int .i64 (kindH H r)) ∧ w = w' := by
  cases ho : Mp.get H.objs r with
  | none =>
    have HE : Hid (kindH H r = 0) := Lib.hid (by simp [kindH, ho])
    have HF := Lib.hid (find_none h ho)
    clear h ho
    go_enter Try.func37, Try.ntmps37
    go_wp2_with (go_at_call 57; refine HF.out.mono ?_; rintro e w1 ⟨rfl, rfl⟩)
    all_goals go_ret
    all_goals exact ⟨by rw [HE.out]; rfl, rfl⟩
  | some o =>
    have HE : Hid (kindH H r = o.kind) := Lib.hid (by simp [kindH, ho])
    have HF := Lib.hid (find_some h ho)
    obtain ⟨d0, d1, d2, d3, d4, d5, d6, d7, d8, d9, d10, d11, df⟩ := h.ocells ho
    clear h ho
    go_enter Try.func37, Try.ntmps37
    go_wp2_with (go_at_call 57; refine HF.out.mono ?_; rintro e w1 ⟨rfl, rfl⟩)
    all_goals go_ret
    all_goals exact ⟨by rw [HE.out]; rfl, rfl⟩
theorem holds_nil (r : Int) (w : World) : Calls Try.prog 38 #[.pointer none, .int .i64 r] w fun e w' => e = .returned (.int .i64 0) ∧ w = w' := by
  have HF := Lib.hid (find_nil r w)
  go_enter Try.func38, Try.ntmps38
  go_wp2_with (go_at_call 57; refine HF.out.mono ?_; rintro e w1 ⟨rfl, rfl⟩)
  all_goals go_ret
  all_goals exact ⟨rfl, rfl⟩
theorem holds_calls (h : HpAt w hb A H S) (r : Int) : Calls Try.prog 38 #[.pointer (some ⟨hb, 0, none⟩), .int .i64 r] w fun e w' => e = .returned (.int .i64 (holdsH H r)) ∧ w = w' := by
  cases ho : Mp.get H.objs r with
  | none =>
    have HE : Hid (holdsH H r = 0) := Lib.hid (by simp [holdsH, ho])
    have HF := Lib.hid (find_none h ho)
    clear h ho
    go_enter Try.func38, Try.ntmps38
    go_wp2_with (go_at_call 57; refine HF.out.mono ?_; rintro e w1 ⟨rfl, rfl⟩)
    all_goals go_ret
    all_goals exact ⟨by rw [HE.out]; rfl, rfl⟩
  | some o =>
    have HE : Hid (holdsH H r = o.holds) := Lib.hid (by simp [holdsH, ho])
    have HF := Lib.hid (find_some h ho)
    obtain ⟨d0, d1, d2, d3, d4, d5, d6, d7, d8, d9, d10, d11, df⟩ := h.ocells ho
    clear h ho
    go_enter Try.func38, Try.ntmps38
    go_wp2_with (go_at_call 57; refine HF.out.mono ?_; rintro e w1 ⟨rfl, rfl⟩)
    all_goals go_ret
    all_goals exact ⟨by rw [HE.out]; rfl, rfl⟩
theorem Count_nil (r : Int) (w : World) : Calls Try.prog 39 #[.pointer none, .int .i64 r] w fun e w' => e = .returned (.int .i64 0) ∧ w = w' := by
  have HF := Lib.hid (find_nil r w)
  go_enter Try.func39, Try.ntmps39
  go_wp2_with (go_at_call 57; refine HF.out.mono ?_; rintro e w1 ⟨rfl, rfl⟩)
  all_goals go_ret
  all_goals exact ⟨rfl, rfl⟩
/-- Count's result; the world may have drawn. -/
theorem Count_calls (h : HpAt w hb A H S) (r : Int) (hbd : ∀ o, Mp.get H.objs r = some o → 0 ≤ o.holds ∧ o.holds ≤ 1000000000 ∧ 0 ≤ o.rc ∧ o.rc ≤ 1000000000) : Calls Try.prog 39 #[.pointer (some ⟨hb, 0, none⟩), .int .i64 r] w fun e w' => e = .returned (.int .i64 (countH H r)) ∧ Below w.heap.size w w' := by
  cases ho : Mp.get H.objs r with
  | none =>
    have HE : Hid (countH H r = 0) := Lib.hid (by simp [countH, ho])
    have HF := Lib.hid (find_none h ho)
    clear h ho hbd
    go_enter Try.func39, Try.ntmps39
    go_wp2_with (go_at_call 57; refine HF.out.mono ?_; rintro e w1 ⟨rfl, rfl⟩)
    all_goals go_ret
    all_goals exact ⟨by rw [HE.out]; rfl, Below.refl _ _⟩
  | some o =>
    have HE : Hid (countH H r = o.holds + o.rc) := Lib.hid (by simp [countH, ho])
    have HF := Lib.hid (find_some h ho)
    obtain ⟨b1, b2, b3, b4⟩ := hbd o ho
    have HC := Lib.hid (count_calls h ho b1 b2 (by omega) b4)
    clear h ho hbd b1 b2 b3 b4
    go_enter Try.func39, Try.ntmps39
    go_wp2_with (first
      | (go_at_call 57; refine HF.out.mono ?_; rintro e w1 ⟨rfl, rfl⟩)
      | (go_at_call 75; refine HC.out.mono ?_; rintro e w1 ⟨rfl, hb1⟩; have HB := Lib.hid hb1; clear hb1))
    all_goals go_ret
    all_goals exact ⟨by rw [HE.out]; rfl, HB.out⟩
/-- The number of the store, and the error. -/
def storeOfH (H : Hp) (r : Int) : Int × Int := match Mp.get H.objs r with | none => (0, 4) | some o => if o.kind ≠ 2 then (0, 13) else (o.row, 0)
theorem store_nil (r : Int) (w : World) : Calls Try.prog 46 #[.pointer none, .int .i64 r] w fun e w' => e = .returned (.tuple #[.int .i64 0, .int .i64 4]) ∧ w = w' := by
  have HF := Lib.hid (find_nil r w)
  go_enter Try.func46, Try.ntmps46
  go_wp2_with (go_at_call 57; refine HF.out.mono ?_; rintro e w1 ⟨rfl, rfl⟩)
  all_goals go_ret2
  all_goals exact ⟨rfl, rfl⟩
theorem store_calls (h : HpAt w hb A H S) (r : Int) (hrow : ∀ o, Mp.get H.objs r = some o → o.kind = 2 → ∃ x, Mp.get H.rows o.row = some x ∧ x.isA = true) : Calls Try.prog 46 #[.pointer (some ⟨hb, 0, none⟩), .int .i64 r] w fun e w' => e = .returned (.tuple #[.int .i64 (storeOfH H r).1, .int .i64 (storeOfH H r).2]) ∧ w = w' := by
  cases ho : Mp.get H.objs r with
  | none =>
    have HE : Hid (storeOfH H r = (0, 4)) := Lib.hid (by simp [storeOfH, ho])
    have HF := Lib.hid (find_none h ho)
    clear h ho hrow
    go_enter Try.func46, Try.ntmps46
    go_wp2_with (go_at_call 57; refine HF.out.mono ?_; rintro e w1 ⟨rfl, rfl⟩)
    all_goals go_ret2
    all_goals exact ⟨by rw [HE.out]; rfl, rfl⟩
  | some o =>
    have HF := Lib.hid (find_some h ho)
    obtain ⟨d0, d1, d2, d3, d4, d5, d6, d7, d8, d9, d10, d11, df⟩ := h.ocells ho
    by_cases hk : o.kind = 2
    · have HE : Hid (storeOfH H r = (o.row, 0)) := Lib.hid (by simp [storeOfH, ho, hk])
      obtain ⟨x, hx, hi⟩ := hrow o ho hk
      have e1 := cell_of_heap (v := .int .i64 o.row) (h.sto _ _ hx hi) (j := 0) rfl
      rw [hk] at d0
      have d7' : w.cell? ⟨A.ob r, 7, none⟩ = some (.pointer (some ⟨A.st o.row, 0, none⟩)) := by rw [d7]; unfold HA.pF; rw [if_pos hk]
      clear h ho hrow d7 hk d1 d2 d3 d4 d5 d6 d8 d9 d10 d11 hx hi
      go_enter Try.func46, Try.ntmps46
      go_wp2_with (go_at_call 57; refine HF.out.mono ?_; rintro e w1 ⟨rfl, rfl⟩)
      all_goals go_ret2
      all_goals exact ⟨by rw [HE.out]; rfl, rfl⟩
    · have HE : Hid (storeOfH H r = (0, 13)) := Lib.hid (by simp [storeOfH, ho, hk])
      have hk2 : (o.kind != 2) = !false := by simpa using hk
      clear h ho hrow d7 hk d1 d2 d3 d4 d5 d6 d8 d9 d10 d11
      go_enter Try.func46, Try.ntmps46
      go_wp2_with (go_at_call 57; refine HF.out.mono ?_; rintro e w1 ⟨rfl, rfl⟩)
      all_goals go_ret2
      all_goals exact ⟨by rw [HE.out]; rfl, rfl⟩
end Go.Proofs.Ytodfpclekihbhaa
