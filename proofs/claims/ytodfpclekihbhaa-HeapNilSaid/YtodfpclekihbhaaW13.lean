/- fits; replace. -/
import Derived.Test.YtodfpclekihbhaaW12
namespace Go.Proofs.Ytodfpclekihbhaa
open Go.RowKit Go.Shelf

variable {w : World} {hb : Nat} {A : HA} {H : Hp} {S : Nat → Prop}
theorem fits_a (h : HpAt w hb A H S) (cls : Int) (g off n sc i : Nat) (num ref : Int) (hi : i < n) (hg : g < w.heap.size) (hc : w.cell? ⟨g, off + i, none⟩ = some (.bool true)) (k1 : num ≠ 0) :
    Calls Try.prog 65 #[.pointer (some ⟨hb, 0, none⟩), .agg #[.int .i64 cls, .slice (some ⟨g, off, none⟩) n sc], .int .i64 (i : Int), .agg #[.int .i64 num, .int .i64 ref]] w fun e w' => e = .returned (.int .i64 13) ∧ Below w.heap.size w w' := by
  have HB2 : Hid (Below w.heap.size w ((w.alloc (.cells #[.int .i64 cls, .slice (some ⟨g, off, none⟩) n sc] 32)).alloc (.cells #[.int .i64 num, .int .i64 ref] 42))) := Lib.hid (((Below.refl _ _).alloc (Nat.le_refl _) _).alloc (by simp) _)
  have q1 : (num != 0) = !false := by simpa using k1
  have g3 : (0 : Int) ≤ (i : Int) := by omega
  have g4 : (i : Int) < (n : Int) := by omega
  clear h
  go_enter Try.func65, Try.ntmps65
  go_wp2
  all_goals go_ret
  all_goals exact ⟨rfl, HB2.out⟩
theorem fits_b (h : HpAt w hb A H S) (cls : Int) (g off n sc i : Nat) (hi : i < n) (hg : g < w.heap.size) (hc : w.cell? ⟨g, off + i, none⟩ = some (.bool true))  :
    Calls Try.prog 65 #[.pointer (some ⟨hb, 0, none⟩), .agg #[.int .i64 cls, .slice (some ⟨g, off, none⟩) n sc], .int .i64 (i : Int), .agg #[.int .i64 0, .int .i64 0]] w fun e w' => e = .returned (.int .i64 0) ∧ Below w.heap.size w w' := by
  have HB2 : Hid (Below w.heap.size w ((w.alloc (.cells #[.int .i64 cls, .slice (some ⟨g, off, none⟩) n sc] 32)).alloc (.cells #[.int .i64 0, .int .i64 0] 42))) := Lib.hid (((Below.refl _ _).alloc (Nat.le_refl _) _).alloc (by simp) _)
  have g3 : (0 : Int) ≤ (i : Int) := by omega
  have g4 : (i : Int) < (n : Int) := by omega
  clear h
  go_enter Try.func65, Try.ntmps65
  go_wp2
  all_goals go_ret
  all_goals exact ⟨rfl, HB2.out⟩
theorem fits_c (h : HpAt w hb A H S) (cls : Int) (g off n sc i : Nat) (ref : Int) (hi : i < n) (hg : g < w.heap.size) (hc : w.cell? ⟨g, off + i, none⟩ = some (.bool true)) (k2 : ref ≠ 0) (ho : Mp.get H.objs ref = none) :
    Calls Try.prog 65 #[.pointer (some ⟨hb, 0, none⟩), .agg #[.int .i64 cls, .slice (some ⟨g, off, none⟩) n sc], .int .i64 (i : Int), .agg #[.int .i64 0, .int .i64 ref]] w fun e w' => e = .returned (.int .i64 4) ∧ Below w.heap.size w w' := by
  have HB2 : Hid (Below w.heap.size w ((w.alloc (.cells #[.int .i64 cls, .slice (some ⟨g, off, none⟩) n sc] 32)).alloc (.cells #[.int .i64 0, .int .i64 ref] 42))) := Lib.hid (((Below.refl _ _).alloc (Nat.le_refl _) _).alloc (by simp) _)
  have q2 : (ref != 0) = !false := by simpa using k2
  have HF := Lib.hid (find_none (h.below HB2.out) ho)
  have g3 : (0 : Int) ≤ (i : Int) := by omega
  have g4 : (i : Int) < (n : Int) := by omega
  clear h ho
  go_enter Try.func65, Try.ntmps65
  go_wp2_with (go_at_call 57; refine HF.out.mono ?_; rintro e w1 ⟨rfl, rfl⟩)
  all_goals go_ret
  all_goals exact ⟨rfl, HB2.out⟩
theorem fits_d (h : HpAt w hb A H S) (cls : Int) (g off n sc i : Nat) (ref : Int) (hi : i < n) (hg : g < w.heap.size) (hc : w.cell? ⟨g, off + i, none⟩ = some (.bool true)) (k2 : ref ≠ 0) {o : Ob} (ho : Mp.get H.objs ref = some o) :
    Calls Try.prog 65 #[.pointer (some ⟨hb, 0, none⟩), .agg #[.int .i64 cls, .slice (some ⟨g, off, none⟩) n sc], .int .i64 (i : Int), .agg #[.int .i64 0, .int .i64 ref]] w fun e w' => e = .returned (.int .i64 0) ∧ Below w.heap.size w w' := by
  have HB2 : Hid (Below w.heap.size w ((w.alloc (.cells #[.int .i64 cls, .slice (some ⟨g, off, none⟩) n sc] 32)).alloc (.cells #[.int .i64 0, .int .i64 ref] 42))) := Lib.hid (((Below.refl _ _).alloc (Nat.le_refl _) _).alloc (by simp) _)
  have q2 : (ref != 0) = !false := by simpa using k2
  have HF := Lib.hid (find_some (h.below HB2.out) ho)
  have g3 : (0 : Int) ≤ (i : Int) := by omega
  have g4 : (i : Int) < (n : Int) := by omega
  clear h ho
  go_enter Try.func65, Try.ntmps65
  go_wp2_with (go_at_call 57; refine HF.out.mono ?_; rintro e w1 ⟨rfl, rfl⟩)
  all_goals go_ret
  all_goals exact ⟨rfl, HB2.out⟩
theorem fits_e (h : HpAt w hb A H S) (cls : Int) (g off n sc i : Nat) (num ref : Int) (hi : i < n) (hg : g < w.heap.size) (hc : w.cell? ⟨g, off + i, none⟩ = some (.bool false)) (k2 : ref ≠ 0) :
    Calls Try.prog 65 #[.pointer (some ⟨hb, 0, none⟩), .agg #[.int .i64 cls, .slice (some ⟨g, off, none⟩) n sc], .int .i64 (i : Int), .agg #[.int .i64 num, .int .i64 ref]] w fun e w' => e = .returned (.int .i64 13) ∧ Below w.heap.size w w' := by
  have HB2 : Hid (Below w.heap.size w ((w.alloc (.cells #[.int .i64 cls, .slice (some ⟨g, off, none⟩) n sc] 32)).alloc (.cells #[.int .i64 num, .int .i64 ref] 42))) := Lib.hid (((Below.refl _ _).alloc (Nat.le_refl _) _).alloc (by simp) _)
  have q2 : (ref != 0) = !false := by simpa using k2
  have g3 : (0 : Int) ≤ (i : Int) := by omega
  have g4 : (i : Int) < (n : Int) := by omega
  clear h
  go_enter Try.func65, Try.ntmps65
  go_wp2
  all_goals go_ret
  all_goals exact ⟨rfl, HB2.out⟩
theorem fits_f (h : HpAt w hb A H S) (cls : Int) (g off n sc i : Nat) (num : Int) (hi : i < n) (hg : g < w.heap.size) (hc : w.cell? ⟨g, off + i, none⟩ = some (.bool false))  :
    Calls Try.prog 65 #[.pointer (some ⟨hb, 0, none⟩), .agg #[.int .i64 cls, .slice (some ⟨g, off, none⟩) n sc], .int .i64 (i : Int), .agg #[.int .i64 num, .int .i64 0]] w fun e w' => e = .returned (.int .i64 0) ∧ Below w.heap.size w w' := by
  have HB2 : Hid (Below w.heap.size w ((w.alloc (.cells #[.int .i64 cls, .slice (some ⟨g, off, none⟩) n sc] 32)).alloc (.cells #[.int .i64 num, .int .i64 0] 42))) := Lib.hid (((Below.refl _ _).alloc (Nat.le_refl _) _).alloc (by simp) _)
  have g3 : (0 : Int) ≤ (i : Int) := by omega
  have g4 : (i : Int) < (n : Int) := by omega
  clear h
  go_enter Try.func65, Try.ntmps65
  go_wp2
  all_goals go_ret
  all_goals exact ⟨rfl, HB2.out⟩
theorem fits_calls (h : HpAt w hb A H S) (cls : Int) {sa : Option Addr} (sc : Nat) {refs : List Bool} (hs : BoolsAt w sa refs) (i : Nat) (hi : i < refs.length) (num ref : Int) :
    Calls Try.prog 65 #[.pointer (some ⟨hb, 0, none⟩), .agg #[.int .i64 cls, .slice sa refs.length sc], .int .i64 (i : Int), .agg #[.int .i64 num, .int .i64 ref]] w fun e w' => e = .returned (.int .i64 (fitsH H (refs[i]'hi) ⟨num, ref⟩)) ∧ Below w.heap.size w w' := by
  obtain ⟨g, off, rfl, hg, hc⟩ := hs i hi
  generalize refs[i]'hi = b at *
  cases b with
  | true =>
    by_cases k1 : num = 0
    · subst k1
      by_cases k2 : ref = 0
      · subst k2
        exact fits_b h cls g off _ sc i hi hg hc
      · cases ho : Mp.get H.objs ref with
        | none =>
          rw [show fitsH H true ⟨0, ref⟩ = 4 from by simp [fitsH, k2, ho]]
          exact fits_c h cls g off _ sc i ref hi hg hc k2 ho
        | some o =>
          rw [show fitsH H true ⟨0, ref⟩ = 0 from by simp [fitsH, k2, ho]]
          exact fits_d h cls g off _ sc i ref hi hg hc k2 ho
    · rw [show fitsH H true ⟨num, ref⟩ = 13 from by simp [fitsH, k1]]
      exact fits_a h cls g off _ sc i num ref hi hg hc k1
  | false =>
    by_cases k2 : ref = 0
    · subst k2
      rw [show fitsH H false ⟨num, 0⟩ = 0 from by simp [fitsH]]
      exact fits_f h cls g off _ sc i num hi hg hc
    · rw [show fitsH H false ⟨num, ref⟩ = 13 from by simp [fitsH, k2]]
      exact fits_e h cls g off _ sc i num ref hi hg hc k2
end Go.Proofs.Ytodfpclekihbhaa
