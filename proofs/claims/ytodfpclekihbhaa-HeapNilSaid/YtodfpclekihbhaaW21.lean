/- Calls on a heap that is nil; Watch; the examples of the chapter. -/
import Derived.Test.YtodfpclekihbhaaW20
namespace Go.Proofs.Ytodfpclekihbhaa
open Go.RowKit Go.Shelf

variable {w : World} {hb : Nat} {A : HA} {H : Hp} {S : Nat → Prop}
theorem set_nil (r i num ref : Int) (w : World) : Calls Try.prog 32 #[.pointer none, .int .i64 r, .int .i64 i, .agg #[.int .i64 num, .int .i64 ref]] w fun e w' => e = .returned (.int .i64 4) ∧ Below w.heap.size w w' :=
  set_err none r i num ref 4 (by decide) fun W _ => word_nil r i false W
theorem put_nil (r el i num ref : Int) (w : World) : Calls Try.prog 16 #[.pointer none, .int .i64 r, .int .i64 el, .int .i64 i, .agg #[.int .i64 num, .int .i64 ref]] w fun e w' => e = .returned (.int .i64 4) ∧ Below w.heap.size w w' :=
  put_err none r el i num ref 4 (by decide) fun W _ => el_nil r el i W
theorem array_nil (cls : Int) (ad : Option Addr) (m C : Nat) (n : Int) (w : World) : Calls Try.prog 13 #[.pointer none, .agg #[.int .i64 cls, .slice ad m C], .int .i64 n] w fun e w' => e = .returned (.tuple #[.int .i64 0, .int .i64 4]) ∧ Below w.heap.size w w' := by
  go_enter Try.func13, Try.ntmps13
  go_wp2
  all_goals go_ret2
  all_goals exact ⟨rfl, (Below.refl _ _).alloc (Nat.le_refl _) _⟩
theorem text_nil (c : ByteArray) (wd : Bool) (w : World) : Calls Try.prog 28 #[.pointer none, .agg #[.string c, .bool wd]] w fun e w' => e = .returned (.tuple #[.int .i64 0, .int .i64 4]) ∧ Below w.heap.size w w' := by
  go_enter Try.func28, Try.ntmps28
  go_wp2
  all_goals go_ret2
  all_goals exact ⟨rfl, (Below.refl _ _).alloc (Nat.le_refl _) _⟩
theorem cons_nil (cls : Int) (ad bd : Option Addr) (m C m2 C2 : Nat) (t : Int) (w : World) : Calls Try.prog 30 #[.pointer none, .agg #[.int .i64 cls, .slice ad m C], .slice bd m2 C2, .int .i64 t] w fun e w' => e = .returned (.tuple #[.int .i64 0, .int .i64 4]) ∧ Below w.heap.size w w' := by
  go_enter Try.func30, Try.ntmps30
  go_wp2
  all_goals go_ret2
  all_goals exact ⟨rfl, ((Below.refl _ _).alloc (Nat.le_refl _) _).alloc (by simp) _⟩
theorem part_nil (r f t : Int) (w : World) : Calls Try.prog 14 #[.pointer none, .int .i64 r, .int .i64 f, .int .i64 t] w fun e w' => e = .returned (.tuple #[.int .i64 0, .int .i64 4]) ∧ Below w.heap.size w w' := by
  have HF := Lib.hid (find_nil r w)
  go_enter Try.func14, Try.ntmps14
  go_wp2_with (go_at_call 57; refine HF.out.mono ?_; rintro e w1 ⟨rfl, rfl⟩)
  all_goals go_ret2
  all_goals exact ⟨rfl, Below.refl _ _⟩
theorem len_nil (r : Int) (w : World) : Calls Try.prog 17 #[.pointer none, .int .i64 r] w fun e w' => e = .returned (.tuple #[.int .i64 0, .int .i64 4]) ∧ Below w.heap.size w w' := by
  have HF := Lib.hid (find_nil r w)
  go_enter Try.func17, Try.ntmps17
  go_wp2_with (go_at_call 57; refine HF.out.mono ?_; rintro e w1 ⟨rfl, rfl⟩)
  all_goals go_ret2
  all_goals exact ⟨rfl, Below.refl _ _⟩
theorem copy_nil (r t x : Int) (w : World) : Calls Try.prog 15 #[.pointer none, .int .i64 r, .int .i64 t, .int .i64 x] w fun e w' => e = .returned (.int .i64 4) ∧ Below w.heap.size w w' := by
  have HF := Lib.hid (find_nil r w)
  have HF2 := Lib.hid (find_nil x w)
  have t1 : True := trivial
  go_enter Try.func15, Try.ntmps15
  go_wp2_with (first
    | (go_at_call 57; have _t := t1; refine HF.out.mono ?_; rintro e w1 ⟨rfl, rfl⟩; clear t1)
    | (go_at_call 57; refine HF2.out.mono ?_; rintro e w1 ⟨rfl, rfl⟩))
  all_goals go_ret
  all_goals exact ⟨rfl, Below.refl _ _⟩
theorem get_err (p : Option Addr) (r : Int) (i : Int) (n : Int) (hn : n ≠ 0) (hw : ∀ W, Below w.heap.size w W → Calls Try.prog 73 #[.pointer p, .int .i64 r, .int .i64 i, .bool true] W (WdErr W n)) : Calls Try.prog 31 #[.pointer p, .int .i64 r, .int .i64 i] w fun e w' => e = .returned (.tuple #[.agg #[.int .i64 0, .int .i64 0], .int .i64 n]) ∧ Below w.heap.size w w' := by
  have hB : Below w.heap.size w (w.alloc (.cells #[.int .i64 0, .int .i64 0] 42)) := (Below.refl _ _).alloc (Nat.le_refl _) _
  have HB := Lib.hid hB
  have HW := Lib.hid (hw _ hB)
  have HK0 := Lib.hid (heap_alloc_new w (.cells #[.int .i64 0, .int .i64 0] 42))
  have k1 : (n != 0) = !false := by simpa using hn
  clear hB hw hn
  go_enter Try.func31, Try.ntmps31
  go_wp2_with (go_at_call 73; refine HW.out.mono ?_; rintro e w1 ⟨rfl, hb1⟩
               have HB1 := Lib.hid (HB.out.trans (hb1.mono HB.out.size))
               have hk := (hb1.block _ (lt_of_heap HK0.out)).trans HK0.out
               have e0 := cell_of_heap (v := .int .i64 0) hk (j := 0) rfl
               have e1 := cell_of_heap (v := .int .i64 0) hk (j := 1) rfl
               have f0 := frozen_of_heap hk 0
               have f1 := frozen_of_heap hk 1
               have hz := lt_of_heap hk
               clear hb1 hk)
  exact bodyPost_ret (v := .tuple #[.agg #[.int .i64 0, .int .i64 0], .int .i64 n]) (by simp [results, Try.results31, go_sem, e0, e1]) rfl ⟨rfl, (HB1.out.setCell (Nat.le_refl _) _).setCell (Nat.le_refl _) _⟩
theorem at_err (p : Option Addr) (r : Int) (el i : Int) (n : Int) (hn : n ≠ 0) (hw : ∀ W, Below w.heap.size w W → Calls Try.prog 64 #[.pointer p, .int .i64 r, .int .i64 el, .int .i64 i] W (WdErr W n)) : Calls Try.prog 18 #[.pointer p, .int .i64 r, .int .i64 el, .int .i64 i] w fun e w' => e = .returned (.tuple #[.agg #[.int .i64 0, .int .i64 0], .int .i64 n]) ∧ Below w.heap.size w w' := by
  have hB : Below w.heap.size w (w.alloc (.cells #[.int .i64 0, .int .i64 0] 42)) := (Below.refl _ _).alloc (Nat.le_refl _) _
  have HB := Lib.hid hB
  have HW := Lib.hid (hw _ hB)
  have HK0 := Lib.hid (heap_alloc_new w (.cells #[.int .i64 0, .int .i64 0] 42))
  have k1 : (n != 0) = !false := by simpa using hn
  clear hB hw hn
  go_enter Try.func18, Try.ntmps18
  go_wp2_with (go_at_call 64; refine HW.out.mono ?_; rintro e w1 ⟨rfl, hb1⟩
               have HB1 := Lib.hid (HB.out.trans (hb1.mono HB.out.size))
               have hk := (hb1.block _ (lt_of_heap HK0.out)).trans HK0.out
               have e0 := cell_of_heap (v := .int .i64 0) hk (j := 0) rfl
               have e1 := cell_of_heap (v := .int .i64 0) hk (j := 1) rfl
               have f0 := frozen_of_heap hk 0
               have f1 := frozen_of_heap hk 1
               have hz := lt_of_heap hk
               clear hb1 hk)
  exact bodyPost_ret (v := .tuple #[.agg #[.int .i64 0, .int .i64 0], .int .i64 n]) (by simp [results, Try.results18, go_sem, e0, e1]) rfl ⟨rfl, (HB1.out.setCell (Nat.le_refl _) _).setCell (Nat.le_refl _) _⟩
end Go.Proofs.Ytodfpclekihbhaa
