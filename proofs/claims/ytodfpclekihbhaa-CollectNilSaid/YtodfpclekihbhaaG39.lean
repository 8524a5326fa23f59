/- A collector that is nil, or that of a nil heap. -/
import Derived.Test.YtodfpclekihbhaaG38
namespace Go.Proofs.Ytodfpclekihbhaa
open Go.RowKit Go.Shelf

variable {w w' : World} {cb : Nat} {p : Value}
/-- A new collector of a nil heap. -/
structure NC (w : World) (cb : Nat) : Prop where
  blk : w.heap[cb]? = some (.cells #[.pointer none, .int .i64 0, .map none, .map none, .slice none 0 0, .int .i64 0] 116 (0, 0))
theorem NC.nn (h : NC w cb) : Calls Try.prog 68 #[.pointer (some ⟨cb, 0, none⟩)] w fun e w' => e = .returned (.bool true) ∧ w = w' := by
  have d0 := cell_of_heap (v := .pointer none) h.blk (j := 0) rfl
  clear h
  go_enter Try.func68, Try.ntmps68
  go_wp2
  all_goals go_ret
  all_goals exact ⟨rfl, rfl⟩
theorem step_nil (h : Calls Try.prog 68 #[p] w fun e w' => e = .returned (.bool true) ∧ w = w') (n : Int) : Calls Try.prog 21 #[p, .int .i64 n] w fun e w' => e = .returned (.tuple #[.bool false, .int .i64 4]) ∧ w = w' := by
  have HN := Lib.hid h
  clear h
  go_enter Try.func21, Try.ntmps21
  go_wp2_with (go_at_call 68; refine HN.out.mono ?_; rintro e w1 ⟨rfl, rfl⟩)
  all_goals go_ret2
  all_goals exact ⟨rfl, rfl⟩
theorem begin_nil (h : Calls Try.prog 68 #[p] w fun e w' => e = .returned (.bool true) ∧ w = w') : Calls Try.prog 22 #[p] w fun e w' => e = .returned (.int .i64 4) ∧ w = w' := by
  have HN := Lib.hid h
  clear h
  go_enter Try.func22, Try.ntmps22
  go_wp2_with (go_at_call 68; refine HN.out.mono ?_; rintro e w1 ⟨rfl, rfl⟩)
  all_goals go_ret
  all_goals exact ⟨rfl, rfl⟩
theorem color_nil (h : Calls Try.prog 68 #[p] w fun e w' => e = .returned (.bool true) ∧ w = w') (r : Int) : Calls Try.prog 24 #[p, .int .i64 r] w fun e w' => e = .returned (.int .i64 0) ∧ w = w' := by
  have HN := Lib.hid h
  clear h
  go_enter Try.func24, Try.ntmps24
  go_wp2_with (go_at_call 68; refine HN.out.mono ?_; rintro e w1 ⟨rfl, rfl⟩)
  all_goals go_ret
  all_goals exact ⟨rfl, rfl⟩
theorem phase_n (w : World) : Calls Try.prog 23 #[.pointer none] w fun e w' => e = .returned (.int .i64 0) ∧ w = w' := by
  go_enter Try.func23, Try.ntmps23
  go_wp2
  all_goals go_ret
  all_goals exact ⟨rfl, rfl⟩
theorem phase_c (h : NC w cb) : Calls Try.prog 23 #[.pointer (some ⟨cb, 0, none⟩)] w fun e w' => e = .returned (.int .i64 0) ∧ w = w' := by
  have d0 := cell_of_heap (v := .int .i64 0) h.blk (j := 1) rfl
  clear h
  go_enter Try.func23, Try.ntmps23
  go_wp2
  all_goals go_ret
  all_goals exact ⟨rfl, rfl⟩
theorem rounds_n (w : World) : Calls Try.prog 26 #[.pointer none] w fun e w' => e = .returned (.int .i64 0) ∧ w = w' := by
  go_enter Try.func26, Try.ntmps26
  go_wp2
  all_goals go_ret
  all_goals exact ⟨rfl, rfl⟩
theorem rounds_c (h : NC w cb) : Calls Try.prog 26 #[.pointer (some ⟨cb, 0, none⟩)] w fun e w' => e = .returned (.int .i64 0) ∧ w = w' := by
  have d0 := cell_of_heap (v := .int .i64 0) h.blk (j := 5) rfl
  clear h
  go_enter Try.func26, Try.ntmps26
  go_wp2
  all_goals go_ret
  all_goals exact ⟨rfl, rfl⟩
set_option maxRecDepth 100000 in
theorem clone_nil (w : World) : Calls Try.prog 51 #[.slice none 0 0] w fun e w' => e = .returned (.slice none 0 0) ∧ w = w' := by
  have hneq : ∀ w : World, (binOp .eql 35 (.slice none 0 0) (.slice none 0 0)).run Try.prog w = .ok (.bool true) w := fun w => Lib.run_eql_slice_nil w 35 26 none 0 0 0 0 Try.underlying35
  go_enter Try.func51, Try.ntmps51
  go_wp2
  all_goals go_ret
  all_goals exact ⟨rfl, rfl⟩
theorem list_n (w : World) : Calls Try.prog 25 #[.pointer none] w fun e w' => e = .returned (.slice none 0 0) ∧ w = w' := by
  go_enter Try.func25, Try.ntmps25
  go_wp2
  all_goals go_ret
  all_goals exact ⟨rfl, rfl⟩
theorem list_c (h : NC w cb) : Calls Try.prog 25 #[.pointer (some ⟨cb, 0, none⟩)] w fun e w' => e = .returned (.slice none 0 0) ∧ w = w' := by
  have d0 := cell_of_heap (v := .slice none 0 0) h.blk (j := 4) rfl
  have HC := Lib.hid (clone_nil w)
  clear h
  go_enter Try.func25, Try.ntmps25
  go_wp2_with (go_at_call 51; refine HC.out.mono ?_; rintro e w1 ⟨rfl, rfl⟩)
  all_goals go_ret
  all_goals exact ⟨rfl, rfl⟩
theorem newC_nil (w : World) : Calls Try.prog 20 #[.pointer none] w fun e w' => e = .returned (.pointer (some ⟨w.heap.size, 0, none⟩)) ∧ w' = w.alloc (.cells #[.pointer none, .int .i64 0, .map none, .map none, .slice none 0 0, .int .i64 0] 116) := by
  go_enter Try.func20, Try.ntmps20
  go_wp2
  all_goals go_ret
  all_goals exact ⟨rfl, rfl⟩
theorem reached_nil (w : World) : Calls Try.prog 27 #[.pointer none] w fun e w' => e = .returned (.slice none 0 0) ∧ w = w' := by
  go_enter Try.func27, Try.ntmps27
  go_wp2
  all_goals go_ret
  all_goals exact ⟨rfl, rfl⟩
set_option maxRecDepth 100000 in
set_option maxHeartbeats 4000000 in
theorem law_collectnil (n r : Int) (w : World) : Calls Try.prog 4 #[.int .i64 n, .int .i64 r] w fun e w' => e = .returned (.bool true) ∧ Below w.heap.size w w' := by
  go_enter Try.func4, Try.ntmps4
  go_wp2_with (first
    | (go_at_call 19; refine (awake18 w).mono ?_; rintro e w0 ⟨rfl, hb⟩; have HB := Lib.hid hb; clear hb)
    | (go_at_call 20; refine (newC_nil w0).mono ?_; rintro e w1 ⟨rfl, rfl⟩))
  have hnc : NC ((w0.alloc (.cells #[.pointer none, .int .i64 0, .map none, .map none, .slice none 0 0, .int .i64 0] 116)).alloc (.cells #[.pointer none, .pointer (some ⟨w0.heap.size, 0, none⟩)] 48)) w0.heap.size := ⟨(heap2 w0 _ _).1⟩
  have HNC := Lib.hid hnc
  clear hnc
  refine wp_loop_rounds 3 ?_
  rw [rounds_succ]
  go_wp2_with (first
    | (go_at_call 21; refine (step_nil (none_nil _) n).mono ?_; rintro e w2 ⟨rfl, rfl⟩)
    | (go_at_call 22; refine (begin_nil (none_nil _)).mono ?_; rintro e w2 ⟨rfl, rfl⟩)
    | (go_at_call 23; refine (phase_n _).mono ?_; rintro e w2 ⟨rfl, rfl⟩)
    | (go_at_call 24; refine (color_nil (none_nil _) r).mono ?_; rintro e w2 ⟨rfl, rfl⟩)
    | (go_at_call 25; refine (list_n _).mono ?_; rintro e w2 ⟨rfl, rfl⟩)
    | (go_at_call 26; refine (rounds_n _).mono ?_; rintro e w2 ⟨rfl, rfl⟩))
  rw [rounds_succ]
  have g1 : (((w0.alloc (.cells #[.pointer none, .int .i64 0, .map none, .map none, .slice none 0 0, .int .i64 0] 116)).alloc (.cells #[.pointer none, .pointer (some ⟨w0.heap.size, 0, none⟩)] 48))).cell? ⟨w0.heap.size + 1, 1, none⟩ = some (.pointer (some ⟨w0.heap.size, 0, none⟩)) := cell_of_heap (heap2 w0 _ _).2 rfl
  go_wp2_with (first
    | (go_at_call 21; refine (step_nil HNC.out.nn n).mono ?_; rintro e w2 ⟨rfl, rfl⟩)
    | (go_at_call 22; refine (begin_nil HNC.out.nn).mono ?_; rintro e w2 ⟨rfl, rfl⟩)
    | (go_at_call 23; refine (phase_c HNC.out).mono ?_; rintro e w2 ⟨rfl, rfl⟩)
    | (go_at_call 24; refine (color_nil HNC.out.nn r).mono ?_; rintro e w2 ⟨rfl, rfl⟩)
    | (go_at_call 25; refine (list_c HNC.out).mono ?_; rintro e w2 ⟨rfl, rfl⟩)
    | (go_at_call 26; refine (rounds_c HNC.out).mono ?_; rintro e w2 ⟨rfl, rfl⟩))
  rw [rounds_succ]
  go_wp2_with (go_at_call 27; refine (reached_nil _).mono ?_; rintro e w2 ⟨rfl, rfl⟩)
  all_goals go_ret
  all_goals exact ⟨rfl, (HB.out.alloc HB.out.size _).alloc (by have := HB.out.size; simp; omega) _⟩
end Go.Proofs.Ytodfpclekihbhaa

