/- HeapNil: a heap that is nil has no objects. -/
import Derived.Test.YtodfpclekihbhaaW24
namespace Go.Proofs.Ytodfpclekihbhaa
open Go.RowKit Go.Shelf

theorem watch_nil (on : Bool) (w : World) : Calls Try.prog 36 #[.pointer none, .bool on] w fun e w' => e = .returned (.tuple #[]) ∧ Below w.heap.size w w' := by
  go_enter Try.func36, Try.ntmps36
  go_wp2
  all_goals go_end0
  all_goals exact ⟨rfl, Below.refl _ _⟩
theorem seen_nil (w : World) : Calls Try.prog 42 #[.pointer none] w fun e w' => e = .returned (.slice none 0 0) ∧ w = w' := by
  go_enter Try.func42, Try.ntmps42
  go_wp2
  all_goals go_ret
  all_goals exact ⟨rfl, rfl⟩
theorem fours (W : World) (b : Nat) (h : W.heap[b]? = some (.cells #[.int .i64 4, .int .i64 4, .int .i64 4, .int .i64 4, .int .i64 4, .int .i64 4, .int .i64 4, .int .i64 4, .int .i64 4, .int .i64 4, .int .i64 4, .int .i64 4, .int .i64 4, .int .i64 4] 27 (0, 0))) (j : Nat) (hj : j < 14) : W.cell? ⟨b, j, none⟩ = some (.int .i64 4) := by
  refine cell_of_heap h ?_
  match j, hj with
  | 0, _ => rfl
  | 1, _ => rfl
  | 2, _ => rfl
  | 3, _ => rfl
  | 4, _ => rfl
  | 5, _ => rfl
  | 6, _ => rfl
  | 7, _ => rfl
  | 8, _ => rfl
  | 9, _ => rfl
  | 10, _ => rfl
  | 11, _ => rfl
  | 12, _ => rfl
  | 13, _ => rfl
  | (j + 14), h => exact absurd h (by omega)
set_option maxRecDepth 100000 in
set_option maxHeartbeats 4000000 in
theorem law_heapnil (r i j : Int) (w : World) : Calls Try.prog 5 #[.int .i64 r, .int .i64 i, .int .i64 j] w fun e w' => e = .returned (.bool true) ∧ Below w.heap.size w w' := by
  go_enter Try.func5, Try.ntmps5
  go_wp2_with (first
    | (go_at_call 11; refine (awake17 w).mono ?_; rintro e w0 ⟨rfl, hb⟩
       have HB0 := Lib.hid hb
       have B0 : Hid (Bx ((w0.alloc (.cells #[.bool true] 4)).alloc (.cells #[.int .i64 0, .slice (some ⟨w0.heap.size, 0, none⟩) 1 1] 32)) w0.heap.size (w0.heap.size + 1)) := Lib.hid ⟨(heap2 w0 _ _).1, (heap2 w0 _ _).2⟩
       have HB0' : Hid (Below w.heap.size w ((w0.alloc (.cells #[.bool true] 4)).alloc (.cells #[.int .i64 0, .slice (some ⟨w0.heap.size, 0, none⟩) 1 1] 32))) := Lib.hid (hb.trans ((((Below.refl _ _).alloc (Nat.le_refl _) _).alloc (by simp) _).mono hb.size))
       clear hb)
    | (go_at_call 28; refine (text_nil _ _ _).mono ?_; rintro e w1 ⟨rfl, hb⟩
       have HB1 := Lib.hid (HB0'.out.trans (hb.mono HB0'.out.size))
       have b1 := B0.out.below hb
       have B1 := Lib.hid b1
       have e10 := cell_of_heap (v := .int .i64 0) b1.k2 (j := 0) rfl
       have e11 := cell_of_heap (v := .slice (some ⟨w0.heap.size, 0, none⟩) 1 1) b1.k2 (j := 1) rfl
       have l1 := lt_of_heap b1.k2
       clear hb b1)
    | (go_at_call 13; refine (array_nil _ _ _ _ _ _).mono ?_; rintro e w2 ⟨rfl, hb⟩
       have HB2 := Lib.hid (HB1.out.trans (hb.mono HB1.out.size))
       have b1 := B1.out.below hb
       have B2 := Lib.hid b1
       have e20 := cell_of_heap (v := .int .i64 0) b1.k2 (j := 0) rfl
       have e21 := cell_of_heap (v := .slice (some ⟨w0.heap.size, 0, none⟩) 1 1) b1.k2 (j := 1) rfl
       have l2 := lt_of_heap b1.k2
       clear hb b1)
    | (go_at_call 14; refine (part_nil _ _ _ _).mono ?_; rintro e w3 ⟨rfl, hb⟩
       have HB3 := Lib.hid (HB2.out.trans (hb.mono HB2.out.size))
       have b1 := B2.out.below hb
       have B3 := Lib.hid b1
       have e30 := cell_of_heap (v := .int .i64 0) b1.k2 (j := 0) rfl
       have e31 := cell_of_heap (v := .slice (some ⟨w0.heap.size, 0, none⟩) 1 1) b1.k2 (j := 1) rfl
       have l3 := lt_of_heap b1.k2
       clear hb b1)
    | (go_at_call 29; refine (make_nil _ _ _ _ _ _).mono ?_; rintro e w4 ⟨rfl, hb⟩
       have HB4 := Lib.hid (HB3.out.trans (hb.mono HB3.out.size))
       have b1 := B3.out.below hb
       have B4 := Lib.hid b1
       have e40 := cell_of_heap (v := .int .i64 0) b1.k2 (j := 0) rfl
       have e41 := cell_of_heap (v := .slice (some ⟨w0.heap.size, 0, none⟩) 1 1) b1.k2 (j := 1) rfl
       have l4 := lt_of_heap b1.k2
       clear hb b1)
    | (go_at_call 30; refine (cons_nil _ _ _ _ _ _ _ _ _).mono ?_; rintro e w5 ⟨rfl, hb⟩
       have HB5 := Lib.hid (HB4.out.trans (hb.mono HB4.out.size))
       have b1 := B4.out.below hb
       have B5 := Lib.hid b1
       have e50 := cell_of_heap (v := .int .i64 0) b1.k2 (j := 0) rfl
       have e51 := cell_of_heap (v := .slice (some ⟨w0.heap.size, 0, none⟩) 1 1) b1.k2 (j := 1) rfl
       have l5 := lt_of_heap b1.k2
       clear hb b1)
    | (go_at_call 17; refine (len_nil _ _).mono ?_; rintro e w6 ⟨rfl, hb⟩
       have HB6 := Lib.hid (HB5.out.trans (hb.mono HB5.out.size))
       have b1 := B5.out.below hb
       have B6 := Lib.hid b1
       have e60 := cell_of_heap (v := .int .i64 0) b1.k2 (j := 0) rfl
       have e61 := cell_of_heap (v := .slice (some ⟨w0.heap.size, 0, none⟩) 1 1) b1.k2 (j := 1) rfl
       have l6 := lt_of_heap b1.k2
       clear hb b1)
    | (go_at_call 31; refine (get_err none _ _ 4 (by decide) fun W _ => word_nil _ _ _ W).mono ?_; rintro e w7 ⟨rfl, hb⟩
       have HB7 := Lib.hid (HB6.out.trans (hb.mono HB6.out.size))
       have b1 := B6.out.below hb
       have B7 := Lib.hid b1
       have e70 := cell_of_heap (v := .int .i64 0) b1.k2 (j := 0) rfl
       have e71 := cell_of_heap (v := .slice (some ⟨w0.heap.size, 0, none⟩) 1 1) b1.k2 (j := 1) rfl
       have l7 := lt_of_heap b1.k2
       clear hb b1)
    | (go_at_call 18; refine (at_err none _ _ _ 4 (by decide) fun W _ => el_nil _ _ _ W).mono ?_; rintro e w8 ⟨rfl, hb⟩
       have HB8 := Lib.hid ((HB7.out.alloc HB7.out.size (.cells #[.int .i64 0, .int .i64 0] 42)).trans (hb.mono (HB7.out.alloc HB7.out.size (.cells #[.int .i64 0, .int .i64 0] 42)).size))
       have b1 := (B7.out.below ((Below.refl _ _).alloc (Nat.le_refl _) (.cells #[.int .i64 0, .int .i64 0] 42))).below hb
       have B8 := Lib.hid b1
       have e80 := cell_of_heap (v := .int .i64 0) b1.k2 (j := 0) rfl
       have e81 := cell_of_heap (v := .slice (some ⟨w0.heap.size, 0, none⟩) 1 1) b1.k2 (j := 1) rfl
       have l8 := lt_of_heap b1.k2
       clear hb b1)
    | (go_at_call 32; refine (set_nil _ _ _ _ _).mono ?_; rintro e w9 ⟨rfl, hb⟩
       have HB9 := Lib.hid ((HB8.out.alloc HB8.out.size (.cells #[.int .i64 0, .int .i64 0] 42)).trans (hb.mono (HB8.out.alloc HB8.out.size (.cells #[.int .i64 0, .int .i64 0] 42)).size))
       have b1 := (B8.out.below ((Below.refl _ _).alloc (Nat.le_refl _) (.cells #[.int .i64 0, .int .i64 0] 42))).below hb
       have B9 := Lib.hid b1
       have e90 := cell_of_heap (v := .int .i64 0) b1.k2 (j := 0) rfl
       have e91 := cell_of_heap (v := .slice (some ⟨w0.heap.size, 0, none⟩) 1 1) b1.k2 (j := 1) rfl
       have l9 := lt_of_heap b1.k2
       clear hb b1)
    | (go_at_call 16; refine (put_nil _ _ _ _ _ _).mono ?_; rintro e w10 ⟨rfl, hb⟩
       have HB10 := Lib.hid (HB9.out.trans (hb.mono HB9.out.size))
       have b1 := B9.out.below hb
       have B10 := Lib.hid b1
       have e100 := cell_of_heap (v := .int .i64 0) b1.k2 (j := 0) rfl
       have e101 := cell_of_heap (v := .slice (some ⟨w0.heap.size, 0, none⟩) 1 1) b1.k2 (j := 1) rfl
       have l10 := lt_of_heap b1.k2
       clear hb b1)
    | (go_at_call 15; refine (copy_nil _ _ _ _).mono ?_; rintro e w11 ⟨rfl, hb⟩
       have HB11 := Lib.hid (HB10.out.trans (hb.mono HB10.out.size))
       have b1 := B10.out.below hb
       have B11 := Lib.hid b1
       have e110 := cell_of_heap (v := .int .i64 0) b1.k2 (j := 0) rfl
       have e111 := cell_of_heap (v := .slice (some ⟨w0.heap.size, 0, none⟩) 1 1) b1.k2 (j := 1) rfl
       have l11 := lt_of_heap b1.k2
       clear hb b1)
    | (go_at_call 33; refine (clear_nil _ _).mono ?_; rintro e w12 ⟨rfl, hb⟩
       have HB12 := Lib.hid (HB11.out.trans (hb.mono HB11.out.size))
       have b1 := B11.out.below hb
       have B12 := Lib.hid b1
       have e120 := cell_of_heap (v := .int .i64 0) b1.k2 (j := 0) rfl
       have e121 := cell_of_heap (v := .slice (some ⟨w0.heap.size, 0, none⟩) 1 1) b1.k2 (j := 1) rfl
       have l12 := lt_of_heap b1.k2
       clear hb b1)
    | (go_at_call 34; refine (hold_nil _ _).mono ?_; rintro e w13 ⟨rfl, hb⟩
       have HB13 := Lib.hid (HB12.out.trans (hb.mono HB12.out.size))
       have b1 := B12.out.below hb
       have B13 := Lib.hid b1
       have e130 := cell_of_heap (v := .int .i64 0) b1.k2 (j := 0) rfl
       have e131 := cell_of_heap (v := .slice (some ⟨w0.heap.size, 0, none⟩) 1 1) b1.k2 (j := 1) rfl
       have l13 := lt_of_heap b1.k2
       clear hb b1)
    | (go_at_call 35; refine (drop_nil _ _).mono ?_; rintro e w14 ⟨rfl, hb⟩
       have HB14 := Lib.hid (HB13.out.trans (hb.mono HB13.out.size))
       have b1 := B13.out.below hb
       have B14 := Lib.hid b1
       have e140 := cell_of_heap (v := .int .i64 0) b1.k2 (j := 0) rfl
       have e141 := cell_of_heap (v := .slice (some ⟨w0.heap.size, 0, none⟩) 1 1) b1.k2 (j := 1) rfl
       have l14 := lt_of_heap b1.k2
       clear hb b1))
  have HB := Lib.hid (HB14.out.alloc HB14.out.size (.cells #[.int .i64 4, .int .i64 4, .int .i64 4, .int .i64 4, .int .i64 4, .int .i64 4, .int .i64 4, .int .i64 4, .int .i64 4, .int .i64 4, .int .i64 4, .int .i64 4, .int .i64 4, .int .i64 4] 27))
  have HF := Lib.hid (fours _ _ (heap_alloc_new w14 (.cells #[.int .i64 4, .int .i64 4, .int .i64 4, .int .i64 4, .int .i64 4, .int .i64 4, .int .i64 4, .int .i64 4, .int .i64 4, .int .i64 4, .int .i64 4, .int .i64 4, .int .i64 4, .int .i64 4] 27)))
  generalize (w14.alloc (.cells #[.int .i64 4, .int .i64 4, .int .i64 4, .int .i64 4, .int .i64 4, .int .i64 4, .int .i64 4, .int .i64 4, .int .i64 4, .int .i64 4, .int .i64 4, .int .i64 4, .int .i64 4, .int .i64 4] 27)) = W at *
  go_loopw [124] (fun p wr => W = wr ∧ ∃ k : Nat, k ≤ 14 ∧ p = .int .i64 k) (fun i _ => 14 - (intOf i).toNat)
  case atStart => exact ⟨rfl, 0, by omega, rfl⟩
  case round =>
    obtain ⟨rfl, k, hk, rfl⟩ := hrel
    by_cases hlt : k < 14
    · have c1 := HF.out k hlt
      have q0 : (0 : Int) ≤ (k : Int) := by omega
      have q1 : (k : Int) < 14 := by omega
      go_wp2
      go_roundw
      case rel => exact ⟨by first | trivial | rfl, k + 1, by omega, by go_num⟩
      case measure => simp [intOf]; omega
    · obtain rfl : k = 14 := by omega
      go_wp2_with (first
        | (go_at_call 36; refine (watch_nil _ _).mono ?_; rintro e wa ⟨rfl, hb⟩; have HBa := Lib.hid (HB.out.trans (hb.mono HB.out.size)); clear hb)
        | (go_at_call 37; refine (kind_nil _ _).mono ?_; rintro e wb ⟨rfl, rfl⟩)
        | (go_at_call 38; refine (holds_nil _ _).mono ?_; rintro e wb ⟨rfl, rfl⟩)
        | (go_at_call 39; refine (Count_nil _ _).mono ?_; rintro e wb ⟨rfl, rfl⟩)
        | (go_at_call 40; refine (all_nil _).mono ?_; rintro e wb ⟨rfl, rfl⟩)
        | (go_at_call 41; refine (refs_nil _ _).mono ?_; rintro e wb ⟨rfl, rfl⟩)
        | (go_at_call 42; refine (seen_nil _).mono ?_; rintro e wb ⟨rfl, rfl⟩))
      go_ret
      exact ⟨rfl, HBa.out⟩
end Go.Proofs.Ytodfpclekihbhaa
