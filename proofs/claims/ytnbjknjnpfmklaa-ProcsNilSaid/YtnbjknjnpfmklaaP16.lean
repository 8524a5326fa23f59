/- The law ProcsNil. -/
import Derived.Test.YtnbjknjnpfmklaaP15
import Derived.Defers
namespace Go.Proofs.Ytnbjknjnpfmklaa
open Go.RowKit

theorem nil_is (st : Int) (w : World) : Calls Try.prog 34 #[.pointer none, .int .i64 st] w fun e w' => e = .returned (.bool false) ∧ Below w.heap.size w w' := by
  go_enter Try.func34, Try.ntmps34
  go_wp2
  go_quiet (fail)
  go_wp2
  go_ret
  exact ⟨rfl, (Below.refl _ _).dn _⟩
theorem nil_choose (n : Int) (w : World) : Calls Try.prog 11 #[.pointer none, .int .i64 n] w fun e w' => e = .returned (.int .i64 0) ∧ Below w.heap.size w w' := by
  go_enter Try.func11, Try.ntmps11
  go_wp2
  go_quiet (fail)
  go_wp2
  go_ret
  exact ⟨rfl, (Below.refl _ _).dn _⟩
theorem nil_used (w : World) : Calls Try.prog 12 #[.pointer none] w fun e w' => e = .returned (.int .i64 0) ∧ Below w.heap.size w w' := by
  go_enter Try.func12, Try.ntmps12
  go_wp2
  all_goals go_ret
  all_goals exact ⟨rfl, Below.refl _ _⟩
theorem nil_ticks (w : World) : Calls Try.prog 21 #[.pointer none] w fun e w' => e = .returned (.int .i64 0) ∧ Below w.heap.size w w' := by
  go_enter Try.func21, Try.ntmps21
  go_wp2
  all_goals go_ret
  all_goals exact ⟨rfl, Below.refl _ _⟩
theorem nil_current (w : World) : Calls Try.prog 17 #[.pointer none] w fun e w' => e = .returned (.int .i64 0) ∧ Below w.heap.size w w' := by
  go_enter Try.func17, Try.ntmps17
  go_wp2
  all_goals go_ret
  all_goals exact ⟨rfl, Below.refl _ _⟩
theorem nil_left (w : World) : Calls Try.prog 22 #[.pointer none] w fun e w' => e = .returned (.int .i64 0) ∧ Below w.heap.size w w' := by
  go_enter Try.func22, Try.ntmps22
  go_wp2
  all_goals go_ret
  all_goals exact ⟨rfl, Below.refl _ _⟩
theorem nil_ready (w : World) : Calls Try.prog 16 #[.pointer none] w fun e w' => e = .returned (.slice none 0 0) ∧ Below w.heap.size w w' := by
  go_enter Try.func16, Try.ntmps16
  go_wp2
  all_goals go_ret
  all_goals exact ⟨rfl, Below.refl _ _⟩
theorem nil_procs (w : World) : Calls Try.prog 23 #[.pointer none] w fun e w' => e = .returned (.slice none 0 0) ∧ Below w.heap.size w w' := by
  go_enter Try.func23, Try.ntmps23
  go_wp2
  all_goals go_ret
  all_goals exact ⟨rfl, Below.refl _ _⟩
theorem nil_make (n : Int) (w : World) : Calls Try.prog 27 #[.pointer none, .int .i64 n] w fun e w' => e = .returned (.tuple #[.int .i64 0, .int .i64 1]) ∧ Below w.heap.size w w' := by
  go_enter Try.func27, Try.ntmps27
  go_wp2
  all_goals go_ret2
  all_goals exact ⟨rfl, Below.refl _ _⟩
theorem nil_turn (w : World) : Calls Try.prog 15 #[.pointer none] w fun e w' => e = .returned (.tuple #[.int .i64 0, .bool false]) ∧ Below w.heap.size w w' := by
  go_enter Try.func15, Try.ntmps15
  go_wp2
  all_goals go_ret2
  all_goals exact ⟨rfl, Below.refl _ _⟩
theorem nil_kill (n : Int) (w : World) : Calls Try.prog 24 #[.pointer none, .int .i64 n, .bool true] w fun e w' => e = .returned (.tuple #[.slice none 0 0, .int .i64 1]) ∧ Below w.heap.size w w' := by
  go_enter Try.func24, Try.ntmps24
  go_wp2
  all_goals go_ret2
  all_goals exact ⟨rfl, Below.refl _ _⟩
theorem nil_wait (w : World) : Calls Try.prog 28 #[.pointer none, .int .i64 2] w fun e w' => e = .returned (.int .i64 1) ∧ Below w.heap.size w w' := by
  go_enter_defers Try.func28, Try.ntmps28
  go_wp2
  all_goals (try simp only [Exit.inBlock, Exit.then])
  all_goals exact ⟨_, results_tmp rfl _ _ _, rfl, Below.refl _ _⟩
theorem nil_wake (n : Int) (w : World) : Calls Try.prog 29 #[.pointer none, .int .i64 n] w fun e w' => e = .returned (.int .i64 1) ∧ Below w.heap.size w w' := by
  go_enter Try.func29, Try.ntmps29
  go_wp2
  all_goals go_ret
  all_goals exact ⟨rfl, Below.refl _ _⟩
theorem nil_turned (a b : Int) (w : World) : Calls Try.prog 36 #[.pointer none, .int .i64 a, .int .i64 b] w fun e w' => e = .returned (.int .i64 1) ∧ Below w.heap.size w w' := by
  go_enter Try.func36, Try.ntmps36
  go_wp2
  all_goals go_ret
  all_goals exact ⟨rfl, Below.refl _ _⟩
theorem nil_ends (a : Int) (s : ByteArray) (w : World) : Calls Try.prog 54 #[.pointer none, .int .i64 a, .string s] w fun e w' => e = .returned (.int .i64 1) ∧ Below w.heap.size w w' := by
  go_enter_defers Try.func54, Try.ntmps54
  go_wp2
  all_goals (try simp only [Exit.inBlock, Exit.then])
  all_goals exact ⟨_, results_tmp rfl _ _ _, rfl, Below.refl _ _⟩
theorem nil_call (w : World) : Calls Try.prog 19 #[.pointer none] w fun e w' => e = .returned (.int .i64 1) ∧ Below w.heap.size w w' := by
  go_enter Try.func19, Try.ntmps19
  go_wp2_with (go_at_call 36; refine (nil_turned _ _ _).mono ?_; rintro e w1 ⟨rfl, hb⟩; have HB := Lib.hid hb; clear hb)
  go_ret
  exact ⟨rfl, HB.out⟩
theorem nil_answer (w : World) : Calls Try.prog 20 #[.pointer none] w fun e w' => e = .returned (.int .i64 1) ∧ Below w.heap.size w w' := by
  go_enter Try.func20, Try.ntmps20
  go_wp2_with (go_at_call 36; refine (nil_turned _ _ _).mono ?_; rintro e w1 ⟨rfl, hb⟩; have HB := Lib.hid hb; clear hb)
  go_ret
  exact ⟨rfl, HB.out⟩
theorem nil_end (w : World) : Calls Try.prog 30 #[.pointer none] w fun e w' => e = .returned (.int .i64 1) ∧ Below w.heap.size w w' := by
  go_enter Try.func30, Try.ntmps30
  go_wp2_with (go_at_call 54; refine (nil_ends _ _ _).mono ?_; rintro e w1 ⟨rfl, hb⟩; have HB := Lib.hid hb; clear hb)
  go_ret
  exact ⟨rfl, HB.out⟩
theorem nil_break (s : ByteArray) (w : World) : Calls Try.prog 31 #[.pointer none, .string s] w fun e w' => e = .returned (.int .i64 1) ∧ Below w.heap.size w w' := by
  go_enter Try.func31, Try.ntmps31
  go_wp2_with (go_at_call 54; refine (nil_ends _ _ _).mono ?_; rintro e w1 ⟨rfl, hb⟩; have HB := Lib.hid hb; clear hb)
  go_ret
  exact ⟨rfl, HB.out⟩
theorem nil_tick (w : World) : Calls Try.prog 18 #[.pointer none] w fun e w' => e = .returned (.bool false) ∧ Below w.heap.size w w' := by
  go_enter Try.func18, Try.ntmps18
  go_wp2_with (go_at_call 34; refine (nil_is _ _).mono ?_; rintro e w1 ⟨rfl, hb⟩; have HB := Lib.hid hb; clear hb)
  go_ret
  exact ⟨rfl, HB.out⟩

set_option maxRecDepth 100000 in
set_option maxHeartbeats 8000000 in
theorem law_nil (n : Int) (s : ByteArray) (w : World) : Calls Try.prog 8 #[.int .i64 n, .string s] w fun e w' => e = .returned (.bool true) ∧ Below w.heap.size w w' := by
  have HB := Lib.hid (Below.refl w.heap.size w)
  by_cases hs : 20 < s.size
  · have h1 : (20 : Int) < (s.size : Int) := by omega
    go_enter Try.func8, Try.ntmps8
    go_wp2_with (go_at_call 9; refine (awake_calls _).mono ?_; rintro e wn ⟨rfl, hb⟩; replace HB := Lib.hid (HB.out.step2 hb); clear hb)
    go_ret
    exact ⟨rfl, HB.out⟩
  · have h1 : ¬ (20 : Int) < (s.size : Int) := by omega
    go_enter Try.func8, Try.ntmps8
    go_wp2_with (first
      | (go_at_call 27; refine (nil_make _ _).mono ?_; rintro e wn ⟨rfl, hb⟩; replace HB := Lib.hid (HB.out.step2 hb); clear hb)
      | (go_at_call 15; refine (nil_turn _).mono ?_; rintro e wn ⟨rfl, hb⟩; replace HB := Lib.hid (HB.out.step2 hb); clear hb)
      | (go_at_call 24; refine (nil_kill _ _).mono ?_; rintro e wn ⟨rfl, hb⟩; replace HB := Lib.hid (HB.out.step2 hb); clear hb)
      | (go_at_call 28; refine (nil_wait _).mono ?_; rintro e wn ⟨rfl, hb⟩; replace HB := Lib.hid (HB.out.step2 hb); clear hb)
      | (go_at_call 29; refine (nil_wake _ _).mono ?_; rintro e wn ⟨rfl, hb⟩; replace HB := Lib.hid (HB.out.step2 hb); clear hb)
      | (go_at_call 19; refine (nil_call _).mono ?_; rintro e wn ⟨rfl, hb⟩; replace HB := Lib.hid (HB.out.step2 hb); clear hb)
      | (go_at_call 20; refine (nil_answer _).mono ?_; rintro e wn ⟨rfl, hb⟩; replace HB := Lib.hid (HB.out.step2 hb); clear hb)
      | (go_at_call 30; refine (nil_end _).mono ?_; rintro e wn ⟨rfl, hb⟩; replace HB := Lib.hid (HB.out.step2 hb); clear hb)
      | (go_at_call 31; refine (nil_break _ _).mono ?_; rintro e wn ⟨rfl, hb⟩; replace HB := Lib.hid (HB.out.step2 hb); clear hb))
    have hgs : ∀ j : Nat, j < 8 → (wn.alloc (.cells #[.int .i64 1, .int .i64 1, .int .i64 1, .int .i64 1, .int .i64 1, .int .i64 1, .int .i64 1, .int .i64 1] 25)).cell? ⟨wn.heap.size, j, none⟩ = some (.int .i64 1) := fun j hj => by
      rcases (by omega : j = 0 ∨ j = 1 ∨ j = 2 ∨ j = 3 ∨ j = 4 ∨ j = 5 ∨ j = 6 ∨ j = 7) with rfl | rfl | rfl | rfl | rfl | rfl | rfl | rfl <;> exact cell_of_heap (heap_alloc_new wn _) rfl
    have HGS := Lib.hid hgs
    have HB2 := Lib.hid (HB.out.step2 ((Below.refl wn.heap.size wn).alloc (Nat.le_refl _) (.cells #[.int .i64 1, .int .i64 1, .int .i64 1, .int .i64 1, .int .i64 1, .int .i64 1, .int .i64 1, .int .i64 1] 25)))
    clear hgs HB
    go_loopw [13] (fun i wr => ∃ j : Nat, j ≤ 8 ∧ i = .int .i64 j ∧ Hid (Below w.heap.size w wr) ∧ Hid (∀ j : Nat, j < 8 → wr.cell? ⟨wn.heap.size, j, none⟩ = some (.int .i64 1))) (fun i _ => 8 - (intOf i).toNat)
    case atStart => exact ⟨0, by omega, rfl, HB2, HGS⟩
    case round =>
      obtain ⟨j, hj, rfl, HB, hg⟩ := hrel
      by_cases hlt : j < 8
      · have c0 := hg.out j hlt
        have g0 : (0 : Int) ≤ (j : Int) := by omega
        have g1 : (j : Int) < 8 := by omega
        go_wp2
        go_roundw
        case rel => exact ⟨j + 1, by omega, by go_num, HB, hg⟩
        case measure => simp [intOf]; omega
      · obtain rfl : j = 8 := by omega
        go_wp2_with (first
          | (go_at_call 9; refine (awake_calls _).mono ?_; rintro e wn ⟨rfl, hb⟩; replace HB := Lib.hid (HB.out.step2 hb); clear hb)
          | (go_at_call 17; refine (nil_current _).mono ?_; rintro e wn ⟨rfl, hb⟩; replace HB := Lib.hid (HB.out.step2 hb); clear hb)
          | (go_at_call 22; refine (nil_left _).mono ?_; rintro e wn ⟨rfl, hb⟩; replace HB := Lib.hid (HB.out.step2 hb); clear hb)
          | (go_at_call 18; refine (nil_tick _).mono ?_; rintro e wn ⟨rfl, hb⟩; replace HB := Lib.hid (HB.out.step2 hb); clear hb)
          | (go_at_call 11; refine (nil_choose _ _).mono ?_; rintro e wn ⟨rfl, hb⟩; replace HB := Lib.hid (HB.out.step2 hb); clear hb)
          | (go_at_call 16; refine (nil_ready _).mono ?_; rintro e wn ⟨rfl, hb⟩; replace HB := Lib.hid (HB.out.step2 hb); clear hb)
          | (go_at_call 23; refine (nil_procs _).mono ?_; rintro e wn ⟨rfl, hb⟩; replace HB := Lib.hid (HB.out.step2 hb); clear hb)
          | (go_at_call 21; refine (nil_ticks _).mono ?_; rintro e wn ⟨rfl, hb⟩; replace HB := Lib.hid (HB.out.step2 hb); clear hb)
          | (go_at_call 12; refine (nil_used _).mono ?_; rintro e wn ⟨rfl, hb⟩; replace HB := Lib.hid (HB.out.step2 hb); clear hb))
        go_ret
        exact ⟨rfl, HB.out⟩
end Go.Proofs.Ytnbjknjnpfmklaa
