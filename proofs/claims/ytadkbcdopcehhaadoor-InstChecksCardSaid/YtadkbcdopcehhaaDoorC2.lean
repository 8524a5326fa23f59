/- The walk of the law InstChecks. -/
import Derived.Test.YtadkbcdopcehhaaDoorC1
import Derived.Test.YtadkbcdopcehhaaDoorA7
import Derived.Deep.RegionHeld3
namespace Go.Proofs.YtadkbcdopcehhaaDoor
open Go.RowKit

set_option maxHeartbeats 4000000 in
theorem law_checks (op a1 a2 a3 b1 b2 b3 c1 c2 c3 : Int) (w : World) (ht : SpTab w) :
    Calls Tryd.prog 5 #[.agg #[.int .i64 op, .int .i64 a1, .int .i64 a2, .int .i64 a3, .int .i64 b1, .int .i64 b2, .int .i64 b3, .int .i64 c1, .int .i64 c2, .int .i64 c3]] w fun e w' => e = .returned (.bool true) ∧ Below w.heap.size w w' := by
  have HT := Lib.hid (show SpTab (w.alloc (.cells #[.int .i64 op, .int .i64 a1, .int .i64 a2, .int .i64 a3, .int .i64 b1, .int .i64 b2, .int .i64 b3, .int .i64 c1, .int .i64 c2, .int .i64 c3] 40)).drew from spTab_of_blocks ht ((Below.refl _ w).alloc (Nat.le_refl _) _).drew)
  clear ht
  go_enter Tryd.func5, Tryd.ntmps5
  go_wp2
  go_region_held3 (fun w' => w'.cell? ⟨w.heap.size, 0, none⟩ = some (.int .i64 op) ∧ w'.cell? ⟨w.heap.size, 1, none⟩ = some (.int .i64 a1) ∧ w'.cell? ⟨w.heap.size, 2, none⟩ = some (.int .i64 a2) ∧ w'.cell? ⟨w.heap.size, 3, none⟩ = some (.int .i64 a3) ∧ w'.cell? ⟨w.heap.size, 4, none⟩ = some (.int .i64 b1) ∧ w'.cell? ⟨w.heap.size, 5, none⟩ = some (.int .i64 b2) ∧ w'.cell? ⟨w.heap.size, 6, none⟩ = some (.int .i64 b3) ∧ w'.cell? ⟨w.heap.size, 7, none⟩ = some (.int .i64 c1) ∧ w'.cell? ⟨w.heap.size, 8, none⟩ = some (.int .i64 c2) ∧ w'.cell? ⟨w.heap.size, 9, none⟩ = some (.int .i64 c3) ∧ Hid (SpTab w') ∧ Below w.heap.size w w')
    (((try go_split_ands); (repeat' apply And.intro) <;> first | exact keep3 hb (by assumption) | exact Below.step (by assumption) hb | exact Lib.hid (spTab_of_blocks (Hid.out (by assumption)) hb) | exact ((Below.refl _ _).alloc (Nat.le_refl _) _).drew | exact HT | go_keep))
    (first
      | (go_at_call 12; refine (awake_calls _ (Hid.out (by go_split_ands; assumption))).mono ?_; rintro e w1 ⟨rfl, hb⟩)
      | (go_at_call 21; refine (check_calls _ _ _ _ _ _ _ _ _ _ _).mono ?_; rintro e w1 ⟨rfl, hb⟩)
      | (go_at_call 22; refine (rcheck_calls _ _ _ _ _ _ _ _ _ _ _).mono ?_; rintro e w1 ⟨rfl, hb⟩))
  all_goals go_wp2
  all_goals go_goals
  all_goals go_ret
  all_goals (go_split_ands; exact ⟨rfl, by assumption⟩)
end Go.Proofs.YtadkbcdopcehhaaDoor
