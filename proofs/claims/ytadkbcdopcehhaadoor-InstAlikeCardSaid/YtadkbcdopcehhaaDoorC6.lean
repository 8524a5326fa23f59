/- The walk of the law InstAlike. -/
import Derived.Test.YtadkbcdopcehhaaDoorC4
namespace Go.Proofs.YtadkbcdopcehhaaDoor
open Go.RowKit Mp

theorem chk_alike (op o2 a1 a2 a3 b1 b2 b3 c1 c2 c3 : Int) (h : formI op = formI o2) : chkI op a1 a2 a3 b1 b2 b3 c1 c2 c3 = chkI o2 a1 a2 a3 b1 b2 b3 c1 c2 c3 := by
  unfold formI at h
  unfold chkI
  by_cases h1 : 0 ≤ op ∧ op < 111
  · rw [if_pos h1] at h
    by_cases h2 : 0 ≤ o2 ∧ o2 < 111
    · rw [if_pos h2] at h
      rw [if_neg (by omega), if_neg (by omega)]
      have e := congrArg (fun b : ByteArray => b.data.toList) h
      simp only [List.cons.injEq, and_true] at e
      rw [e.1, e.2.1, e.2.2]
    · rw [if_neg h2] at h
      have e := congrArg (fun b : ByteArray => b.data.toList) h
      simp at e
  · rw [if_neg h1] at h
    by_cases h2 : 0 ≤ o2 ∧ o2 < 111
    · rw [if_pos h2] at h
      have e := congrArg (fun b : ByteArray => b.data.toList) h
      simp at e
    · rw [if_pos (by omega), if_pos (by omega)]

theorem str_eq_self (a : ByteArray) : (a.toList == a.toList) = true := by simp

set_option maxHeartbeats 1000000 in
theorem law_alike_ne (op a1 a2 a3 b1 b2 b3 c1 c2 c3 o2 : Int) (w : World) (ht : SpTab w) (hne : formI op ≠ formI o2) :
    Calls Tryd.prog 7 #[.agg #[.int .i64 op, .int .i64 a1, .int .i64 a2, .int .i64 a3, .int .i64 b1, .int .i64 b2, .int .i64 b3, .int .i64 c1, .int .i64 c2, .int .i64 c3], .int .i64 o2] w fun e w' => e = .returned (.bool true) ∧ Below w.heap.size w w' := by
  have CX := (Cy.refl ht).alloc (.cells #[.int .i64 op, .int .i64 a1, .int .i64 a2, .int .i64 a3, .int .i64 b1, .int .i64 b2, .int .i64 b3, .int .i64 c1, .int .i64 c2, .int .i64 c3] 40)
  clear ht
  have HF1 := Lib.hid (fun w => form_calls op w)
  have HF2 := Lib.hid (fun w => form_calls o2 w)
  have hst := str_ne hne
  clear hne
  generalize formI op = f1 at *
  generalize formI o2 = f2 at *
  have t1 : True := trivial
  go_enter Tryd.func7, Tryd.ntmps7
  go_wp2_with (first
    | (go_at_call 12; refine (awake_calls _ CX.tab).mono ?_; rintro e w1 ⟨rfl, hb⟩; replace CX := CX.next hb; obtain ⟨hc, hf⟩ := bcell hb; clear hb)
    | (go_at_call 17; have _t := t1; refine (HF1.out _).mono ?_; rintro e w' ⟨rfl, rfl⟩; clear t1)
    | (go_at_call 17; refine (HF2.out _).mono ?_; rintro e w' ⟨rfl, rfl⟩))
  all_goals go_ret
  all_goals exact ⟨rfl, CX.below⟩

set_option maxRecDepth 100000 in
set_option maxHeartbeats 4000000 in
theorem law_alike_eq (op a1 a2 a3 b1 b2 b3 c1 c2 c3 o2 : Int) (w : World) (ht : SpTab w) (heq : formI op = formI o2) :
    Calls Tryd.prog 7 #[.agg #[.int .i64 op, .int .i64 a1, .int .i64 a2, .int .i64 a3, .int .i64 b1, .int .i64 b2, .int .i64 b3, .int .i64 c1, .int .i64 c2, .int .i64 c3], .int .i64 o2] w fun e w' => e = .returned (.bool true) ∧ Below w.heap.size w w' := by
  have CX := (Cy.refl ht).alloc (.cells #[.int .i64 op, .int .i64 a1, .int .i64 a2, .int .i64 a3, .int .i64 b1, .int .i64 b2, .int .i64 b3, .int .i64 c1, .int .i64 c2, .int .i64 c3] 40)
  clear ht
  have hch := chk_alike op o2 a1 a2 a3 b1 b2 b3 c1 c2 c3 heq
  have hC1 := fun w => check_calls op a1 a2 a3 b1 b2 b3 c1 c2 c3 w
  have hC2 := fun w => check_calls o2 a1 a2 a3 b1 b2 b3 c1 c2 c3 w
  rw [hch] at hC1
  clear hch
  have HC1 := Lib.hid hC1
  have HC2 := Lib.hid hC2
  clear hC1 hC2
  have hF1 := fun w => form_calls op w
  rw [heq] at hF1
  have HF1 := Lib.hid hF1
  have HF2 := Lib.hid (fun w => form_calls o2 w)
  clear heq hF1
  generalize formI o2 = f at *
  generalize chkI o2 a1 a2 a3 b1 b2 b3 c1 c2 c3 = r at *
  have t1 : True := trivial
  go_enter Tryd.func7, Tryd.ntmps7
  go_wp2_with (first
    | (go_at_call 12; refine (awake_calls _ CX.tab).mono ?_; rintro e w1 ⟨rfl, hb⟩; replace CX := CX.next hb; obtain ⟨hc, hf⟩ := bcell hb; have hz : w.heap.size < w1.heap.size := (by have := hb.size; simp at this; omega); clear hb)
    | (go_at_call 17; have _t := t1; refine (HF1.out _).mono ?_; rintro e w' ⟨rfl, rfl⟩; clear t1)
    | (go_at_call 17; refine (HF2.out _).mono ?_; rintro e w' ⟨rfl, rfl⟩))
  go_region_held3 (fun w' => w'.cell? ⟨w.heap.size, 0, none⟩ = some (.int .i64 op) ∧ w'.cell? ⟨w.heap.size, 1, none⟩ = some (.int .i64 a1) ∧ w'.cell? ⟨w.heap.size, 2, none⟩ = some (.int .i64 a2) ∧ w'.cell? ⟨w.heap.size, 3, none⟩ = some (.int .i64 a3) ∧ w'.cell? ⟨w.heap.size, 4, none⟩ = some (.int .i64 b1) ∧ w'.cell? ⟨w.heap.size, 5, none⟩ = some (.int .i64 b2) ∧ w'.cell? ⟨w.heap.size, 6, none⟩ = some (.int .i64 b3) ∧ w'.cell? ⟨w.heap.size, 7, none⟩ = some (.int .i64 c1) ∧ w'.cell? ⟨w.heap.size, 8, none⟩ = some (.int .i64 c2) ∧ w'.cell? ⟨w.heap.size, 9, none⟩ = some (.int .i64 c3) ∧ w'.cell? ⟨w1.heap.size, 0, none⟩ = some (.int .i64 o2) ∧ w'.cell? ⟨w1.heap.size, 1, none⟩ = some (.int .i64 a1) ∧ w'.cell? ⟨w1.heap.size, 2, none⟩ = some (.int .i64 a2) ∧ w'.cell? ⟨w1.heap.size, 3, none⟩ = some (.int .i64 a3) ∧ w'.cell? ⟨w1.heap.size, 4, none⟩ = some (.int .i64 b1) ∧ w'.cell? ⟨w1.heap.size, 5, none⟩ = some (.int .i64 b2) ∧ w'.cell? ⟨w1.heap.size, 6, none⟩ = some (.int .i64 b3) ∧ w'.cell? ⟨w1.heap.size, 7, none⟩ = some (.int .i64 c1) ∧ w'.cell? ⟨w1.heap.size, 8, none⟩ = some (.int .i64 c2) ∧ w'.cell? ⟨w1.heap.size, 9, none⟩ = some (.int .i64 c3) ∧ Cy w w')
    (((try go_split_ands); (repeat' apply And.intro) <;> first | exact keep3 hb (by assumption) | exact Cy.next (by assumption) hb | exact (CX.alloc _).drew | go_keep))
    (first
      | (go_at_call 21; (with_reducible refine (HC1.out _).mono ?_); rintro e w3 ⟨rfl, hb⟩)
      | (go_at_call 21; (with_reducible refine (HC2.out _).mono ?_); rintro e w3 ⟨rfl, hb⟩))
  all_goals go_wp2
  all_goals go_ret
  all_goals (go_split_ands; exact ⟨ret_bool (by simp), Cy.below (by assumption)⟩)

theorem law_alike (op a1 a2 a3 b1 b2 b3 c1 c2 c3 o2 : Int) (w : World) (ht : SpTab w) :
    Calls Tryd.prog 7 #[.agg #[.int .i64 op, .int .i64 a1, .int .i64 a2, .int .i64 a3, .int .i64 b1, .int .i64 b2, .int .i64 b3, .int .i64 c1, .int .i64 c2, .int .i64 c3], .int .i64 o2] w fun e w' => e = .returned (.bool true) ∧ Below w.heap.size w w' := by
  by_cases h : formI op = formI o2
  · exact law_alike_eq op a1 a2 a3 b1 b2 b3 c1 c2 c3 o2 w ht h
  · exact law_alike_ne op a1 a2 a3 b1 b2 b3 c1 c2 c3 o2 w ht h
end Go.Proofs.YtadkbcdopcehhaaDoor
