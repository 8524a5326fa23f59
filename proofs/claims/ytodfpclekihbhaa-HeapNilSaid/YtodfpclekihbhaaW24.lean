/- The examples of the chapter hold. -/
import Derived.Test.YtodfpclekihbhaaW23
namespace Go.Proofs.Ytodfpclekihbhaa
open Go.RowKit Go.Shelf

def kk (a b : Nat) : Nat → Prop := fun k => (False ∨ k = a) ∨ k = b
/-- The law's boxes in the examples: a list of one boolean, and a shape. -/
structure Bx (w : World) (a b : Nat) : Prop where
  k1 : w.heap[a]? = some (.cells #[.bool true] 4 (0, 0))
  k2 : w.heap[b]? = some (.cells #[.int .i64 0, .slice (some ⟨a, 0, none⟩) 1 1] 32 (0, 0))
theorem Bx.rd {w : World} {a b : Nat} (h : Bx w a b) : RdB w (some ⟨a, 0, none⟩) 1 [true] := ⟨fun p hp j u hj => by
    injection hp with hp
    subst hp
    cases j with
    | zero => simp at hj; subst hj; exact cell_of_heap h.k1 rfl
    | succ j => simp at hj, fun e => by cases e⟩
theorem Bx.below {w w' : World} {a b : Nat} (h : Bx w a b) (hb : Below w.heap.size w w') : Bx w' a b := ⟨(hb.block _ (lt_of_heap h.k1)).trans h.k1, (hb.block _ (lt_of_heap h.k2)).trans h.k2⟩
theorem Bx.at {w0 w w' : World} {hb a b : Nat} {H' : Hp} (h : Bx w a b) (c : CPost w0 w hb (kk a b) H' w') : Bx w' a b := ⟨c.at h.k1 (.inl (.inl (.inr rfl))), c.at h.k2 (.inl (.inr rfl))⟩
theorem ok0 : Ok emptyH 0 := Ok.empty
theorem ok1 : Ok (xH [(1, xOb 1 1 0)] [(1, xRw 0)] 1) 1 := by have := ok0.make 4 0 [true]; rw [x1] at this; exact this
theorem ok2 : Ok (xH [(1, xOb 1 1 0), (2, xOb 2 1 0)] [(1, xRw 0), (2, xRw 0)] 2) 2 := by have := ok1.make 4 0 [true]; rw [x2] at this; exact this
theorem ok3 : Ok (xH [(1, xOb 1 1 0), (2, xOb 2 1 1)] [(1, xRw 2), (2, xRw 0)] 2) 2 := by have := ok2.set 1 0 ⟨0, 2⟩; rw [x3] at this; exact this
theorem ok4 : Ok (xH [(1, xOb 1 1 0), (2, xOb 2 0 1)] [(1, xRw 2), (2, xRw 0)] 2) 2 := by have := ok3.drop 2; rw [x4] at this; exact this
theorem ok5 : Ok (xH [] [] 2) 2 := by have := ok4.drop 1; rw [x5] at this; exact this
theorem ok6 : Ok (xH [(3, xOb 3 1 0)] [(3, xRw 0)] 3) 3 := by have := ok5.make 4 0 [true]; rw [x6] at this; exact this
theorem ok7 : Ok (xH [(3, xOb 3 1 1)] [(3, xRw 3)] 3) 3 := by have := ok6.set 3 0 ⟨0, 3⟩; rw [x7] at this; exact this
theorem ok8 : Ok (xH [(3, xOb 3 0 1)] [(3, xRw 3)] 3) 3 := by have := ok7.drop 3; rw [x8] at this; exact this
theorem ok9 : Ok (xH [] [] 3) 3 := by have := ok8.clear 3; rw [x9] at this; exact this
theorem RdI.lit2 (w : World) (x y : Int) : RdI (w.alloc (.cells #[.int .i64 x, .int .i64 y] 26)) (some ⟨w.heap.size, 0, none⟩) [x, y] := fun j hj => by
  refine ⟨w.heap.size, 0, rfl, by simp, cell_of_heap (heap_alloc_new w _) ?_⟩
  match j, hj with
  | 0, _ => rfl
  | 1, _ => rfl
  | (j + 2), h => exact absurd h (by simp only [List.length_cons, List.length_nil]; omega)
set_option maxRecDepth 100000 in
set_option maxHeartbeats 4000000 in
theorem awake17 (w : World) : Calls Try.prog 11 #[] w fun e w' => e = .returned (.bool true) ∧ Below w.heap.size w w' := by
  have tm1 : True := trivial
  have tm2 : True := trivial
  have ts1 : True := trivial
  have td1 : True := trivial
  have ta1 : True := trivial
  have td2 : True := trivial
  have ta2 : True := trivial
  have tm3 : True := trivial
  have ts2 : True := trivial
  have td3 : True := trivial
  go_enter Try.func11, Try.ntmps11
  go_wp2_with (first
    | (go_at_call 12; refine (new_car w).mono ?_; rintro e w0 ⟨hb, rfl, c0⟩
       have C0 : Hid (Car w hb (kk w0.heap.size (w0.heap.size + 1)) emptyH ((w0.alloc (.cells #[.bool true] 4)).alloc (.cells #[.int .i64 0, .slice (some ⟨w0.heap.size, 0, none⟩) 1 1] 32))) := Lib.hid ((c0.keep ((Below.refl _ _).alloc (Nat.le_refl _) _) (Nat.le_refl _) (by simp)).keep ((Below.refl _ _).alloc (Nat.le_refl _) _) (by simp) (by simp))
       have B0 : Hid (Bx ((w0.alloc (.cells #[.bool true] 4)).alloc (.cells #[.int .i64 0, .slice (some ⟨w0.heap.size, 0, none⟩) 1 1] 32)) w0.heap.size (w0.heap.size + 1)) := Lib.hid ⟨(heap2 w0 _ _).1, (heap2 w0 _ _).2⟩
       clear c0)
    | (go_at_call 29; have _t := tm1; refine (C0.out.make ok0 (by decide) 4 0 B0.out.rd).mono ?_; rintro e w1 ⟨he, c1⟩
       rw [x1] at he c1
       subst he
       have C1 := Lib.hid c1.1
       have b1 := B0.out.at c1
       have B1 := Lib.hid b1
       have e10 := cell_of_heap (v := .int .i64 0) b1.k2 (j := 0) rfl
       have e11 := cell_of_heap (v := .slice (some ⟨w0.heap.size, 0, none⟩) 1 1) b1.k2 (j := 1) rfl
       have l1 := lt_of_heap b1.k2
       clear c1 b1 tm1)
    | (go_at_call 29; have _t := tm2; refine (C1.out.make ok1 (by decide) 4 0 B1.out.rd).mono ?_; rintro e w2 ⟨he, c1⟩
       rw [x2] at he c1
       subst he
       have C2 := Lib.hid c1.1
       have b1 := B1.out.at c1
       have B2 := Lib.hid b1
       have e20 := cell_of_heap (v := .int .i64 0) b1.k2 (j := 0) rfl
       have e21 := cell_of_heap (v := .slice (some ⟨w0.heap.size, 0, none⟩) 1 1) b1.k2 (j := 1) rfl
       have l2 := lt_of_heap b1.k2
       clear c1 b1 tm2)
    | (go_at_call 32; have _t := ts1; refine (C2.out.set ok2 (by decide) 1 0 0 2).mono ?_; rintro e w3 ⟨he, c1⟩
       rw [x3] at he c1
       subst he
       have C3 := Lib.hid c1.1
       have b1 := B2.out.at c1
       have B3 := Lib.hid b1
       have e30 := cell_of_heap (v := .int .i64 0) b1.k2 (j := 0) rfl
       have e31 := cell_of_heap (v := .slice (some ⟨w0.heap.size, 0, none⟩) 1 1) b1.k2 (j := 1) rfl
       have l3 := lt_of_heap b1.k2
       clear c1 b1 ts1)
    | (go_at_call 35; have _t := td1; refine (C3.out.drop ok3 (by decide) 2).mono ?_; rintro e w4 ⟨he, c1⟩
       rw [x4] at he c1
       subst he
       have C4 := Lib.hid c1.1
       have b1 := B3.out.at c1
       have B4 := Lib.hid b1
       have e40 := cell_of_heap (v := .int .i64 0) b1.k2 (j := 0) rfl
       have e41 := cell_of_heap (v := .slice (some ⟨w0.heap.size, 0, none⟩) 1 1) b1.k2 (j := 1) rfl
       have l4 := lt_of_heap b1.k2
       clear c1 b1 td1)
    | (go_at_call 40; have _t := ta1; refine (C4.out.all ok4 (by decide)).mono ?_; rintro e w5 ⟨LA, LC, he, ho, hb1⟩
       rw [x4a] at he ho
       subst he
       have O5 := Lib.hid ho
       have C5 := Lib.hid (C4.out.below hb1)
       have b1 := B4.out.below hb1
       have B5 := Lib.hid b1
       have e50 := cell_of_heap (v := .int .i64 0) b1.k2 (j := 0) rfl
       have e51 := cell_of_heap (v := .slice (some ⟨w0.heap.size, 0, none⟩) 1 1) b1.k2 (j := 1) rfl
       have l5 := lt_of_heap b1.k2
       clear ho hb1 b1 ta1)
    | (go_at_call 49; refine (equal_ints (l := [1, 2]) (l' := [1, 2]) _ _ ((RdI.of_own O5.out).below ((Below.refl _ _).alloc (Nat.le_refl _) _)) (RdI.lit2 w5 1 2) (by decide) (by decide)).mono ?_; rintro e w6 ⟨he, hb1⟩
       rw [show decide (([1, 2] : List Int) = [1, 2]) = true from rfl] at he
       subst he
       have C6 := Lib.hid ((C5.out.below ((Below.refl _ _).alloc (Nat.le_refl _) _)).below hb1)
       have b1 := (B5.out.below ((Below.refl _ _).alloc (Nat.le_refl _) _)).below hb1
       have B6 := Lib.hid b1
       have e60 := cell_of_heap (v := .int .i64 0) b1.k2 (j := 0) rfl
       have e61 := cell_of_heap (v := .slice (some ⟨w0.heap.size, 0, none⟩) 1 1) b1.k2 (j := 1) rfl
       have l6 := lt_of_heap b1.k2
       clear hb1 b1)
    | (go_at_call 35; have _t := td2; refine (C6.out.drop ok4 (by decide) 1).mono ?_; rintro e w7 ⟨he, c1⟩
       rw [x5] at he c1
       subst he
       have C7 := Lib.hid c1.1
       have b1 := B6.out.at c1
       have B7 := Lib.hid b1
       have e70 := cell_of_heap (v := .int .i64 0) b1.k2 (j := 0) rfl
       have e71 := cell_of_heap (v := .slice (some ⟨w0.heap.size, 0, none⟩) 1 1) b1.k2 (j := 1) rfl
       have l7 := lt_of_heap b1.k2
       clear c1 b1 td2)
    | (go_at_call 40; have _t := ta2; refine (C7.out.all ok5 (by decide)).mono ?_; rintro e w8 ⟨LA, LC, he, ho, hb1⟩
       rw [x5a] at he ho
       subst he
       have O8 := Lib.hid ho
       have C8 := Lib.hid (C7.out.below hb1)
       have b1 := B7.out.below hb1
       have B8 := Lib.hid b1
       have e80 := cell_of_heap (v := .int .i64 0) b1.k2 (j := 0) rfl
       have e81 := cell_of_heap (v := .slice (some ⟨w0.heap.size, 0, none⟩) 1 1) b1.k2 (j := 1) rfl
       have l8 := lt_of_heap b1.k2
       clear ho hb1 b1 ta2)
    | (go_at_call 29; have _t := tm3; refine (C8.out.make ok5 (by decide) 4 0 B8.out.rd).mono ?_; rintro e w9 ⟨he, c1⟩
       rw [x6] at he c1
       subst he
       have C9 := Lib.hid c1.1
       have b1 := B8.out.at c1
       have B9 := Lib.hid b1
       have e90 := cell_of_heap (v := .int .i64 0) b1.k2 (j := 0) rfl
       have e91 := cell_of_heap (v := .slice (some ⟨w0.heap.size, 0, none⟩) 1 1) b1.k2 (j := 1) rfl
       have l9 := lt_of_heap b1.k2
       clear c1 b1 tm3)
    | (go_at_call 32; have _t := ts2; refine (C9.out.set ok6 (by decide) 3 0 0 3).mono ?_; rintro e w10 ⟨he, c1⟩
       rw [x7] at he c1
       subst he
       have C10 := Lib.hid c1.1
       have b1 := B9.out.at c1
       have B10 := Lib.hid b1
       have e100 := cell_of_heap (v := .int .i64 0) b1.k2 (j := 0) rfl
       have e101 := cell_of_heap (v := .slice (some ⟨w0.heap.size, 0, none⟩) 1 1) b1.k2 (j := 1) rfl
       have l10 := lt_of_heap b1.k2
       clear c1 b1 ts2)
    | (go_at_call 35; have _t := td3; refine (C10.out.drop ok7 (by decide) 3).mono ?_; rintro e w11 ⟨he, c1⟩
       rw [x8] at he c1
       subst he
       have C11 := Lib.hid c1.1
       have b1 := B10.out.at c1
       have B11 := Lib.hid b1
       have e110 := cell_of_heap (v := .int .i64 0) b1.k2 (j := 0) rfl
       have e111 := cell_of_heap (v := .slice (some ⟨w0.heap.size, 0, none⟩) 1 1) b1.k2 (j := 1) rfl
       have l11 := lt_of_heap b1.k2
       clear c1 b1 td3)
    | (go_at_call 39; refine (C11.out.count ok8 (by decide) 3).mono ?_; rintro e w12 ⟨he, hb1⟩
       rw [x8a] at he
       subst he
       have C12 := Lib.hid (C11.out.below hb1)
       have b1 := B11.out.below hb1
       have B12 := Lib.hid b1
       have e120 := cell_of_heap (v := .int .i64 0) b1.k2 (j := 0) rfl
       have e121 := cell_of_heap (v := .slice (some ⟨w0.heap.size, 0, none⟩) 1 1) b1.k2 (j := 1) rfl
       have l12 := lt_of_heap b1.k2
       clear hb1 b1)
    | (go_at_call 33; refine (C12.out.clear ok8 (by decide) 3).mono ?_; rintro e w13 ⟨he, c1⟩
       rw [x9] at he c1
       subst he
       have C13 := Lib.hid c1.1
       have b1 := B12.out.at c1
       have B13 := Lib.hid b1
       have e130 := cell_of_heap (v := .int .i64 0) b1.k2 (j := 0) rfl
       have e131 := cell_of_heap (v := .slice (some ⟨w0.heap.size, 0, none⟩) 1 1) b1.k2 (j := 1) rfl
       have l13 := lt_of_heap b1.k2
       clear c1 b1)
    | (go_at_call 40; refine (C13.out.all ok9 (by decide)).mono ?_; rintro e w14 ⟨LA, LC, he, ho, hb1⟩
       rw [x5a] at he ho
       subst he
       have C14 := Lib.hid (C13.out.below hb1)
       clear ho hb1))
  go_ret
  exact ⟨rfl, C14.out.bel⟩
end Go.Proofs.Ytodfpclekihbhaa
