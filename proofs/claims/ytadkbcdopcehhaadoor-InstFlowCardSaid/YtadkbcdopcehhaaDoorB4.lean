/- The contract of the reference's Check. -/
import Derived.Test.YtadkbcdopcehhaaDoorB3
namespace Go.Proofs.YtadkbcdopcehhaaDoor
open Go.RowKit

/-- The reference's operand. -/
def ropI (md A B : Int) (c : UInt8) : Int := ropV md A B c (kindRv c) (win c dashL)
theorem rop_calls (md A B : Int) (c : UInt8) (w : World) :
    Calls Tryd.prog 40 #[.int .u8 (c.toNat : Int), .agg #[.int .i64 md, .int .i64 A, .int .i64 B]] w fun e w' => e = .returned (.int .i64 (ropI md A B c)) ∧ Below w.heap.size w w' :=
  rop_at md A B c _ _ w rfl fun w => rkind_calls c w

theorem rcheck_none (op a1 a2 a3 b1 b2 b3 c1 c2 c3 : Int) (w : World) (h : op < 0 ∨ 111 ≤ op) :
    Calls Tryd.prog 22 #[.agg #[.int .i64 op, .int .i64 a1, .int .i64 a2, .int .i64 a3, .int .i64 b1, .int .i64 b2, .int .i64 b3, .int .i64 c1, .int .i64 c2, .int .i64 c3]] w fun e w' => e = .returned (.int .i64 13) ∧ Below w.heap.size w w' := by
  have H := Lib.hid h
  clear h
  go_enter Tryd.func22, Tryd.ntmps22
  go_wp2_with (go_at_call 13; refine (entry_out _ _ H.out).mono ?_; rintro e w1 ⟨rfl, hb⟩)
  all_goals (go_ret; exact ⟨rfl, Below.step ((Below.refl _ _).alloc (Nat.le_refl _) _) hb⟩)

/-- What the loop carries: the row of the operands, and that nothing old has turned. -/
structure Rw (R : Nat) (w w' : World) (a1 a2 a3 b1 b2 b3 c1 c2 c3 : Int) : Prop where
  row : w'.heap[R]? = some (.cells #[.int .i64 a1, .int .i64 a2, .int .i64 a3, .int .i64 b1, .int .i64 b2, .int .i64 b3, .int .i64 c1, .int .i64 c2, .int .i64 c3] 38 (0, 0))
  below : Below w.heap.size w w'
theorem Rw.drew {R : Nat} {w w' : World} {a1 a2 a3 b1 b2 b3 c1 c2 c3 : Int} (h : Rw R w w' a1 a2 a3 b1 b2 b3 c1 c2 c3) : Rw R w w'.drew a1 a2 a3 b1 b2 b3 c1 c2 c3 := ⟨h.row, h.below.drew⟩
theorem Rw.next {R : Nat} {w w' w2 : World} {a1 a2 a3 b1 b2 b3 c1 c2 c3 : Int} (h : Rw R w w' a1 a2 a3 b1 b2 b3 c1 c2 c3) (hb : Below w'.heap.size w' w2) : Rw R w w2 a1 a2 a3 b1 b2 b3 c1 c2 c3 :=
  ⟨(hb.block R (Array.getElem?_eq_some_iff.1 h.row).1).trans h.row, Below.step h.below hb⟩
theorem Rw.cell {R : Nat} {w w' : World} {a1 a2 a3 b1 b2 b3 c1 c2 c3 : Int} (h : Rw R w w' a1 a2 a3 b1 b2 b3 c1 c2 c3) (j : Nat) (v : Value)
    (hv : (#[.int .i64 a1, .int .i64 a2, .int .i64 a3, .int .i64 b1, .int .i64 b2, .int .i64 b3, .int .i64 c1, .int .i64 c2, .int .i64 c3] : Array Value)[j]? = some v) : w'.cell? ⟨R, j, none⟩ = some v := cell_of_heap h.row hv

set_option maxHeartbeats 4000000 in
theorem rcheck_in (op a1 a2 a3 b1 b2 b3 c1 c2 c3 : Int) (k : Nat) (w : World) (hop : op = (k : Int)) (hk : k < 111) :
    Calls Tryd.prog 22 #[.agg #[.int .i64 op, .int .i64 a1, .int .i64 a2, .int .i64 a3, .int .i64 b1, .int .i64 b2, .int .i64 b3, .int .i64 c1, .int .i64 c2, .int .i64 c3]] w
      fun e w' => e = .returned (.int .i64 (firstNZ [ropI a1 a2 a3 (frm 0 op), ropI b1 b2 b3 (frm 1 op), ropI c1 c2 c3 (frm 2 op)])) ∧ Below w.heap.size w w' := by
  subst hop
  have HE : Hid (∀ w, Calls Tryd.prog 13 #[.int .i64 (k : Int)] w fun e w' => e = .returned (.tuple #[.string (nm k), .string ⟨#[frm 0 (k : Int), frm 1 (k : Int), frm 2 (k : Int)]⟩]) ∧ Below w.heap.size w w') := fun w => entry_in k w hk
  clear hk
  generalize frm 0 (k : Int) = x at *
  generalize frm 1 (k : Int) = y at *
  generalize frm 2 (k : Int) = z at *
  go_enter Tryd.func22, Tryd.ntmps22
  go_wp2_with (go_at_call 13; refine (HE.out _).mono ?_; rintro e w1 ⟨rfl, hb⟩; obtain ⟨hc, hf⟩ := bcell hb; have hz : w.heap.size < w1.heap.size := (by have := hb.size; simp at this; omega))
  have HB := Lib.hid (Below.step ((Below.refl _ _).alloc (Nat.le_refl _) _) hb)
  clear hb hc hf
  generalize hR : w1.heap.size = R at *
  have HR := Lib.hid hR
  clear hR
  go_loopw [6, 7] (fun i _ wr => ∃ j : Nat, j ≤ 3 ∧ i = .int .i64 j ∧ Hid (∀ i, i < j → [ropI a1 a2 a3 x, ropI b1 b2 b3 y, ropI c1 c2 c3 z].getD i 0 = 0) ∧ Hid (Rw R w wr a1 a2 a3 b1 b2 b3 c1 c2 c3)) (fun i _ _ => 3 - (intOf i).toNat)
  case atStart => exact ⟨0, by omega, rfl, fun j hj => by omega, ⟨by rw [← HR.out]; exact heap_alloc_new _ _, HB.out.alloc HB.out.size _⟩⟩
  case round =>
    obtain ⟨j, hj, rfl, hzz, hRw⟩ := hrel
    by_cases hlt : j < 3
    · obtain ⟨md, A, B, cc, hr, hcc, q0, q1, q2⟩ : ∃ (md A B : Int) (cc : UInt8), [ropI a1 a2 a3 x, ropI b1 b2 b3 y, ropI c1 c2 c3 z].getD j 0 = ropI md A B cc ∧ [x, y, z].getD j 0 = cc ∧
          wr.cell? ⟨R, j * 3, none⟩ = some (.int .i64 md) ∧ wr.cell? ⟨R, j * 3 + 1, none⟩ = some (.int .i64 A) ∧ wr.cell? ⟨R, j * 3 + 2, none⟩ = some (.int .i64 B) := by
        have : j = 0 ∨ j = 1 ∨ j = 2 := by omega
        rcases this with rfl | rfl | rfl
        · exact ⟨a1, a2, a3, x, rfl, rfl, hRw.out.cell _ _ rfl, hRw.out.cell _ _ rfl, hRw.out.cell _ _ rfl⟩
        · exact ⟨b1, b2, b3, y, rfl, rfl, hRw.out.cell _ _ rfl, hRw.out.cell _ _ rfl, hRw.out.cell _ _ rfl⟩
        · exact ⟨c1, c2, c3, z, rfl, rfl, hRw.out.cell _ _ rfl, hRw.out.cell _ _ rfl, hRw.out.cell _ _ rfl⟩
      have hx := fun w => run_index_lit [x, y, z] j (cc.toNat : Int) (by simpa using hlt) (by rw [hcc]) w
      have HRC := Lib.hid (fun w => rop_calls md A B cc w)
      have HRR := Lib.hid hr
      clear hr hcc
      generalize ropI md A B cc = r at *
      have g0 : (0 : Int) ≤ (j : Int) := by omega
      have g1 : (j : Int) < 3 := by omega
      have RW := hRw.out
      clear hRw
      go_wp2
      go_region_held3 (fun w' => w'.cell? ⟨R, j * 3, none⟩ = some (.int .i64 md) ∧ w'.cell? ⟨R, j * 3 + 1, none⟩ = some (.int .i64 A) ∧ w'.cell? ⟨R, j * 3 + 2, none⟩ = some (.int .i64 B) ∧ Rw R w w' a1 a2 a3 b1 b2 b3 c1 c2 c3)
        (((try go_split_ands); (repeat' apply And.intro) <;> first | exact keep3 hb2 (by assumption) | exact Rw.next (by assumption) hb2 | exact Rw.drew (by assumption) | go_keep))
        (first
          | (go_at_call 40; refine (HRC.out _).mono ?_; rintro e w2 ⟨rfl, hb2⟩))
      clear RW q0 q1 q2 hx
      by_cases h0 : r = 0
      · subst h0
        go_wp2
        go_roundw
        case rel => exact ⟨j + 1, by omega, by go_num, fun i hi => (by
          by_cases e : i = j
          · rw [e]; exact HRR.out
          · exact hzz.out i (by omega)), Lib.hid (by go_split_ands; assumption)⟩
        case measure => simp [intOf]; omega
      · have hv : (r != 0) = true := by simpa using h0
        have hfin : firstNZ [ropI a1 a2 a3 x, ropI b1 b2 b3 y, ropI c1 c2 c3 z] = r := by
          rw [firstNZ_skip _ j hzz.out, List.drop_eq_getElem_cons (by simpa using hlt)]
          have e : [ropI a1 a2 a3 x, ropI b1 b2 b3 y, ropI c1 c2 c3 z][j]'(by simpa using hlt) = r := by
            rw [← HRR.out]; simp [List.getD, List.getElem?_eq_getElem (show j < [ropI a1 a2 a3 x, ropI b1 b2 b3 y, ropI c1 c2 c3 z].length by simpa using hlt)]
          rw [e, firstNZ, if_neg h0]
        have HFIN := Lib.hid hfin
        clear hfin
        go_wp2
        go_ret
        rw [HFIN.out]
        exact ⟨rfl, Rw.below (by go_split_ands; assumption)⟩
    · obtain rfl : j = 3 := by omega
      have hfin : firstNZ [ropI a1 a2 a3 x, ropI b1 b2 b3 y, ropI c1 c2 c3 z] = 0 := by
        rw [firstNZ_skip _ 3 hzz.out]
        rfl
      have HFIN := Lib.hid hfin
      clear hfin
      go_wp2
      go_ret
      rw [HFIN.out]
      exact ⟨rfl, hRw.out.below⟩
end Go.Proofs.YtadkbcdopcehhaaDoor
