/- The contract of inst.Check. -/
import Derived.Test.YtadkbcdopcehhaaDoorA4
namespace Go.Proofs.YtadkbcdopcehhaaDoor
open Go.RowKit

/-- inst.operand. -/
def opI (md A B : Int) (c : UInt8) : Int := opV md A B (c.toNat : Int) (letK c.toNat) (letN c.toNat)
theorem operand_calls (md A B : Int) (c : UInt8) (w : World) :
    Calls Tryd.prog 39 #[.agg #[.int .i64 md, .int .i64 A, .int .i64 B], .int .u8 (c.toNat : Int)] w fun e w' => e = .returned (.int .i64 (opI md A B c)) ∧ Below w.heap.size w w' :=
  operand_at md A B c.toNat _ _ _ _ _ w fun w => letter_calls c.toNat w (by omega) (by have := c.toNat_lt; omega)

theorem check_none (op a1 a2 a3 b1 b2 b3 c1 c2 c3 : Int) (w : World) (h : op < 0 ∨ 111 ≤ op) :
    Calls Tryd.prog 21 #[.agg #[.int .i64 op, .int .i64 a1, .int .i64 a2, .int .i64 a3, .int .i64 b1, .int .i64 b2, .int .i64 b3, .int .i64 c1, .int .i64 c2, .int .i64 c3]] w
      fun e w' => e = .returned (.int .i64 13) ∧ Below w.heap.size w w' := by
  have H := Lib.hid h
  clear h
  go_enter Tryd.func21, Tryd.ntmps21
  go_wp2_with (go_at_call 17; refine (form_out _ _ H.out).mono ?_; rintro e w' ⟨rfl, rfl⟩)
  all_goals (go_ret; exact ⟨rfl, (Below.refl _ _).alloc (Nat.le_refl _) _⟩)

theorem keep3 {W w1 : World} {b o : Nat} {v : Value} (hb : Below W.heap.size W w1) (h : W.cell? ⟨b, o, none⟩ = some v) : w1.cell? ⟨b, o, none⟩ = some v :=
  (hb.cell (p := ⟨b, o, none⟩) (World.block_lt_of_cell? W ⟨b, o, none⟩ h)).trans h

theorem cell_new (w : World) (cs : Array Value) (t : TypeId) (j : Nat) : (w.alloc (.cells cs t)).cell? ⟨w.heap.size, j, none⟩ = cs[j]? := by
  unfold World.cell?
  rw [heap_alloc_new]
  simp

set_option maxHeartbeats 1000000 in
theorem check_in (op a1 a2 a3 b1 b2 b3 c1 c2 c3 : Int) (w : World) (h : 0 ≤ op) (h1 : op < 111) :
    Calls Tryd.prog 21 #[.agg #[.int .i64 op, .int .i64 a1, .int .i64 a2, .int .i64 a3, .int .i64 b1, .int .i64 b2, .int .i64 b3, .int .i64 c1, .int .i64 c2, .int .i64 c3]] w
      fun e w' => e = .returned (.int .i64 (firstNZ [opI a1 a2 a3 (frm 0 op), opI b1 b2 b3 (frm 1 op), opI c1 c2 c3 (frm 2 op)])) ∧ Below w.heap.size w w' := by
  generalize hx : frm 0 op = x
  generalize hy : frm 1 op = y
  generalize hz : frm 2 op = z
  have HF : Hid (∀ w, Calls Tryd.prog 17 #[.int .i64 op] w fun e w' => e = .returned (.string ⟨#[x, y, z]⟩) ∧ w = w') := fun w => by
    have := form_in op w h h1
    rwa [hx, hy, hz] at this
  clear hx hy hz h h1
  go_enter Tryd.func21, Tryd.ntmps21
  go_wp2_with (go_at_call 17; refine (HF.out _).mono ?_; rintro e w' ⟨rfl, rfl⟩)
  go_region_held3 (fun w' => w'.cell? ⟨w.heap.size, 1, none⟩ = some (.int .i64 a1) ∧ w'.cell? ⟨w.heap.size, 2, none⟩ = some (.int .i64 a2) ∧ w'.cell? ⟨w.heap.size, 3, none⟩ = some (.int .i64 a3) ∧ w'.cell? ⟨w.heap.size, 4, none⟩ = some (.int .i64 b1) ∧ w'.cell? ⟨w.heap.size, 5, none⟩ = some (.int .i64 b2) ∧ w'.cell? ⟨w.heap.size, 6, none⟩ = some (.int .i64 b3) ∧ w'.cell? ⟨w.heap.size, 7, none⟩ = some (.int .i64 c1) ∧ w'.cell? ⟨w.heap.size, 8, none⟩ = some (.int .i64 c2) ∧ w'.cell? ⟨w.heap.size, 9, none⟩ = some (.int .i64 c3) ∧ Below w.heap.size w w')
    (((try go_split_ands); (repeat' apply And.intro) <;> first | exact keep3 hb (by assumption) | exact Below.trans (by assumption) (hb.mono (Below.size (by assumption))) | exact ((Below.refl _ _).alloc (Nat.le_refl _) _).drew | exact Below.alloc (by assumption) (Below.size (by assumption)) _ | go_keep))
    (first
      | (go_at_call 39; refine (operand_calls _ _ _ _ _).mono ?_; rintro e w1 ⟨rfl, hb⟩)
      | (go_at_call 38; refine (first_calls _ 3 _ [opI a1 a2 a3 x, opI b1 b2 b3 y, opI c1 c2 c3 z] _ rfl (by decide) (fun j hj => by obtain rfl | rfl | rfl : j = 0 ∨ j = 1 ∨ j = 2 := (by omega) <;> (rw [cell_new]; rfl))).mono ?_; rintro e w' ⟨rfl, rfl⟩))
  all_goals go_wp2
  all_goals go_ret
  all_goals (go_split_ands; exact ⟨rfl, by assumption⟩)
end Go.Proofs.YtadkbcdopcehhaaDoor
