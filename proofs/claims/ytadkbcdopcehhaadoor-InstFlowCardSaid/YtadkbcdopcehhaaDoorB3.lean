/- Contracts of the reference's operand and Check. -/
import Derived.Test.YtadkbcdopcehhaaDoorB2
import Derived.Deep.RegionHeld3
namespace Go.Proofs.YtadkbcdopcehhaaDoor
open Go.RowKit

def rv (b : Bool) : Int := if b then 0 else 11
/-- The reference's operand, with what the letter means. -/
def ropV (md A B : Int) (c : UInt8) (K : Int) (d : Bool) : Int :=
  if md = 0 ∧ d = true then rv (ins A B 0 0 0)
  else if md = 1 ∧ c.toNat = 110 then rv (ins A B (-2147483648) 2147483647 0)
  else if md = 1 ∧ K = 11 then rv (ins A B 0 (rmost c.toNat) 0)
  else if (md = 2 ∨ md = 3) ∧ 0 < K ∧ K < 11 then rv (ins A B 0 255 0)
  else if (md = 4 ∨ md = 5) ∧ 0 < K ∧ K < 11 then rv (ins A B 0 255 255)
  else 20
def dashL : List UInt8 := [45, 118, 113]

theorem keep3 {W w1 : World} {b o : Nat} {v : Value} (hb : Below W.heap.size W w1) (h : W.cell? ⟨b, o, none⟩ = some v) : w1.cell? ⟨b, o, none⟩ = some v :=
  (hb.cell (p := ⟨b, o, none⟩) (World.block_lt_of_cell? W ⟨b, o, none⟩ h)).trans h
/-- What the walk carries from call to call. -/
structure Cx (w w1 : World) : Prop where
  below : Below w.heap.size w w1
  lt : w.heap.size < w1.heap.size
theorem Cx.next {w w1 w2 : World} (h : Cx w w1) (hb : Below w1.heap.size w1 w2) : Cx w w2 :=
  ⟨Below.step h.below hb, Nat.lt_of_lt_of_le h.lt hb.size⟩

theorem Cx.drew {w w1 : World} (h : Cx w w1) : Cx w w1.drew := ⟨h.below.drew, h.lt⟩

set_option maxHeartbeats 2000000 in
theorem rop_at (md A B : Int) (c : UInt8) (K : Int) (d : Bool) (w : World)
    (hd : win c dashL = d) (hk : ∀ w, Calls Tryd.prog 19 #[.int .u8 (c.toNat : Int)] w fun e w' => e = .returned (.int .i64 K) ∧ Below w.heap.size w w') :
    Calls Tryd.prog 40 #[.int .u8 (c.toNat : Int), .agg #[.int .i64 md, .int .i64 A, .int .i64 B]] w fun e w' => e = .returned (.int .i64 (ropV md A B c K d)) ∧ Below w.heap.size w w' := by
  have HK := Lib.hid hk
  have HD := Lib.hid (fun w => hd ▸ win_calls c dashL w (by decide))
  clear hk hd
  obtain ⟨n, hn⟩ : ∃ n : Int, n = (c.toNat : Int) := ⟨_, rfl⟩
  rw [← hn] at HK HD ⊢
  have HN := Lib.hid hn
  clear hn
  have CX : Cx w (w.alloc (.cells #[.int .i64 md, .int .i64 A, .int .i64 B] 38)) := ⟨(Below.refl _ _).alloc (Nat.le_refl _) _, by simp⟩
  have hm : md = 0 ∨ md = 1 ∨ md = 2 ∨ md = 3 ∨ md = 4 ∨ md = 5 ∨ (md ≠ 0 ∧ md ≠ 1 ∧ md ≠ 2 ∧ md ≠ 3 ∧ md ≠ 4 ∧ md ≠ 5) := by omega
  rcases hm with rfl | rfl | rfl | rfl | rfl | rfl | ⟨n0, n1, n2, n3, n4, n5⟩
  all_goals (try rw [← beq_eq_false_iff_ne] at n0 n1 n2 n3 n4 n5)
  all_goals
    go_enter Tryd.func40, Tryd.ntmps40
    go_wp2_with (first
      | (go_at_call 37; refine (HD.out _).mono ?_; rintro e w' ⟨rfl, rfl⟩)
      | (go_at_call 19; refine (HK.out _).mono ?_; rintro e w1 ⟨rfl, hb⟩; obtain ⟨hc, hf⟩ := bcell hb; replace CX := CX.next hb; have hz := CX.lt; clear hb)
      | (go_at_call 56; refine (rmost_calls _ _).mono ?_; rintro e w' ⟨rfl, rfl⟩)
      | (go_at_call 55; refine (ins_calls _ _ _ _ _ _ _).mono ?_; rintro e w1 ⟨rfl, hb⟩; obtain ⟨hc, hf⟩ := bcell hb; replace CX := CX.next hb; have hz := CX.lt; clear hb))
  any_goals
    go_region_held3 (fun w' => w'.cell? ⟨w.heap.size, 0, none⟩ = some (.int .i64 1) ∧ w'.cell? ⟨w.heap.size, 1, none⟩ = some (.int .i64 A) ∧ w'.cell? ⟨w.heap.size, 2, none⟩ = some (.int .i64 B) ∧ Cx w w')
      (((try go_split_ands); (repeat' apply And.intro) <;> first | exact keep3 hb2 (by assumption) | exact Cx.next (by assumption) hb2 | exact Cx.drew (by assumption) | go_keep))
      (first
        | (go_at_call 56; refine (rmost_calls _ _).mono ?_; rintro e w' ⟨rfl, rfl⟩)
        | (go_at_call 55; refine (ins_calls _ _ _ _ _ _ _).mono ?_; rintro e w2 ⟨rfl, hb2⟩))
    go_wp2
  all_goals (try go_split_ands)
  all_goals go_ret
  all_goals refine ⟨ret_int ?_, Cx.below (by assumption)⟩
  all_goals
    have hn := HN.out
    clear HN HK HD
    unfold ropV rv
    first | (simp_all; done) | (simp_all; omega)
end Go.Proofs.YtadkbcdopcehhaaDoor
