/- Contracts of inst.operand and its closure, most, first, Form, Ends. -/
import Derived.Test.YtadkbcdopcehhaaDoorA1
namespace Go.Proofs.YtadkbcdopcehhaaDoor
open Go.RowKit

/-- The closure's answer: are A and B within bounds? -/
def rng (A B a b n m : Int) : Int := if A < a then 11 else if A > b then 11 else if B < n then 11 else if B > m then 11 else 0

theorem op1_calls (a b n m : Int) (bx : Nat) (A B : Int) (w : World) (h1 : w.cell? ⟨bx, 1, none⟩ = some (.int .i64 A)) (h2 : w.cell? ⟨bx, 2, none⟩ = some (.int .i64 B)) :
    Calls Tryd.prog 53 #[.int .i64 a, .int .i64 b, .int .i64 n, .int .i64 m, .pointer (some ⟨bx, 0, none⟩)] w fun e w' => e = .returned (.int .i64 (rng A B a b n m)) ∧ w = w' := by
  unfold rng
  by_cases c1 : A < a
  · rw [if_pos c1]
    go_enter Tryd.func53, Tryd.ntmps53
    go_wp2
    all_goals (go_ret; exact ⟨rfl, rfl⟩)
  · rw [if_neg c1]
    by_cases c2 : A > b
    · rw [if_pos c2]
      go_enter Tryd.func53, Tryd.ntmps53
      go_wp2
      all_goals (go_ret; exact ⟨rfl, rfl⟩)
    · rw [if_neg c2]
      by_cases c3 : B < n
      · rw [if_pos c3]
        go_enter Tryd.func53, Tryd.ntmps53
        go_wp2
        all_goals (go_ret; exact ⟨rfl, rfl⟩)
      · rw [if_neg c3]
        by_cases c4 : B > m
        · rw [if_pos c4]
          go_enter Tryd.func53, Tryd.ntmps53
          go_wp2
          all_goals (go_ret; exact ⟨rfl, rfl⟩)
        · rw [if_neg c4]
          go_enter Tryd.func53, Tryd.ntmps53
          go_wp2
          all_goals (go_ret; exact ⟨rfl, rfl⟩)

theorem ret_int {k : IntKind} {a b : Int} (h : a = b) : Ending.returned (.int k a) = .returned (.int k b) := by rw [h]
theorem ret_bool {a b : Bool} (h : a = b) : Ending.returned (.bool a) = .returned (.bool b) := by rw [h]

/-- inst.most. -/
def mostI (c : Int) : Int := if c = 100 then 1023 else if c = 106 ∨ c = 115 ∨ c = 116 ∨ c = 117 then 16383 else if c = 102 ∨ c = 101 ∨ c = 105 then 255 else if c = 107 ∨ c = 103 then 255 else 1
theorem most_calls (c : Int) (w : World) :
    Calls Tryd.prog 54 #[.int .u8 c] w fun e w' => e = .returned (.int .i64 (mostI c)) ∧ w = w' := by
  go_enter Tryd.func54, Tryd.ntmps54
  go_wp2
  all_goals go_ret
  all_goals exact ⟨ret_int (by unfold mostI; simp_all), rfl⟩

def endsI (n : Int) : Bool := n == 71 || n == 72 || n == 73 || n == 102 || n == 105 || n == 106
theorem ends_calls (n : Int) (w : World) :
    Calls Tryd.prog 31 #[.int .i64 n] w fun e w' => e = .returned (.bool (endsI n)) ∧ w = w' := by
  go_enter Tryd.func31, Tryd.ntmps31
  go_wp2
  all_goals go_ret
  all_goals exact ⟨ret_bool (by unfold endsI; simp_all), rfl⟩

theorem bcell {W w1 : World} (hb : Below W.heap.size W w1) : (∀ b o, b < W.heap.size → w1.cell? ⟨b, o, none⟩ = W.cell? ⟨b, o, none⟩) ∧ (∀ b o, b < W.heap.size → w1.frozen? ⟨b, o, none⟩ = W.frozen? ⟨b, o, none⟩) :=
  ⟨fun b o h => hb.cell (p := ⟨b, o, none⟩) h, fun b o h => hb.frozen (p := ⟨b, o, none⟩) h⟩

/-- inst.operand, with what the letter means. -/
def opV (md A B c k : Int) (nl : Bool) : Int :=
  if md = 0 ∧ (k = 0 ∨ nl = true) then rng A B 0 0 0 0
  else if k = 0 then 20
  else if k = 11 then (if md ≠ 1 then 20 else rng A B 0 (mostI c) 0 0)
  else if md = 1 then (if c = 110 then rng A B (-2147483648) 2147483647 0 0 else 20)
  else if md = 2 ∨ md = 3 then rng A B 0 255 0 0
  else if md = 4 ∨ md = 5 then rng A B 0 255 0 255
  else 20

set_option maxHeartbeats 1000000 in
theorem operand_at (md A B c k : Int) (rd wr nl kn : Bool) (w : World)
    (hl : ∀ w, Calls Tryd.prog 18 #[.int .u8 c] w fun e w' => e = .returned (.tuple #[.agg #[.int .i64 k, .bool rd, .bool wr, .bool nl], .bool kn]) ∧ Below w.heap.size w w') :
    Calls Tryd.prog 39 #[.agg #[.int .i64 md, .int .i64 A, .int .i64 B], .int .u8 c] w fun e w' => e = .returned (.int .i64 (opV md A B c k nl)) ∧ Below w.heap.size w w' := by
  have HL := Lib.hid hl
  clear hl
  go_enter Tryd.func39, Tryd.ntmps39
  go_wp2_with (first
    | (go_at_call 18; refine (HL.out _).mono ?_; rintro e w1 ⟨rfl, hb⟩; obtain ⟨hc, hf⟩ := bcell hb; have hz : w.heap.size < w1.heap.size := (by have := hb.size; simp at this; omega))
    | (go_at_call 53; refine (op1_calls _ _ _ _ _ A B _ (by go_simp) (by go_simp)).mono ?_; rintro e w' ⟨rfl, rfl⟩)
    | (go_at_call 54; refine (most_calls _ _).mono ?_; rintro e w' ⟨rfl, rfl⟩))
  all_goals go_ret
  all_goals refine ⟨ret_int ?_, (((Below.refl _ _).alloc (Nat.le_refl _) _).trans (hb.mono (by simp))).alloc (by omega) _⟩
  all_goals (clear hb hc hf HL; unfold opV; simp_all)
end Go.Proofs.YtadkbcdopcehhaaDoor
