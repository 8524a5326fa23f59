/- Contracts: is, Tick. -/
import Derived.Test.YtnbjknjnpfmklaaP3
namespace Go.Proofs.Ytnbjknjnpfmklaa
open Go.RowKit

def pr0 : Pr := ⟨0, 0, 0, ⟨#[]⟩, 0⟩
def prD (P : List Pr) (x : Int) : Pr := (prAt P x).getD pr0
theorem zero45 (w : World) : (zeroValue 45).run Try.prog w = .ok (prV pr0) w := by kernel_rfl
theorem kV_key (x : Int) : MapKept.IsKey (.int .i64) (kV x) := rfl
theorem kV_inj (x y : Int) (h : kV x = kV y) : x = y := by injection h
theorem TabAt.look {w : World} {tb : Nat} {p : TA} {T : Tb} (h : TabAt w tb p T) (x : Int) : (Instr.lookup 61 (.map (some p.mb)) (.int .i64 x) false).run Try.prog w = .ok (.agg #[.int .i64 (prD T.P x).pid, .int .i64 (prD T.P x).group, .int .i64 (prD T.P x).state, .string (prD T.P x).why, .int .i64 (prD T.P x).ticks]) w := by
  have := h.map.lookup (P := Try.prog) Try.underlying61 Try.underlying3 kV_key kV_inj (zero45 w) x
  rw [get_prs] at this
  rw [show (Value.int IntKind.i64 x) = kV x from rfl, this]
  unfold prD
  cases prAt T.P x <;> rfl
theorem field2 (a b c e : Int) (d : ByteArray) (w : World) : (Instr.field 45 (.agg #[.int .i64 a, .int .i64 b, .int .i64 c, .string d, .int .i64 e]) 2).run Try.prog w = .ok (.int .i64 c) w := by kernel_rfl
def isB (T : Tb) (st : Int) : Bool := decide (T.cur ≠ 0) && decide ((prD T.P T.cur).state = st)

set_option maxHeartbeats 1000000 in
theorem is_calls (T : Tb) (tb : Nat) (p : TA) (st : Int) (w : World) (h : TabAt w tb p T) : Calls Try.prog 34 #[.pointer (some ⟨tb, 0, none⟩), .int .i64 st] w fun e w' => e = .returned (.bool (isB T st)) ∧ Below w.heap.size w w' := by
  obtain ⟨c0, c1, c2, c3, c4, c5, c6, c7, c8, hf⟩ := h.cells
  unfold isB
  by_cases h1 : T.cur = 0
  · rw [show decide (T.cur ≠ 0) = false from decide_eq_false (by simpa using h1)]
    rw [h1] at c6
    clear h
    go_enter Try.func34, Try.ntmps34
    go_wp2
    go_quiet (fail)
    go_wp2
    go_ret
    exact ⟨rfl, (Below.refl _ _).dn _⟩
  · rw [show decide (T.cur ≠ 0) = true from decide_eq_true h1]
    have h2 : (T.cur != 0) = !false := by simpa using h1
    have hl := fun n => (h.below ((Below.refl _ _).dn n)).look T.cur
    generalize prD T.P T.cur = q at *
    obtain ⟨q0, q1, q2, q3, q4⟩ := q
    simp only at hl
    have hfd := fun w => field2 q0 q1 q2 q4 q3 w
    clear h
    go_enter Try.func34, Try.ntmps34
    go_wp2
    go_quiet (fail)
    go_wp2
    go_ret
    exact ⟨rfl, (Below.refl _ _).dn _⟩
end Go.Proofs.Ytnbjknjnpfmklaa
