/- Contract: without. -/
import Derived.Test.YtnbjknjnpfmklaaP6
import Derived.Laws.CopyOwn
import Derived.Laws.MakeOwn
import Derived.StillTailTactics
namespace Go.Proofs.Ytnbjknjnpfmklaa
open Go.RowKit

theorem own_lit {w : World} {g n : Nat} {xs : List Value} (h : w.heap[g]? = some (.cells xs.toArray 3 (0, 0))) (hl : xs.length = n) (hn : n ≤ maxLen) : w.ownsRow g 3 1 (.slice (some ⟨g, 0, none⟩) n n) n xs :=
  ⟨by omega, .inr ⟨g, n, xs.toArray, rfl, Nat.le_refl _, h, Nat.le_refl _, hn, by simp; omega, by rw [Nat.mul_one, ← hl]; simp⟩⟩
theorem size3 : (Try.prog.info? 3).map (·.size) = some 1 := by kernel_rfl
theorem add_none (b o j : Nat) : (⟨b, o, none⟩ : Addr).add j = ⟨b, o + j, none⟩ := by unfold Addr.add; split <;> simp_all
theorem getD_ints (zs : List Int) (j : Nat) (hj : j < zs.length) : (ints zs)[j]? = some (.int .i64 (zs.getD j 0)) := by simp [ints, List.getD, List.getElem?_eq_getElem hj]
theorem run_mk (w : World) (m : Nat) (hm : m ≤ 100000) : (Instr.makeSlice 22 (.int .i64 (m : Int)) (.int .i64 (m : Int))).run Try.prog w = .ok (.slice (some ⟨w.heap.size, 0, none⟩) m m) (w.alloc (.cells (madeCells #[.int .i64 0] m) 3)) := by
  obtain ⟨i0, hi, hz0, hz1, hz2⟩ := info_parts info3
  have := run_make (P := Try.prog) w 22 3 i0 (.int .i64 0) Try.underlying22 hi hz0 .i64 .i64 (m : Int) (m : Int) (by omega) (Int.le_refl _) (by rw [hz2]; omega) (by omega)
  rw [hz1, Int.toNat_natCast, Nat.mul_one] at this
  exact this
end Go.Proofs.Ytnbjknjnpfmklaa
