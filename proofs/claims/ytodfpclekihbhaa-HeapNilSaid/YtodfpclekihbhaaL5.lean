/- The heap of the examples, step by step. -/
import Derived.Test.YtodfpclekihbhaaL4
namespace Go.Proofs.Ytodfpclekihbhaa

def xOb (r h c : Int) : Ob := ⟨4, 0, [true], emptyB, false, 0, r, 0, 0, h, c⟩
def xRw (x : Int) : Rw := ⟨[⟨0, x⟩], 1, false⟩
def xH (o : List (Int × Ob)) (r : List (Int × Rw)) (n : Nat) : Hp := ⟨o, r, n, false, []⟩
theorem x1 : makeH emptyH 4 0 [true] = (xH [(1, xOb 1 1 0)] [(1, xRw 0)] 1, 1, 0) := by rfl
theorem x2 : makeH (xH [(1, xOb 1 1 0)] [(1, xRw 0)] 1) 4 0 [true] = (xH [(1, xOb 1 1 0), (2, xOb 2 1 0)] [(1, xRw 0), (2, xRw 0)] 2, 2, 0) := by rfl
theorem x3 : setH (xH [(1, xOb 1 1 0), (2, xOb 2 1 0)] [(1, xRw 0), (2, xRw 0)] 2) 1 0 ⟨0, 2⟩ = (xH [(1, xOb 1 1 0), (2, xOb 2 1 1)] [(1, xRw 2), (2, xRw 0)] 2, 0) := by
  show (relH (xH [(1, xOb 1 1 0), (2, xOb 2 1 1)] [(1, xRw 2), (2, xRw 0)] 2) [0], (0 : Int)) = _
  rw [relH_zero, relH_nil]
theorem x4 : dropH (xH [(1, xOb 1 1 0), (2, xOb 2 1 1)] [(1, xRw 2), (2, xRw 0)] 2) 2 = (xH [(1, xOb 1 1 0), (2, xOb 2 0 1)] [(1, xRw 2), (2, xRw 0)] 2, 0) := by rfl
theorem sorted12 : ([1, 2] : List Int).mergeSort (fun x y => decide (x ≤ y)) = [1, 2] := List.mergeSort_of_pairwise (by decide)
theorem sort0 : ([] : List Int).mergeSort (fun x y => decide (x ≤ y)) = [] := List.mergeSort_of_pairwise (by decide)
theorem x4a : allH (xH [(1, xOb 1 1 0), (2, xOb 2 0 1)] [(1, xRw 2), (2, xRw 0)] 2) = [1, 2] := sorted12
theorem x5 : dropH (xH [(1, xOb 1 1 0), (2, xOb 2 0 1)] [(1, xRw 2), (2, xRw 0)] 2) 1 = (xH [] [] 2, 0) := by
  show (relH (xH [(2, xOb 2 0 1)] [(2, xRw 0)] 2) [2], (0 : Int)) = _
  rw [relH_free (o := xOb 2 0 1) [] (by decide) rfl rfl]
  show (relH (xH [] [] 2) [], (0 : Int)) = _
  rw [relH_nil]
theorem x5a (n : Nat) : allH (xH [] [] n) = [] := sort0
theorem x6 : makeH (xH [] [] 2) 4 0 [true] = (xH [(3, xOb 3 1 0)] [(3, xRw 0)] 3, 3, 0) := by rfl
theorem x7 : setH (xH [(3, xOb 3 1 0)] [(3, xRw 0)] 3) 3 0 ⟨0, 3⟩ = (xH [(3, xOb 3 1 1)] [(3, xRw 3)] 3, 0) := by
  show (relH (xH [(3, xOb 3 1 1)] [(3, xRw 3)] 3) [0], (0 : Int)) = _
  rw [relH_zero, relH_nil]
theorem x8 : dropH (xH [(3, xOb 3 1 1)] [(3, xRw 3)] 3) 3 = (xH [(3, xOb 3 0 1)] [(3, xRw 3)] 3, 0) := by rfl
theorem x8a : countH (xH [(3, xOb 3 0 1)] [(3, xRw 3)] 3) 3 = 1 := by rfl
theorem x9 : clearH (xH [(3, xOb 3 0 1)] [(3, xRw 3)] 3) 3 = (xH [] [] 3, 0) := by
  show (relH (xH [(3, xOb 3 0 1)] [(3, xRw 0)] 3) [3], (0 : Int)) = _
  rw [relH_free (o := xOb 3 0 1) [] (by decide) rfl rfl]
  show (relH (xH [] [] 3) [], (0 : Int)) = _
  rw [relH_nil]
end Go.Proofs.Ytodfpclekihbhaa
