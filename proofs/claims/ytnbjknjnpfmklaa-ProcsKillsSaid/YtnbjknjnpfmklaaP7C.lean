/- Contract: without, part c. -/
import Derived.Test.YtnbjknjnpfmklaaP7
namespace Go.Proofs.Ytnbjknjnpfmklaa
open Go.RowKit

set_option maxRecDepth 100000 in
set_option maxHeartbeats 4000000 in
theorem without_c (zs : List Int) (m i : Nat) (hlen : zs.length = m + 1) (hi : i ≤ m) (b o C : Nat) (w : World) (hm : m ≤ 100000) (hC : m + 1 ≤ C)
    (hr : ∀ j, j < zs.length → w.cell? ⟨b, o + j, none⟩ = some (.int .i64 (zs.getD j 0))) (g5 : i < m) (hb : b < w.heap.size) :
    Calls Try.prog 33 #[.slice (some ⟨b, o, none⟩) (m + 1) C, .int .i64 (i : Int)] w fun e w' => e = .returned (.slice (some ⟨w.heap.size, 0, none⟩) m m) ∧ w'.ownsRow w.heap.size 3 1 (.slice (some ⟨w.heap.size, 0, none⟩) m m) m (ints (zs.eraseIdx i)) ∧ Below w.heap.size w w' := by
  have hmk := run_mk w m hm
  have hB0 : Below w.heap.size w (w.alloc (.cells (madeCells #[.int .i64 0] m) 3)) := (Below.refl _ w).alloc (Nat.le_refl _) _
  have HB0 := Lib.hid hB0
  have HG0 := Lib.hid (heap_alloc_new w (.cells (madeCells #[.int .i64 0] m) 3))
  obtain ⟨Z, hZ⟩ : ∃ Z : List Value, Z = (madeCells #[.int .i64 0] m).toList := ⟨_, rfl⟩
  have hZl : Z.length = m := by rw [hZ]; simp [madeCells]
  have HZ : Hid (madeCells #[.int .i64 0] m = Z.toArray) := Lib.hid (by rw [hZ])
  rw [HZ.out] at HG0 HB0 hmk
  obtain ⟨X1, hX1⟩ : ∃ X1, X1 = ints (zs.take i) := ⟨_, rfl⟩
  obtain ⟨X2, hX2⟩ : ∃ X2, X2 = ints (zs.drop (i + 1)) := ⟨_, rfl⟩
  have l1 : X1.length = i := by rw [hX1]; simp [ints]; omega
  have l2 : X2.length = m - i := by rw [hX2]; simp [ints]; omega
  have HC1 : Hid (∀ W, Below w.heap.size w W → ∀ j v, X1[j]? = some v → W.cell? ((⟨b, o, none⟩ : Addr).add j) = some v) := Lib.hid fun W hW j v hv => by
    have hj : j < i := by have := (List.getElem?_eq_some_iff.1 hv).1; omega
    rw [add_none, hW.cell (p := ⟨b, o + j, none⟩) hb, hr j (by omega), ← hv, hX1, getD_ints _ j (by simp; omega)]
    simp [List.getD, List.getElem?_take_of_lt hj]
  have HC2 : Hid (∀ W, Below w.heap.size w W → ∀ j v, X2[j]? = some v → W.cell? ((⟨b, o + (i + 1), none⟩ : Addr).add j) = some v) := Lib.hid fun W hW j v hv => by
    have hj : j < m - i := by have := (List.getElem?_eq_some_iff.1 hv).1; omega
    rw [add_none, hW.cell (p := ⟨b, o + (i + 1) + j, none⟩) hb, Nat.add_assoc o (i + 1) j, hr (i + 1 + j) (by omega), ← hv, hX2, getD_ints _ j (by simp; omega)]
    simp [List.getD]
  have HO1 : Hid (∀ v ∈ X1, v.oneCell' = true) := Lib.hid fun v hv => by
    rw [hX1] at hv; obtain ⟨z, _, rfl⟩ := List.mem_map.1 hv; rfl
  have HO2 : Hid (∀ v ∈ X2, v.oneCell' = true) := Lib.hid fun v hv => by
    rw [hX2] at hv; obtain ⟨z, _, rfl⟩ := List.mem_map.1 hv; rfl
  have HE : Hid (splice (splice Z 0 X1) i X2 = ints (zs.eraseIdx i)) := Lib.hid (by
    have h1 : splice Z 0 X1 = X1 ++ Z.drop i := by simp [splice, l1]
    rw [h1]
    have h2 : splice (X1 ++ Z.drop i) i X2 = X1 ++ X2 := by
      unfold splice
      rw [List.take_left' l1, List.drop_of_length_le (by simp; omega)]
      simp
    rw [h2, hX1, hX2, List.eraseIdx_eq_take_drop_succ]
    simp [ints])
  clear hZ hX1 hX2 hr hB0
  have g0 : (0 : Int) ≤ (i : Int) := by omega
  have g1 : (i : Int) ≤ (m : Int) := by omega
  have hw : IntKind.i64.wrap ((i : Int) + 1) = (i : Int) + 1 := by rw [IntKind.wrap_i64]; omega
  have hv : ((i : Int) + 1).toNat = i + 1 := by omega
  have g2 : (0 : Int) ≤ (i : Int) + 1 := by omega
  have g3 : (i : Int) + 1 ≤ (m : Int) + 1 := by omega
  have g4 : (m : Int) + 1 ≤ (C : Int) := by omega
  have HL2 : Hid (i + X2.length ≤ (splice Z 0 X1).length) := Lib.hid (by rw [length_splice _ _ _ (by omega), l2]; omega)
  have g6 : i + 1 < C := by omega
  have g7 : (i : Int) < (m : Int) := by omega
  have g8 : ¬ i = m := by omega
  have HN2 : Hid (X2.length = Nat.min (m - i) (m - i)) := Lib.hid (by rw [l2]; simp)
  go_enter Try.func33, Try.ntmps33
  go_wp2_with ((with_reducible show wpList _ _ _ _ _ _); refine wpList_copy_splice (o := ⟨some 14, _, _, _, _, _⟩) rfl _ _ 22 22 rfl 3 Try.underlying22 size3 _ _ _ _ _ _ rfl rfl w.heap.size 0 Z 3 HG0.out X1 (by rw [l1]; exact (Nat.min_eq_left hi).symm) (fun _ => ⟨rfl, _, rfl, HC1.out _ HB0.out⟩) (by omega) HO1.out w.heap.size w HB0.out (Nat.le_refl _) ?_; intro w2 hg2 hb2; have HG2 := Lib.hid hg2.out; have HB2 := Lib.hid hb2; clear hg2 hb2)
  go_still_tail 7, (by kernel_rfl)
  change wpList _ _ _ _ _ w2.drew
  rw [if_neg (show ¬ m = i by omega), if_neg (show ¬ C = i + 1 by omega)]
  refine wpList_copy_splice (o := ⟨some 22, _, _, _, _, _⟩) rfl _ _ 22 22 rfl 3 Try.underlying22 size3 _ _ _ _ _ _ rfl rfl w.heap.size i (splice Z 0 X1) 3 HG2.out X2 (by rw [l2]; first | rfl | simp | (simp; omega)) (fun _ => ⟨rfl, _, rfl, HC2.out _ HB2.out.drew⟩) HL2.out HO2.out w.heap.size w HB2.out.drew (Nat.le_refl _) ?_
  intro w3 hg3 hb3
  have HG3 := Lib.hid hg3.out
  have HB3 := Lib.hid hb3
  clear hg3 hb3
  go_wp2
  go_ret
  have h3 := HG3.out
  rw [HE.out] at h3
  exact ⟨rfl, own_lit h3 (by simp [ints, List.length_eraseIdx, hlen, show i < m + 1 by omega]) (by unfold maxLen; omega), HB3.out⟩
end Go.Proofs.Ytnbjknjnpfmklaa
