/- Contracts of the reference: without, Turn. -/
import Derived.Test.YtnbjknjnpfmklaaP29
namespace Go.Proofs.Ytnbjknjnpfmklaa
open Go.RowKit

def dropF (r : List Int) (x : Int) : List Int := r.filter fun y => decide (y ≠ x)
theorem dropF_snoc (r : List Int) (x : Int) (j : Nat) (hj : j < r.length) : dropF (r.take (j + 1)) x = dropF (r.take j) x ++ if r.getD j 0 = x then [] else [r.getD j 0] := by
  unfold dropF
  rw [List.take_add_one, List.getElem?_eq_getElem hj, List.filter_append, show r.getD j 0 = r[j] by simp [List.getD, List.getElem?_eq_getElem hj]]
  congr 1
  by_cases h : r[j] = x <;> simp [h]
theorem dropF_len (r : List Int) (x : Int) : (dropF r x).length ≤ r.length := List.length_filter_le _ _
theorem dropF_eq (r : List Int) (x : Int) (h : r.Nodup) : dropI r x = dropF r x := dropI_filter r x h

set_option maxHeartbeats 2000000 in
theorem rwithout_calls (T : Tb) (m : Nat) (p : RA) (c : Int) (x : Int) (w : World) (h : RefAt w m p c T) (hl : T.ready.length ≤ 100000) :
    Calls Try.prog 59 #[.pointer (some ⟨m, 0, none⟩), .int .i64 x] w fun e w' => ∃ A C, e = .returned (.slice A (dropF T.ready x).length C) ∧ w'.ownsRow w.heap.size 3 1 (.slice A (dropF T.ready x).length C) (dropF T.ready x).length (ints (dropF T.ready x)) ∧ Below w.heap.size w w' := by
  have HT := Lib.hid h
  obtain ⟨c0, c1, c2, c3, c4, c5, c6, c7, hf⟩ := h.cells
  clear h
  go_enter Try.func59, Try.ntmps59
  go_wp2
  go_loopw [5, 6] (fun l i wr => ∃ j : Nat, j ≤ T.ready.length ∧ i = .int .i64 j ∧ ∃ A3 C3, l = .slice A3 (dropF (T.ready.take j) x).length C3 ∧ Hid (wr.ownsRow w.heap.size 3 1 (.slice A3 (dropF (T.ready.take j) x).length C3) (dropF (T.ready.take j) x).length (ints (dropF (T.ready.take j) x))) ∧ Hid (Below w.heap.size w wr)) (fun _ i _ => T.ready.length - (intOf i).toNat)
  case atStart => exact ⟨0, by omega, rfl, none, 0, rfl, Lib.hid (World.ownsRow_nil _ _ _ _), Lib.hid (Below.refl _ _)⟩
  case round =>
    obtain ⟨j, hj, rfl, A3, C3, rfl, ho3, hB⟩ := hrel
    have HTr := Lib.hid (HT.out.below hB.out)
    obtain ⟨c0, c1, c2, c3, c4, c5, c6, c7, hf⟩ := HTr.out.cells
    by_cases hlt : j < T.ready.length
    · obtain ⟨g, hA, _, hg, hcap, p0⟩ := own_cell HTr.out.lst j hlt
      rw [ints_get _ j hlt] at p0
      rw [hA] at c6
      have HSN := Lib.hid (dropF_snoc T.ready x j hlt)
      have hL1 : (dropF (T.ready.take j) x).length ≤ 100000 := by
        have h1 := dropF_len (T.ready.take j) x
        have h2 : (T.ready.take j).length ≤ j := by rw [List.length_take]; omega
        omega
      have j0 : (0 : Int) ≤ (j : Int) := by omega
      have j1 : (j : Int) < (T.ready.length : Int) := by omega
      obtain ⟨L2, hL2⟩ : ∃ L2, L2 = dropF (T.ready.take (j + 1)) x := ⟨_, rfl⟩
      rw [← hL2] at HSN
      have HL2 := Lib.hid hL2
      clear hL2 hA hcap
      generalize dropF (T.ready.take j) x = L1 at *
      generalize T.ready.getD j 0 = v at *
      by_cases h6 : v = x
      · subst h6
        have hE : L2 = L1 := by rw [HSN.out]; simp
        subst hE
        go_wp2
        go_roundw
        case rel =>
          refine ⟨j + 1, by omega, by go_num, ?_⟩
          rw [← HL2.out]
          exact ⟨A3, C3, rfl, ho3, hB⟩
        case measure => simp [intOf]; omega
      · have h7 : (v != x) = true := by simpa using h6
        have HE : Hid (L2 = L1 ++ [v]) := Lib.hid (by rw [HSN.out, if_neg h6])
        go_wp2_with (at_builtin; refine app_wB rfl _ _ rfl w.heap.size A3 C3 L1 v rfl (ho3.out.alloc _) _ rfl (by simp) hL1 (Nat.le_trans hB.out.size (by simp)) ?_; intro g5 C5 w5 ho5 hg5 hl5; have HO5 := Lib.hid ho5.out; have HG5 := Lib.hid hg5.out; have HL5 := Lib.hid hl5.out; clear ho5 hg5 hl5)
        go_roundw
        case rel =>
          refine ⟨j + 1, by omega, by go_num, ?_⟩
          rw [← HL2.out, HE.out]
          refine ⟨some ⟨g5, 0, none⟩, C5, by simp, by simpa using HO5, Lib.hid ((hB.out.alloc hB.out.size _).grown HG5.out (by simp; have := hB.out.size; omega) fun k hk => (ho3.out.lt k hk).1)⟩
        case measure => simp [intOf]; omega
    · obtain rfl : j = T.ready.length := by omega
      go_wp2
      go_ret
      rw [List.take_length] at *
      exact ⟨A3, C3, rfl, ho3.out, hB.out⟩
end Go.Proofs.Ytnbjknjnpfmklaa
