/- Contracts of the reference: alive, Procs. -/
import Derived.Test.YtnbjknjnpfmklaaP35
namespace Go.Proofs.Ytnbjknjnpfmklaa
open Go.RowKit

theorem aliveP_len (P : List Pr) : aliveP P = (aliveL P).length := rfl
set_option maxHeartbeats 2000000 in
theorem ralive_calls (T : Tb) (m : Nat) (p : RA) (c : Int) (w : World) (h : RefAt w m p c T) (hn : T.P.length ≤ 100000) :
    Calls Try.prog 58 #[.pointer (some ⟨m, 0, none⟩)] w fun e w' => e = .returned (.int .i64 (aliveP T.P : Int)) ∧ Below w.heap.size w w' := by
  have HT := Lib.hid h
  clear h
  go_enter Try.func58, Try.ntmps58
  go_wp2
  go_loopw [3, 4] (fun l i wr => ∃ j : Nat, j ≤ T.P.length ∧ i = .int .i64 j ∧ l = .int .i64 ((aliveL (T.P.take j)).length : Int) ∧ Hid (Below w.heap.size w wr)) (fun _ i _ => T.P.length - (intOf i).toNat)
  case atStart => exact ⟨0, by omega, rfl, rfl, Lib.hid (Below.refl _ _)⟩
  case round =>
    obtain ⟨j, hj, rfl, rfl, hB⟩ := hrel
    have HTr := Lib.hid (HT.out.below hB.out)
    obtain ⟨c0, c1, c2, c3, c4, c5, c6, c7, hf⟩ := HTr.out.cells
    by_cases hlt : j < T.P.length
    · obtain ⟨bl, hA, hbl, hbm, _, hfb, p0, p1, p2, p3, p4⟩ := HTr.out.pcells j hlt
      rw [hA] at c7
      have HSN := Lib.hid (aliveL_snoc T.P j hlt)
      have hL1 : (aliveL (T.P.take j)).length ≤ 100000 := by
        have h1 : (aliveL (T.P.take j)).length ≤ (T.P.take j).length := List.length_filter_le _ _
        have h2 : (T.P.take j).length ≤ j := by rw [List.length_take]; omega
        omega
      have j0 : (0 : Int) ≤ (j : Int) := by omega
      have j1 : (j : Int) < (T.P.length : Int) := by omega
      obtain ⟨n2, hn2⟩ : ∃ n2, n2 = (aliveL (T.P.take (j + 1))).length := ⟨_, rfl⟩
      have hn3 : n2 = (aliveL (T.P.take j)).length + if T.P[j].state = 6 then 0 else 1 := by rw [hn2, HSN.out, List.length_append]; split <;> rfl
      have HN2 := Lib.hid hn2
      clear hn2 hA p0 p1 p3 p4 HSN
      generalize (aliveL (T.P.take j)).length = n1 at *
      generalize T.P[j].state = st at *
      by_cases h6 : st = 6
      · rw [if_pos h6] at hn3
        subst h6
        go_wp2
        go_roundw
        case rel => exact ⟨j + 1, by omega, by go_num, by rw [← HN2.out, hn3]; rfl, hB⟩
        case measure => simp [intOf]; omega
      · have h7 : (st != 6) = true := by simpa using h6
        rw [if_neg h6] at hn3
        go_wp2
        go_roundw
        case rel => exact ⟨j + 1, by omega, by go_num, by rw [← HN2.out, hn3]; go_num, hB⟩
        case measure => simp [intOf]; omega
    · obtain rfl : j = T.P.length := by omega
      go_wp2
      go_ret
      rw [List.take_length]
      exact ⟨rfl, hB.out⟩

set_option maxHeartbeats 2000000 in
theorem rprocs_calls (T : Tb) (m : Nat) (p : RA) (c : Int) (w : World) (h : RefAt w m p c T) (hn : T.P.length ≤ 100000) :
    Calls Try.prog 50 #[.pointer (some ⟨m, 0, none⟩)] w fun e w' => ∃ A C, e = .returned (.slice A (aliveL T.P).length C) ∧ w'.ownsRow w.heap.size 45 5 (.slice A (aliveL T.P).length C) (aliveL T.P).length (flat (aliveL T.P)) ∧ Below w.heap.size w w' := by
  have HT := Lib.hid h
  clear h
  go_enter Try.func50, Try.ntmps50
  go_wp2
  go_loopw [3, 4] (fun l i wr => ∃ j : Nat, j ≤ T.P.length ∧ i = .int .i64 j ∧ ∃ A3 C3, l = .slice A3 (aliveL (T.P.take j)).length C3 ∧ Hid (wr.ownsRow w.heap.size 45 5 (.slice A3 (aliveL (T.P.take j)).length C3) (aliveL (T.P.take j)).length (flat (aliveL (T.P.take j)))) ∧ Hid (Below w.heap.size w wr)) (fun _ i _ => T.P.length - (intOf i).toNat)
  case atStart => exact ⟨0, by omega, rfl, none, 0, rfl, Lib.hid (World.ownsRow_nil _ _ _ _), Lib.hid (Below.refl _ _)⟩
  case round =>
    obtain ⟨j, hj, rfl, A3, C3, rfl, ho3, hB⟩ := hrel
    have HTr := Lib.hid (HT.out.below hB.out)
    obtain ⟨c0, c1, c2, c3, c4, c5, c6, c7, hf⟩ := HTr.out.cells
    by_cases hlt : j < T.P.length
    · obtain ⟨bl, hA, hbl, hbm, _, hfb, p0, p1, p2, p3, p4⟩ := HTr.out.pcells j hlt
      rw [hA] at c7
      have HSN := Lib.hid (aliveL_snoc T.P j hlt)
      have hL1 : (aliveL (T.P.take j)).length ≤ 100000 := by
        have h1 : (aliveL (T.P.take j)).length ≤ (T.P.take j).length := List.length_filter_le _ _
        have h2 : (T.P.take j).length ≤ j := by rw [List.length_take]; omega
        omega
      have j0 : (0 : Int) ≤ (j : Int) := by omega
      have j1 : (j : Int) < (T.P.length : Int) := by omega
      obtain ⟨L2, hL2⟩ : ∃ L2, L2 = aliveL (T.P.take (j + 1)) := ⟨_, rfl⟩
      rw [← hL2] at HSN
      have HL2 := Lib.hid hL2
      clear hL2 hA
      generalize aliveL (T.P.take j) = L1 at *
      generalize T.P[j] = q at *
      obtain ⟨q0, q1, q2, q3, q4⟩ := q
      simp only at p0 p1 p2 p3 p4 HSN
      by_cases h6 : q2 = 6
      · subst h6
        have hE : L2 = L1 := by rw [HSN.out]; simp
        subst hE
        go_wp2
        go_roundw
        case rel =>
          refine ⟨j + 1, by omega, by go_num, ?_⟩
          rw [← HL2.out]
          exact ⟨A3, C3, rfl, ho3, hB⟩
        case measure => simp [intOf]; omega
      · have h7 : (q2 != 6) = true := by simpa using h6
        have HE : Hid (L2 = L1 ++ [⟨q0, q1, q2, q3, q4⟩]) := Lib.hid (by rw [HSN.out, if_neg h6])
        go_wp2_with (at_builtin; refine app_pr rfl _ _ rfl w.heap.size A3 C3 L1 ⟨q0, q1, q2, q3, q4⟩ rfl ho3.out rfl rfl hL1 hB.out.size ?_; intro g5 C5 w5 ho5 hg5 hl5 hb5; have HO5 := Lib.hid ho5.out; have HB5 := Lib.hid (hB.out.trans hb5.out); clear ho5 hg5 hl5 hb5)
        go_roundw
        case rel =>
          refine ⟨j + 1, by omega, by go_num, ?_⟩
          rw [← HL2.out, HE.out]
          exact ⟨some ⟨g5, 0, none⟩, C5, by simp, HO5, HB5⟩
        case measure => simp [intOf]; omega
    · obtain rfl : j = T.P.length := by omega
      go_wp2
      go_ret
      rw [List.take_length] at *
      exact ⟨A3, C3, rfl, ho3.out, hB.out⟩
end Go.Proofs.Ytnbjknjnpfmklaa
