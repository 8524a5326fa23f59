/- Contracts of the reference: Choose, Left, state, waits. -/
import Derived.Test.YtnbjknjnpfmklaaP28
namespace Go.Proofs.Ytnbjknjnpfmklaa
open Go.RowKit

set_option maxHeartbeats 1000000 in
theorem rchoose_calls (T : Tb) (m : Nat) (p : RA) (c : Int) (n : Int) (w : World) (h : RefAt w m p c T) (hn : n ≤ 9223372036854775807) (hs : T.s.length ≤ 100000) :
    Calls Try.prog 47 #[.pointer (some ⟨m, 0, none⟩), .int .i64 n] w fun e w' => e = .returned (.int .i64 (chooseI T n)) ∧ RefAt w' m p c (chooseT T n) ∧ Mut (p.fp m) w w' := by
  have HT := Lib.hid h
  obtain ⟨c0, c1, c2, c3, c4, c5, c6, c7, hf⟩ := h.cells
  by_cases h1 : n < 2
  · rw [show chooseI T n = 0 from if_pos (.inl h1), show chooseT T n = T from if_pos (.inl h1)]
    clear h
    go_enter Try.func47, Try.ntmps47
    go_wp2
    go_quiet (fail)
    go_wp2
    go_ret
    exact ⟨rfl, HT.out.below ((Below.refl _ _).dn _), (Mut.refl _ _).drewN _⟩
  · by_cases h2 : T.s.length ≤ T.used
    · rw [show chooseI T n = 0 from if_pos (.inr h2), show chooseT T n = T from if_pos (.inr h2)]
      have h3 : decide (n < 2) = false := decide_eq_false h1
      have h4 : (T.s.length : Int) ≤ (T.used : Int) := by omega
      clear h
      go_enter Try.func47, Try.ntmps47
      go_wp2
      go_quiet (fail)
      go_wp2
      go_ret
      exact ⟨rfl, HT.out.below ((Below.refl _ _).dn _), (Mut.refl _ _).drewN _⟩
    · have hlt : T.used < T.s.length := by omega
      have e1 : chooseI T n = if (T.s.getD T.used 0).tmod n < 0 then (T.s.getD T.used 0).tmod n + n else (T.s.getD T.used 0).tmod n := if_neg (by rintro (h | h); exact h1 h; exact h2 h)
      have e2 : chooseT T n = { T with used := T.used + 1 } := if_neg (by rintro (h | h); exact h1 h; exact h2 h)
      rw [e1, e2]
      obtain ⟨g, o, hA, hg, hc⟩ := h.scr T.used hlt
      have HA := Lib.hid hA
      rw [hA] at c5
      clear e1 e2 hA
      have h3 : decide (n < 2) = false := decide_eq_false h1
      have h4 : decide ((T.s.length : Int) ≤ (T.used : Int)) = false := decide_eq_false (by omega)
      have h5 : (0 : Int) ≤ (T.used : Int) := by omega
      have h6 : (T.used : Int) < (T.s.length : Int) := by omega
      have b1 := tmod_lo (T.s.getD T.used 0) n (by omega)
      have b2 := tmod_hi (T.s.getD T.used 0) n (by omega)
      have h7 : ¬ n = 0 := by omega
      have HF : Hid (∀ W, Below w.heap.size w W → RefAt (W.setCell ⟨m, 4, none⟩ (.int .i64 ((T.used : Int) + 1))) m p c { T with used := T.used + 1 } ∧ Mut (p.fp m) w (W.setCell ⟨m, 4, none⟩ (.int .i64 ((T.used : Int) + 1)))) := Lib.hid fun W hW =>
        ⟨(HT.out.below hW).upd 4 _ _ _ (by unfold refC; simp) rfl rfl rfl, (Mut.of_below hW).then (Mut.setCell _ _ _ _ (.inl rfl))⟩
      generalize T.s.getD T.used 0 = x at *
      clear h
      go_enter Try.func47, Try.ntmps47
      go_wp2
      go_quiet (fail)
      go_wp2
      go_quiet (fail)
      go_wp2
      all_goals go_ret
      all_goals exact ⟨rfl, HF.out _ ((Below.refl _ _).dn _)⟩

theorem rleft_calls (T : Tb) (m : Nat) (p : RA) (c : Int) (w : World) (h : RefAt w m p c T) (hc : Cnt c T) (h0 : 0 ≤ T.left) (h1 : T.left ≤ T.q) (h2 : T.q ≤ 9223372036854775807) :
    Calls Try.prog 51 #[.pointer (some ⟨m, 0, none⟩)] w fun e w' => e = .returned (.int .i64 (leftI T)) ∧ Below w.heap.size w w' := by
  obtain ⟨c0, c1, c2, c3, c4, c5, c6, c7, hf⟩ := h.cells
  unfold leftI
  by_cases h3 : T.cur = 0
  · rw [if_pos h3]
    rw [h3] at c1
    clear h
    go_enter Try.func51, Try.ntmps51
    go_wp2
    go_ret
    exact ⟨rfl, Below.refl _ _⟩
  · rw [if_neg h3]
    rw [hc h3] at c2
    have h4 : (T.cur == 0) = false := by simpa using h3
    have h5 : T.q - (T.q - T.left) = T.left := by omega
    clear h hc
    generalize T.left = l at *
    generalize T.q = q at *
    go_enter Try.func51, Try.ntmps51
    go_wp2
    go_quiet (fail)
    go_wp2
    go_ret
    refine ⟨?_, (Below.refl _ _).dn _⟩
    first | rfl | (rw [h5])

def stI (T : Tb) : Int := if T.cur = 0 then -1 else (prD T.P T.cur).state
theorem stI_is (T : Tb) (a : Int) (ha : 0 ≤ a) : isB T a = decide (stI T = a) := by
  unfold isB stI
  by_cases h : T.cur = 0
  · rw [if_pos h, decide_eq_false (by simpa using h), Bool.false_and, decide_eq_false (by omega)]
  · rw [if_neg h, decide_eq_true h, Bool.true_and]
theorem rstate_calls (T : Tb) (m : Nat) (p : RA) (c : Int) (w : World) (h : RefAt w m p c T) (g : Good T) (hn : T.P.length ≤ 100000) :
    Calls Try.prog 60 #[.pointer (some ⟨m, 0, none⟩)] w fun e w' => e = .returned (.int .i64 (stI T)) ∧ Below w.heap.size w w' := by
  obtain ⟨c0, c1, c2, c3, c4, c5, c6, c7, hf⟩ := h.cells
  unfold stI
  by_cases h3 : T.cur = 0
  · rw [if_pos h3]
    rw [h3] at c1
    clear h
    go_enter Try.func60, Try.ntmps60
    go_wp2
    go_ret
    exact ⟨rfl, Below.refl _ _⟩
  · rw [if_neg h3]
    obtain ⟨j, hj, e⟩ : ∃ j : Nat, j < T.P.length ∧ T.cur = (j : Int) + 1 := ⟨(T.cur - 1).toNat, by have := g.cin; omega, by have := g.cin; omega⟩
    rw [e, prD_at _ j hj]
    rw [e] at c1
    obtain ⟨b, hA, hb, hbm, hC, hfb, p0, p1, p2, p3, p4⟩ := h.pcells j hj
    rw [hA] at c7
    generalize T.P[j] = x at *
    have j0 : (0 : Int) ≤ (j : Int) := by omega
    have j1 : (j : Int) < (T.P.length : Int) := by omega
    have j2 : ((j : Int) + 1 == 0) = false := by simp; omega
    have j3 : ((j : Int) + 1) - 1 = (j : Int) := by omega
    clear h g h3 e
    go_enter Try.func60, Try.ntmps60
    go_wp2
    go_quiet (fail)
    go_wp2
    go_ret
    exact ⟨rfl, (Below.refl _ _).dn _⟩
theorem rwaits_calls (s : Int) (w : World) : Calls Try.prog 61 #[.int .i64 s] w fun e w' => e = .returned (.bool (waitsB s)) ∧ Below w.heap.size w w' := by
  unfold waitsB
  go_enter Try.func61, Try.ntmps61
  go_wp2
  all_goals go_ret
  all_goals refine ⟨?_, Below.refl _ _⟩
  all_goals first | rfl | (congr 1; congr 1; simp [*])
end Go.Proofs.Ytnbjknjnpfmklaa
