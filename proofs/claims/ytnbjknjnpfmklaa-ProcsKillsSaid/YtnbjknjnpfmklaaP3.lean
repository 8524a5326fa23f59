/- Contracts: Choose, Used, Ticks, Current, Left, over. -/
import Derived.Test.YtnbjknjnpfmklaaP2
namespace Go.Proofs.Ytnbjknjnpfmklaa
open Go.RowKit

theorem tmod_lo (x n : Int) (h : 2 ≤ n) : -n < x.tmod n := by
  have h1 := Int.lt_tmod_of_pos x (show 0 < n by omega)
  omega
theorem tmod_hi (x n : Int) (h : 2 ≤ n) : x.tmod n < n := Int.tmod_lt_of_pos x (by omega)

set_option maxHeartbeats 1000000 in
theorem choose_calls (T : Tb) (tb : Nat) (p : TA) (n : Int) (w : World) (h : TabAt w tb p T) (hn : n ≤ 9223372036854775807) (hs : T.s.length ≤ 100000) :
    Calls Try.prog 11 #[.pointer (some ⟨tb, 0, none⟩), .int .i64 n] w fun e w' => e = .returned (.int .i64 (chooseI T n)) ∧ Nx w tb p (chooseT T n) w' := by
  have HT := Lib.hid h
  obtain ⟨c0, c1, c2, c3, c4, c5, c6, c7, c8, hf⟩ := h.cells
  by_cases h1 : n < 2
  · rw [show chooseI T n = 0 from if_pos (.inl h1), show chooseT T n = T from if_pos (.inl h1)]
    clear h
    go_enter Try.func11, Try.ntmps11
    go_wp2
    go_quiet (fail)
    go_wp2
    go_ret
    exact ⟨rfl, Nx.same (HT.out.below ((Below.refl _ _).dn _)) ((Mut.refl _ _).drewN _)⟩
  · by_cases h2 : T.s.length ≤ T.used
    · rw [show chooseI T n = 0 from if_pos (.inr h2), show chooseT T n = T from if_pos (.inr h2)]
      have h3 : decide (n < 2) = false := decide_eq_false h1
      have h4 : (T.s.length : Int) ≤ (T.used : Int) := by omega
      clear h
      go_enter Try.func11, Try.ntmps11
      go_wp2
      go_quiet (fail)
      go_wp2
      go_ret
      exact ⟨rfl, Nx.same (HT.out.below ((Below.refl _ _).dn _)) ((Mut.refl _ _).drewN _)⟩
    · have hlt : T.used < T.s.length := by omega
      have e1 : chooseI T n = if (T.s.getD T.used 0).tmod n < 0 then (T.s.getD T.used 0).tmod n + n else (T.s.getD T.used 0).tmod n := if_neg (by rintro (h | h); exact h1 h; exact h2 h)
      have e2 : chooseT T n = { T with used := T.used + 1 } := if_neg (by rintro (h | h); exact h1 h; exact h2 h)
      rw [e1, e2]
      obtain ⟨g, o, hA, hg, hc⟩ := h.scr T.used hlt
      have HA := Lib.hid hA
      rw [hA] at c1
      clear e1 e2 hA
      have h3 : decide (n < 2) = false := decide_eq_false h1
      have h4 : decide ((T.s.length : Int) ≤ (T.used : Int)) = false := decide_eq_false (by omega)
      have h5 : (0 : Int) ≤ (T.used : Int) := by omega
      have h6 : (T.used : Int) < (T.s.length : Int) := by omega
      have b1 := tmod_lo (T.s.getD T.used 0) n (by omega)
      have b2 := tmod_hi (T.s.getD T.used 0) n (by omega)
      have h7 : ¬ n = 0 := by omega
      have HF : Hid (∀ W, Below w.heap.size w W → Nx w tb p { T with used := T.used + 1 } (W.setCell ⟨tb, 2, none⟩ (.int .i64 ((T.used : Int) + 1)))) := Lib.hid fun W hW =>
        Nx.same ((HT.out.below hW).upd 2 _ _ (by unfold tabC; simp) rfl rfl rfl) ((Mut.of_below hW).then (Mut.setCell _ _ _ _ (.inl rfl)))
      generalize T.s.getD T.used 0 = x at *
      clear h
      go_enter Try.func11, Try.ntmps11
      go_wp2
      go_quiet (fail)
      go_wp2
      go_quiet (fail)
      go_wp2
      all_goals go_ret
      all_goals exact ⟨rfl, HF.out _ ((Below.refl _ _).dn _)⟩

theorem used_calls (T : Tb) (tb : Nat) (p : TA) (w : World) (h : TabAt w tb p T) : Calls Try.prog 12 #[.pointer (some ⟨tb, 0, none⟩)] w fun e w' => e = .returned (.int .i64 (T.used : Int)) ∧ w = w' := by
  obtain ⟨c0, c1, c2, c3, c4, c5, c6, c7, c8, hf⟩ := h.cells
  clear h
  go_enter Try.func12, Try.ntmps12
  go_wp2
  go_ret
  exact ⟨rfl, rfl⟩
theorem ticks_calls (T : Tb) (tb : Nat) (p : TA) (w : World) (h : TabAt w tb p T) : Calls Try.prog 21 #[.pointer (some ⟨tb, 0, none⟩)] w fun e w' => e = .returned (.int .i64 T.ticks) ∧ w = w' := by
  obtain ⟨c0, c1, c2, c3, c4, c5, c6, c7, c8, hf⟩ := h.cells
  clear h
  go_enter Try.func21, Try.ntmps21
  go_wp2
  go_ret
  exact ⟨rfl, rfl⟩
theorem current_calls (T : Tb) (tb : Nat) (p : TA) (w : World) (h : TabAt w tb p T) : Calls Try.prog 17 #[.pointer (some ⟨tb, 0, none⟩)] w fun e w' => e = .returned (.int .i64 T.cur) ∧ w = w' := by
  obtain ⟨c0, c1, c2, c3, c4, c5, c6, c7, c8, hf⟩ := h.cells
  clear h
  go_enter Try.func17, Try.ntmps17
  go_wp2
  go_ret
  exact ⟨rfl, rfl⟩
/-- Left. -/
def leftI (T : Tb) : Int := if T.cur = 0 then 0 else T.left
theorem left_calls (T : Tb) (tb : Nat) (p : TA) (w : World) (h : TabAt w tb p T) : Calls Try.prog 22 #[.pointer (some ⟨tb, 0, none⟩)] w fun e w' => e = .returned (.int .i64 (leftI T)) ∧ Below w.heap.size w w' := by
  obtain ⟨c0, c1, c2, c3, c4, c5, c6, c7, c8, hf⟩ := h.cells
  clear h
  unfold leftI
  by_cases h1 : T.cur = 0
  · rw [if_pos h1]
    rw [h1] at c6
    go_enter Try.func22, Try.ntmps22
    go_wp2
    all_goals go_ret
    all_goals exact ⟨rfl, Below.refl _ _⟩
  · rw [if_neg h1]
    have h2 : (T.cur == 0) = false := by simpa using h1
    go_enter Try.func22, Try.ntmps22
    go_wp2
    all_goals go_ret
    all_goals exact ⟨rfl, Below.refl _ _⟩
def overT (T : Tb) : Tb := { T with cur := 0, left := 0 }
theorem over_calls (T : Tb) (tb : Nat) (p : TA) (w : World) (h : TabAt w tb p T) : Calls Try.prog 35 #[.pointer (some ⟨tb, 0, none⟩)] w fun e w' => e = .returned (.tuple #[]) ∧ TabAt w' tb p (overT T) ∧ Mut (· = tb) w w' := by
  have HT := Lib.hid h
  obtain ⟨c0, c1, c2, c3, c4, c5, c6, c7, c8, hf⟩ := h.cells
  clear h
  go_enter Try.func35, Try.ntmps35
  go_wp2
  go_end0
  exact ⟨rfl, ((HT.out.upd 6 (.int .i64 0) { T with cur := 0 } (by unfold tabC; simp) rfl rfl rfl).upd 7 (.int .i64 0) (overT T) (by unfold tabC overT; simp) rfl rfl rfl), (Mut.setCell (S := (· = tb)) _ _ _ _ rfl).then (Mut.setCell (S := (· = tb)) _ _ _ _ rfl)⟩
end Go.Proofs.Ytnbjknjnpfmklaa
