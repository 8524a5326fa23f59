/- Texts on the heap, merged: Q7, Q8, Q9. -/
import Derived.Test.YtodfpclekihbhaaG37
import Derived.Test.YtodfpclekihbhaaG08
/- A collector's Step. -/
namespace Go.Proofs.Ytodfpclekihbhaa
open Go.RowKit Go.Shelf

def unitM (H : Hp) (c : Cl) : Hp × Cl := if c.phase = 1 then markM H c else if c.phase = 2 then sweepM H c else (H, c)
def stepsM : Nat → Hp → Cl → Hp × Cl
  | 0, H, c => (H, c)
  | n + 1, H, c => if (unitM H c).2.phase = 0 then unitM H c else stepsM n (unitM H c).1 (unitM H c).2
/-- A collector and its heap are in order. -/
structure CI (H : Hp) (c : Cl) (N : Nat) (R : Int) : Prop where
  ok : Ok H N
  ph : c.phase = 0 ∨ c.phase = 1 ∨ c.phase = 2
  ls : c.list.length ≤ 1000
  l1 : c.phase ≠ 2 → c.list = []
  rd : 0 ≤ c.rounds ∧ c.rounds ≤ R
variable {w0 w w' wr : World} {cb hb : Nat} {K Kx : Nat → Prop} {H : Hp} {c : Cl} {N : Nat} {a : CA} {R : Int}
theorem mark_phase (H : Hp) (c : Cl) (h : c.phase = 1) : (markM H c).2.phase ≠ 0 ∧ (markM H c).2.rounds = c.rounds ∧ ((markM H c).2.phase = 1 ∧ (markM H c).2.list = c.list ∨ (markM H c).2.phase = 2 ∧ (markM H c).2.list = c.list ++ whiteL (shadeC c.colors (seenH H).2) (allH H)) := by
  unfold markM
  simp only
  split
  · exact ⟨by rw [show _ = c.phase from rfl, h]; decide, rfl, .inl ⟨h, rfl⟩⟩
  · exact ⟨by simp, rfl, .inr ⟨rfl, rfl⟩⟩
theorem mark_heap (H : Hp) (c : Cl) : (markM H c).1 = (seenH H).1 ∨ (markM H c).1 = watchH (seenH H).1 false := by
  unfold markM
  simp only
  split
  · exact .inl rfl
  · exact .inr rfl
theorem CI.mark (h : CI H c N R) (hN : N ≤ 900) (hp : c.phase = 1) : CI (markM H c).1 (markM H c).2 N R := by
  obtain ⟨h0, h1, h2⟩ := mark_phase H c hp
  have hl := h.l1 (by rw [hp]; decide)
  refine ⟨?_, ?_, ?_, fun e => ?_, by rw [h1]; exact h.rd⟩
  · rcases mark_heap H c with e | e
    · rw [e]; exact h.ok.seenOp
    · rw [e]; exact h.ok.seenOp.watch false
  · rcases h2 with e | e
    · exact .inr (.inl e.1)
    · exact .inr (.inr e.1)
  · rcases h2 with e | e
    · rw [e.2]; exact h.ls
    · rw [e.2, hl, List.nil_append]
      have h3 := all_len h.ok
      have h4 : (whiteL (shadeC c.colors (seenH H).2) (allH H)).length ≤ (allH H).length := List.length_filter_le _ _
      omega
  · rcases h2 with e2 | e2
    · rw [e2.2]; exact hl
    · exact absurd e2.1 e
theorem sweep_phase (H : Hp) (c : Cl) (h : c.phase = 2) : (c.list = [] ∧ (sweepM H c).2.phase = 0 ∧ (sweepM H c).2.list = [] ∧ (sweepM H c).2.rounds = c.rounds + 1 ∧ (sweepM H c).1 = H) ∨ (∃ r rest, c.list = r :: rest ∧ (sweepM H c).2 = { c with list := rest } ∧ ((sweepM H c).1 = H ∨ (sweepM H c).1 = (clearH H r).1)) := by
  unfold sweepM
  cases hl : c.list with
  | nil => exact .inl ⟨rfl, rfl, rfl, rfl, rfl⟩
  | cons r rest =>
    refine .inr ⟨r, rest, rfl, rfl, ?_⟩
    by_cases h : kindH H r ≠ 0 ∧ sharedC H c r = false
    · simp only [if_pos h]; exact .inr trivial
    · simp only [if_neg h]; exact .inl trivial
theorem CI.sweep (h : CI H c N R) (hp : c.phase = 2) : CI (sweepM H c).1 (sweepM H c).2 N (R + 1) ∧ ((sweepM H c).2.phase = 0 ∨ CI (sweepM H c).1 (sweepM H c).2 N R) := by
  rcases sweep_phase H c hp with ⟨_, h1, h2, h3, h4⟩ | ⟨r, rest, h1, h2, h3⟩
  · refine ⟨⟨by rw [h4]; exact h.ok, .inl h1, by rw [h2]; simp, fun _ => h2, ?_⟩, .inl h1⟩
    have := h.rd
    omega
  · have hc : ∀ R', R ≤ R' → CI (sweepM H c).1 (sweepM H c).2 N R' := fun R' hR => by
      refine ⟨?_, ?_, ?_, ?_, ?_⟩
      · rcases h3 with e | e
        · rw [e]; exact h.ok
        · rw [e]; exact h.ok.clear r
      · rw [h2]; exact h.ph
      · rw [h2]
        have := h.ls
        rw [h1, List.length_cons] at this
        show rest.length ≤ 1000
        omega
      · rw [h2]; exact fun e => absurd hp e
      · rw [h2]
        have := h.rd
        show 0 ≤ c.rounds ∧ c.rounds ≤ R'
        omega
    exact ⟨hc _ (by omega), .inr (hc _ (Int.le_refl _))⟩
theorem CI.up {R' : Int} (h : CI H c N R) (hR : R ≤ R') : CI H c N R' := ⟨h.ok, h.ph, h.ls, h.l1, h.rd.1, Int.le_trans h.rd.2 hR⟩
theorem CI.unit (h : CI H c N R) (hN : N ≤ 900) : CI (unitM H c).1 (unitM H c).2 N (R + 1) ∧ ((unitM H c).2.phase = 0 ∨ CI (unitM H c).1 (unitM H c).2 N R) := by
  unfold unitM
  by_cases h1 : c.phase = 1
  · rw [if_pos h1]
    exact ⟨(h.mark hN h1).up (by omega), .inr (h.mark hN h1)⟩
  · rw [if_neg h1]
    by_cases h2 : c.phase = 2
    · rw [if_pos h2]; exact h.sweep h2
    · rw [if_neg h2]; exact ⟨h.up (by omega), .inr h⟩
theorem CI.steps : ∀ (n : Nat) {H : Hp} {c : Cl}, CI H c N R → N ≤ 900 → CI (stepsM n H c).1 (stepsM n H c).2 N (R + 1)
  | 0, H, c, h, _ => h.up (by omega)
  | n + 1, H, c, h, hN => by
    unfold stepsM
    by_cases h0 : (unitM H c).2.phase = 0
    · rw [if_pos h0]; exact (h.unit hN).1
    · rw [if_neg h0]
      rcases (h.unit hN).2 with e | e
      · exact absurd e h0
      · exact CI.steps n e hN
/-- What the collector's cells say. -/
theorem CC.cells (h : CC w0 hb cb K H c w) : w.cell? ⟨cb, 1, none⟩ = some (.int .i64 c.phase) ∧ w.cell? ⟨cb, 5, none⟩ = some (.int .i64 c.rounds) := by
  obtain ⟨a, K', h1, _⟩ := h.ex
  exact ⟨h1.cells.2.1, h1.cells.2.2.2.2.2.1⟩
theorem CC.notnone (h : CC w0 hb cb K H c w) : Calls Try.prog 68 #[.pointer (some ⟨cb, 0, none⟩)] w fun e w' => e = .returned (.bool false) ∧ w = w' := by
  obtain ⟨a, K', h1, _⟩ := h.ex
  exact none_is h1
theorem step_neg (h : CC w0 hb cb K H c w) (n : Int) (hn : n < 0) : Calls Try.prog 21 #[.pointer (some ⟨cb, 0, none⟩), .int .i64 n] w fun e w' => e = .returned (.tuple #[.bool false, .int .i64 1]) ∧ w = w' := by
  have HN := Lib.hid h.notnone
  clear h
  go_enter Try.func21, Try.ntmps21
  go_wp2_with (go_at_call 68; refine HN.out.mono ?_; rintro e w1 ⟨rfl, rfl⟩)
  all_goals go_ret2
  all_goals exact ⟨rfl, rfl⟩
set_option maxRecDepth 100000 in
set_option maxHeartbeats 4000000 in
theorem step_calls (h : CC w0 hb cb K H c w) (hi : CI H c N R) (hN : N ≤ 900) (hR : R ≤ 900) (n : Nat) (hn : n ≤ 1000) : Calls Try.prog 21 #[.pointer (some ⟨cb, 0, none⟩), .int .i64 (n : Int)] w fun e w' => e = .returned (.tuple #[.bool (decide ((stepsM n H c).2.phase = 0)), .int .i64 0]) ∧ CPs w0 w hb cb K (stepsM n H c) w' := by
  have HC := Lib.hid h
  have HI := Lib.hid hi
  have HNN := Lib.hid h.notnone
  clear h hi
  have q0 : (0 : Int) ≤ (n : Int) := by omega
  go_enter Try.func21, Try.ntmps21
  go_wp2_with (go_at_call 68; refine HNN.out.mono ?_; rintro e w1 ⟨rfl, rfl⟩)
  go_loopw [13] (fun p wr => ∃ (j : Nat) (H' : Hp) (c' : Cl), j ≤ n ∧ p = .int .i64 j ∧ Hid (stepsM (n - j) H' c' = stepsM n H c) ∧ Hid (CC w0 hb cb K H' c' wr ∧ Mut (Off w0 K) w wr ∧ CI H' c' N R)) (fun i _ => n - (intOf i).toNat)
  case atStart => exact ⟨0, H, c, Nat.zero_le _, rfl, Lib.hid rfl, Lib.hid ⟨HC.out, Mut.refl _ _, HI.out⟩⟩
  case round =>
    obtain ⟨j, H', c', hj, rfl, HE, HR⟩ := hrel
    obtain ⟨d1, d5⟩ := HR.out.1.cells
    by_cases hlt : j < n
    · have HE2 : Hid ((if (unitM H' c').2.phase = 0 then unitM H' c' else stepsM (n - (j + 1)) (unitM H' c').1 (unitM H' c').2) = stepsM n H c) := Lib.hid (by rw [← HE.out, show n - j = n - (j + 1) + 1 by omega]; rfl)
      have k1 : (j : Int) < (n : Int) := by omega
      obtain ⟨X, hX⟩ : ∃ X, X = unitM H' c' := ⟨_, rfl⟩
      rw [← hX] at HE2
      have HCI : Hid (CI X.1 X.2 N (R + 1) ∧ (X.2.phase = 0 ∨ CI X.1 X.2 N R)) := Lib.hid (by rw [hX]; exact HR.out.2.2.unit hN)
      have HRD : Hid (0 ≤ c'.rounds ∧ c'.rounds ≤ 1000000) := Lib.hid (by have := HR.out.2.2.rd; omega)
      clear HE d5
      rcases HR.out.2.2.ph with h0 | h1 | h2
      · -- idle
        rw [h0] at d1
        have hX0 : X = (H', c') := by rw [hX]; unfold unitM; rw [if_neg (by rw [h0]; decide), if_neg (by rw [h0]; decide)]
        rw [hX0, if_pos h0] at HE2
        have HP0 := Lib.hid h0
        clear hX hX0 HCI h0
        go_wp2
        go_ret2
        rw [← HE2.out]
        exact ⟨by rw [show (H', c').2.phase = 0 from HP0.out]; rfl, HR.out.1, HR.out.2.1⟩
      · have hX1 : X = markM H' c' := by rw [hX]; unfold unitM; rw [if_pos h1]
        have hm : Calls Try.prog 69 #[.pointer (some ⟨cb, 0, none⟩)] wr fun e w' => e = .returned (.tuple #[]) ∧ CPs w0 wr hb cb K X w' := by rw [hX1]; exact mark_calls HR.out.1 HR.out.2.2.ok hN h1 (by have := HR.out.2.2.ls; omega)
        have hne : X.2.phase ≠ 0 := by rw [hX1]; exact (mark_phase H' c' h1).1
        have hci : CI X.1 X.2 N R := HCI.out.2.resolve_left hne
        rw [if_neg hne] at HE2
        rw [h1] at d1
        have HM := Lib.hid hm
        have HX := Lib.hid hci
        obtain ⟨q, hq⟩ : ∃ q, q = X.2.phase := ⟨_, rfl⟩
        have hq0 : (q == 0) = false := by rw [hq]; simpa using hne
        have HQ := Lib.hid hq
        clear hX hX1 hm hne hci h1 HCI hq
        go_wp2_with (go_at_call 69; refine HM.out.mono ?_; rintro e w2 ⟨rfl, hc2⟩
                     have f1 := hc2.1.cells.1
                     rw [← HQ.out] at f1
                     have H2 := Lib.hid hc2
                     clear hc2)
        go_roundw
        case rel => exact ⟨j + 1, X.1, X.2, by omega, by go_num, HE2, Lib.hid ⟨H2.out.1, HR.out.2.1.then H2.out.2, HX.out⟩⟩
        case measure => simp [intOf]; omega
      · have hX1 : X = sweepM H' c' := by rw [hX]; unfold unitM; rw [if_neg (by rw [h2]; decide), if_pos h2]
        have hm : Calls Try.prog 70 #[.pointer (some ⟨cb, 0, none⟩)] wr fun e w' => e = .returned (.tuple #[]) ∧ CPs w0 wr hb cb K X w' := by rw [hX1]; exact sweep_calls HR.out.1 HR.out.2.2.ok hN h2 (by have := HR.out.2.2.ls; omega) HRD.out
        rw [h2] at d1
        have HM := Lib.hid hm
        obtain ⟨q, hq⟩ : ∃ q, q = X.2.phase := ⟨_, rfl⟩
        have HQ := Lib.hid hq
        by_cases hne : X.2.phase = 0
        · rw [if_pos hne] at HE2
          have hq0 : q = 0 := by rw [hq, hne]
          subst hq0
          have HNE := Lib.hid hne
          clear hX hX1 hm hne h2 HCI hq
          go_wp2_with (go_at_call 70; refine HM.out.mono ?_; rintro e w2 ⟨rfl, hc2⟩
                       have f1 := hc2.1.cells.1
                       rw [← HQ.out] at f1
                       have H2 := Lib.hid hc2
                       clear hc2)
          go_ret2
          rw [← HE2.out]
          exact ⟨by rw [HNE.out]; rfl, H2.out.1, HR.out.2.1.then H2.out.2⟩
        · have hci : CI X.1 X.2 N R := HCI.out.2.resolve_left hne
          rw [if_neg hne] at HE2
          have hq0 : (q == 0) = false := by rw [hq]; simpa using hne
          have HX := Lib.hid hci
          clear hX hX1 hm hne hci h2 HCI hq
          go_wp2_with (go_at_call 70; refine HM.out.mono ?_; rintro e w2 ⟨rfl, hc2⟩
                       have f1 := hc2.1.cells.1
                       rw [← HQ.out] at f1
                       have H2 := Lib.hid hc2
                       clear hc2)
          go_roundw
          case rel => exact ⟨j + 1, X.1, X.2, by omega, by go_num, HE2, Lib.hid ⟨H2.out.1, HR.out.2.1.then H2.out.2, HX.out⟩⟩
          case measure => simp [intOf]; omega
    · obtain rfl : j = n := by omega
      have HE3 : Hid ((H', c') = stepsM j H c) := Lib.hid (by rw [← HE.out, Nat.sub_self]; rfl)
      have HPH : Hid ((stepsM j H c).2.phase = c'.phase) := Lib.hid (by rw [← HE3.out])
      clear hlt hj d5
      generalize c'.phase = q at *
      by_cases hq : q = 0
      · subst hq
        go_wp2
        go_ret2
        exact ⟨by rw [HPH.out]; rfl, by rw [← HE3.out]; exact HR.out.1, HR.out.2.1⟩
      · have hq0 : (q == 0) = false := by simpa using hq
        have HQ := Lib.hid hq
        clear hq
        go_wp2
        go_ret2
        exact ⟨by rw [HPH.out, decide_eq_false HQ.out]; rfl, by rw [← HE3.out]; exact HR.out.1, HR.out.2.1⟩
end Go.Proofs.Ytodfpclekihbhaa

/- The collector of the examples, step by step. -/
namespace Go.Proofs.Ytodfpclekihbhaa
open Go.RowKit Go.Shelf

def A6 : Hp := xH [(1, xOb 1 0 1), (2, xOb 2 0 1)] [(1, xRw 2), (2, xRw 1)] 2
theorem y4 : setH (xH [(1, xOb 1 1 0), (2, xOb 2 1 1)] [(1, xRw 2), (2, xRw 0)] 2) 2 0 ⟨0, 1⟩ = (xH [(1, xOb 1 1 1), (2, xOb 2 1 1)] [(1, xRw 2), (2, xRw 1)] 2, 0) := by
  show (relH (xH [(1, xOb 1 1 1), (2, xOb 2 1 1)] [(1, xRw 2), (2, xRw 1)] 2) [0], (0 : Int)) = _
  rw [relH_zero, relH_nil]
theorem y5 : dropH (xH [(1, xOb 1 1 1), (2, xOb 2 1 1)] [(1, xRw 2), (2, xRw 1)] 2) 1 = (xH [(1, xOb 1 0 1), (2, xOb 2 1 1)] [(1, xRw 2), (2, xRw 1)] 2, 0) := by rfl
theorem y6 : dropH (xH [(1, xOb 1 0 1), (2, xOb 2 1 1)] [(1, xRw 2), (2, xRw 1)] 2) 2 = (A6, 0) := by rfl
theorem y6a : allH A6 = [1, 2] := sorted12
theorem y7 : greyC (watchH A6 true) (allH A6) = [] := by rw [y6a]; rfl
theorem y8a : keysS ([] : List (Int × Bool)) = [] := sort0
theorem y8 : markM (watchH A6 true) ⟨1, [], [], [], 0⟩ = (A6, ⟨2, [], [(1, true), (2, true)], [1, 2], 0⟩) := by
  have h1 : allH (watchH A6 true) = [1, 2] := sorted12
  have h2 : (seenH (watchH A6 true)).2 = [] := by
    show (keysS ([] : List (Int × Bool))).filter _ = []
    rw [y8a]; rfl
  unfold markM
  simp only
  rw [h1, h2]
  rfl
theorem y9a : (clearH A6 1).1 = xH [] [] 2 := by
  show relH (xH [(1, xOb 1 0 1), (2, xOb 2 0 1)] [(1, xRw 0), (2, xRw 1)] 2) [2] = _
  rw [relH_free (o := xOb 2 0 1) [] (by decide) rfl rfl]
  show relH (xH [(1, xOb 1 0 1)] [(1, xRw 0)] 2) [1] = _
  rw [relH_free (o := xOb 1 0 1) [] (by decide) rfl rfl]
  show relH (xH [] [] 2) [] = _
  rw [relH_nil]
theorem y9 : sweepM A6 ⟨2, [], [(1, true), (2, true)], [1, 2], 0⟩ = (xH [] [] 2, ⟨2, [], [(1, true), (2, true)], [2], 0⟩) := by
  show (if kindH A6 1 ≠ 0 ∧ sharedC A6 ⟨2, [], [(1, true), (2, true)], [1, 2], 0⟩ 1 = false then (clearH A6 1).1 else A6, _) = _
  rw [if_pos ⟨by decide, rfl⟩, y9a]
theorem y10 : sweepM (xH [] [] 2) ⟨2, [], [(1, true), (2, true)], [2], 0⟩ = (xH [] [] 2, ⟨2, [], [(1, true), (2, true)], [], 0⟩) := by rfl
theorem y11 : stepsM 3 (watchH A6 true) ⟨1, [], [], [], 0⟩ = (xH [] [] 2, ⟨2, [], [(1, true), (2, true)], [], 0⟩) := by
  have h1 : unitM (watchH A6 true) ⟨1, [], [], [], 0⟩ = (A6, ⟨2, [], [(1, true), (2, true)], [1, 2], 0⟩) := y8
  have h2 : unitM A6 ⟨2, [], [(1, true), (2, true)], [1, 2], 0⟩ = (xH [] [] 2, ⟨2, [], [(1, true), (2, true)], [2], 0⟩) := y9
  have h3 : unitM (xH [] [] 2) ⟨2, [], [(1, true), (2, true)], [2], 0⟩ = (xH [] [] 2, ⟨2, [], [(1, true), (2, true)], [], 0⟩) := y10
  unfold stepsM
  rw [h1, if_neg (by decide)]
  simp only
  unfold stepsM
  rw [h2, if_neg (by decide)]
  simp only
  unfold stepsM
  rw [h3, if_neg (by decide)]
  rfl
theorem y12 : stepsM 1 (xH [] [] 2) ⟨2, [], [(1, true), (2, true)], [], 0⟩ = (xH [] [] 2, ⟨0, [], [], [], 1⟩) := by rfl
theorem ok14 : Ok (xH [(1, xOb 1 1 1), (2, xOb 2 1 1)] [(1, xRw 2), (2, xRw 1)] 2) 2 := by have := ok3.set 2 0 ⟨0, 1⟩; rw [y4] at this; exact this
theorem ok15 : Ok (xH [(1, xOb 1 0 1), (2, xOb 2 1 1)] [(1, xRw 2), (2, xRw 1)] 2) 2 := by have := ok14.drop 1; rw [y5] at this; exact this
theorem ok16 : Ok A6 2 := by have := ok15.drop 2; rw [y6] at this; exact this
theorem ci0 : CI (watchH A6 true) ⟨1, [], [], [], 0⟩ 2 0 := ⟨ok16.watch true, .inr (.inl rfl), by simp, fun _ => rfl, by simp⟩
theorem ci1 : CI (xH [] [] 2) ⟨2, [], [(1, true), (2, true)], [], 0⟩ 2 1 := by have := ci0.steps 3 (by decide); rw [y11] at this; exact this
end Go.Proofs.Ytodfpclekihbhaa

/- The examples of the chapter of the collector hold. -/
namespace Go.Proofs.Ytodfpclekihbhaa
open Go.RowKit Go.Shelf

variable {w0 w w' wr : World} {cb hb : Nat} {K Kx : Nat → Prop} {H : Hp} {c : Cl} {N : Nat} {a : CA} {R : Int}
theorem rounds_is (h : CC w0 hb cb K H c w) : Calls Try.prog 26 #[.pointer (some ⟨cb, 0, none⟩)] w fun e w' => e = .returned (.int .i64 c.rounds) ∧ w = w' := by
  obtain ⟨d1, d5⟩ := h.cells
  clear h
  go_enter Try.func26, Try.ntmps26
  go_wp2
  all_goals go_ret
  all_goals exact ⟨rfl, rfl⟩
theorem CC.all (h : CC w0 hb cb K H c w) (ok : Ok H N) (hN : N ≤ 1000) : Calls Try.prog 40 #[.pointer (some ⟨hb, 0, none⟩)] w (RfPost w (allH H)) := h.hquiet fun _ h2 => h2.all ok hN
set_option maxRecDepth 100000 in
set_option maxHeartbeats 4000000 in
theorem awake18 (w : World) : Calls Try.prog 19 #[] w fun e w' => e = .returned (.bool true) ∧ Below w.heap.size w w' := by
  have tm1 : True := trivial
  have tm2 : True := trivial
  have ts1 : True := trivial
  have ts2 : True := trivial
  have td1 : True := trivial
  have td2 : True := trivial
  have ta1 : True := trivial
  have tb1 : True := trivial
  have tp1 : True := trivial
  go_enter Try.func19, Try.ntmps19
  go_wp2_with (first
    | (go_at_call 12; refine (new_car w).mono ?_; rintro e w0 ⟨hb, rfl, c0⟩
       have C0 : Hid (Car w hb (kk w0.heap.size (w0.heap.size + 1)) emptyH ((w0.alloc (.cells #[.bool true] 4)).alloc (.cells #[.int .i64 0, .slice (some ⟨w0.heap.size, 0, none⟩) 1 1] 32))) := Lib.hid ((c0.keep ((Below.refl _ _).alloc (Nat.le_refl _) _) (Nat.le_refl _) (by simp)).keep ((Below.refl _ _).alloc (Nat.le_refl _) _) (by simp) (by simp))
       have B0 : Hid (Bx ((w0.alloc (.cells #[.bool true] 4)).alloc (.cells #[.int .i64 0, .slice (some ⟨w0.heap.size, 0, none⟩) 1 1] 32)) w0.heap.size (w0.heap.size + 1)) := Lib.hid ⟨(heap2 w0 _ _).1, (heap2 w0 _ _).2⟩
       clear c0)
    | (go_at_call 29; have _t := tm1; refine (C0.out.make ok0 (by decide) 4 0 B0.out.rd).mono ?_; rintro e w1 ⟨he, c1⟩
       rw [x1] at he c1
       subst he
       have C1 := Lib.hid c1.1
       have b1 := B0.out.at c1
       have B1 := Lib.hid b1
       have e10 := cell_of_heap (v := .int .i64 0) b1.k2 (j := 0) rfl
       have e11 := cell_of_heap (v := .slice (some ⟨w0.heap.size, 0, none⟩) 1 1) b1.k2 (j := 1) rfl
       have l1 := lt_of_heap b1.k2
       clear c1 b1 tm1)
    | (go_at_call 29; have _t := tm2; refine (C1.out.make ok1 (by decide) 4 0 B1.out.rd).mono ?_; rintro e w2 ⟨he, c1⟩
       rw [x2] at he c1
       subst he
       have C2 := Lib.hid c1.1
       clear c1 tm2)
    | (go_at_call 32; have _t := ts1; refine (C2.out.set ok2 (by decide) 1 0 0 2).mono ?_; rintro e w3 ⟨he, c1⟩
       rw [x3] at he c1
       subst he
       have C3 := Lib.hid c1.1
       clear c1 ts1)
    | (go_at_call 32; have _t := ts2; refine (C3.out.set ok3 (by decide) 2 0 0 1).mono ?_; rintro e w4 ⟨he, c1⟩
       rw [y4] at he c1
       subst he
       have C4 := Lib.hid c1.1
       clear c1 ts2)
    | (go_at_call 35; have _t := td1; refine (C4.out.drop ok14 (by decide) 1).mono ?_; rintro e w5 ⟨he, c1⟩
       rw [y5] at he c1
       subst he
       have C5 := Lib.hid c1.1
       clear c1 td1)
    | (go_at_call 35; have _t := td2; refine (C5.out.drop ok15 (by decide) 2).mono ?_; rintro e w6 ⟨he, c1⟩
       rw [y6] at he c1
       subst he
       have C6 := Lib.hid c1.1
       clear c1 td2)
    | (go_at_call 40; have _t := ta1; refine (C6.out.all ok16 (by decide)).mono ?_; rintro e w7 ⟨LA, LC, he, ho, hb1⟩
       rw [y6a] at he
       subst he
       have C7 := Lib.hid (C6.out.below hb1)
       clear ho hb1 ta1)
    | (go_at_call 20; refine (newC_calls C7.out).mono ?_; rintro e w8 ⟨cb, rfl, hc8, hb8⟩
       have D0 := Lib.hid hc8
       clear hc8 hb8)
    | (go_at_call 22; have _t := tb1; refine (begin_ok D0.out ok16 (by decide) rfl).mono ?_; rintro e w9 ⟨rfl, hc9⟩
       rw [y7] at hc9
       have D1 := Lib.hid hc9.1
       clear hc9 tb1)
    | (go_at_call 22; refine (begin_no D1.out (by decide)).mono ?_; rintro e w10 ⟨rfl, hc10⟩
       have D2 : Hid (CC w hb cb (kk w0.heap.size (w0.heap.size + 1)) (watchH A6 true) ⟨1, [], [], [], 0⟩ w10) := Lib.hid hc10.1
       clear hc10)
    | (go_at_call 21; have _t := tp1; refine (step_calls D2.out ci0 (by decide) (by decide) 3 (by decide)).mono ?_; rintro e w11 ⟨he, hc11⟩
       rw [y11] at he hc11
       have he : e = .returned (.tuple #[.bool false, .int .i64 0]) := he
       subst he
       have D3 := Lib.hid hc11.1
       clear hc11 tp1)
    | (go_at_call 40; refine (D3.out.all ok5 (by decide)).mono ?_; rintro e w12 ⟨LA, LC, he, ho, hb1⟩
       rw [x5a] at he
       subst he
       have D4 : Hid (CC w hb cb (kk w0.heap.size (w0.heap.size + 1)) (xH [] [] 2) ⟨2, [], [(1, true), (2, true)], [], 0⟩ w12) := Lib.hid (D3.out.below hb1)
       clear ho hb1)
    | (go_at_call 21; refine (step_calls D4.out ci1 (by decide) (by decide) 1 (by decide)).mono ?_; rintro e w13 ⟨he, hc13⟩
       rw [y12] at he hc13
       have he : e = .returned (.tuple #[.bool true, .int .i64 0]) := he
       subst he
       have D5 : Hid (CC w hb cb (kk w0.heap.size (w0.heap.size + 1)) (xH [] [] 2) ⟨0, [], [], [], 1⟩ w13) := Lib.hid hc13.1
       clear hc13)
    | (go_at_call 26; refine (rounds_is D5.out).mono ?_; rintro e w14 ⟨rfl, rfl⟩))
  go_ret
  exact ⟨rfl, D5.out.bel⟩
end Go.Proofs.Ytodfpclekihbhaa

