/- The invariant behind each call, in plain Lean: Good, bounds and states. -/
import Derived.Test.YtnbjknjnpfmklaaP25
namespace Go.Proofs.Ytnbjknjnpfmklaa
open Go.RowKit

theorem Good.make {T : Tb} (g : Good T) (parent : Int) : Good (makeT T parent) := by
  unfold makeT
  split
  · refine ⟨by simp, fun j h => ?_, ?_, fun y hy => ?_, fun h => ?_, ?_⟩
    · simp only
      rw [List.getElem_append]
      split
      · exact g.pid j _
      · simp at h; simp; omega
    · refine List.nodup_append.2 ⟨g.nd, by simp, fun a ha b hb e => ?_⟩
      simp at hb
      have := g.rin a ha
      omega
    · simp only [List.length_append, List.length_cons, List.length_nil]
      rcases List.mem_append.1 hy with h | h
      · have := g.rin y h; omega
      · simp at h; omega
    · rcases List.mem_append.1 h with h | h
      · exact g.cnr h
      · have := g.cin; simp at h; omega
    · have := g.cin
      simp only [List.length_append, List.length_cons, List.length_nil]
      omega
  · exact g
theorem Good.turn {T : Tb} (g : Good T) : Good (turnT T) := by
  unfold turnT
  split
  · exact g
  · split
    · exact g
    · rename_i h0 h1
      obtain ⟨r0, r1⟩ := choose_range T (T.ready.length : Int) (by omega)
      obtain ⟨s1, s2, s3, s4, s5, s6, s7, s8⟩ := chooseT_same T (T.ready.length : Int)
      generalize chooseI T (T.ready.length : Int) = c at *
      generalize chooseT T (T.ready.length : Int) = T1 at *
      obtain ⟨i, rfl⟩ : ∃ i : Nat, c = (i : Int) := ⟨c.toNat, by omega⟩
      rw [Int.toNat_natCast]
      have hi : i < T.ready.length := by omega
      have hv : T.ready.getD i 0 = T.ready[i] := by simp [List.getD, List.getElem?_eq_getElem hi]
      rw [hv]
      refine ⟨?_, ?_, ?_, ?_, ?_, ?_⟩
      · simp only [s4, s8]; exact g.last
      · simp only [s4]; exact g.pid
      · exact g.nd.sublist (List.eraseIdx_sublist _ _)
      · simp only [s4]; exact fun y hy => g.rin y ((List.eraseIdx_sublist _ _).subset hy)
      · intro h
        simp only at h
        rw [List.mem_eraseIdx_iff_getElem] at h
        obtain ⟨k, hk, hne, he⟩ := h
        exact hne ((List.getElem_inj g.nd).1 he)
      · simp only [s4]; exact .inr (g.rin _ (List.getElem_mem _))
theorem isB_spec {T : Tb} (g : Good T) {st : Int} (h : isB T st = true) : ∃ (j : Nat) (hj : j < T.P.length), T.cur = (j : Int) + 1 ∧ (T.P[j]'hj).state = st := by
  unfold isB at h
  simp at h
  obtain ⟨h1, h2⟩ := h
  rcases g.cin with h0 | ⟨h3, h4⟩
  · exact absurd h0 h1
  · refine ⟨(T.cur - 1).toNat, by omega, by omega, ?_⟩
    have := prD_at T.P (T.cur - 1).toNat (by omega)
    rw [show (((T.cur - 1).toNat : Nat) : Int) + 1 = T.cur by omega] at this
    rw [← this]; exact h2
theorem Good.tick {T : Tb} (g : Good T) : Good (tickT T) := by
  unfold tickT
  split
  · rename_i h0
    obtain ⟨j, hj, e1, e2⟩ := isB_spec g h0
    split
    · refine ⟨g.last, g.pid, ?_, fun y hy => ?_, fun h => ?_, .inl rfl⟩
      · refine List.nodup_append.2 ⟨g.nd, by simp, fun a ha b hb e => ?_⟩
        simp at hb
        subst hb
        exact g.cnr (e ▸ ha)
      · rcases List.mem_append.1 hy with h | h
        · exact g.rin y h
        · simp at h; simp only; omega
      · rcases List.mem_append.1 h with h | h
        · have h : (0 : Int) ∈ T.ready := h; have := g.rin _ h; omega
        · simp at h; have h : (0 : Int) = T.cur := h; omega
    · have h3 := g.setP T.cur (fun p => { p with ticks := p.ticks + 1 }) fun _ => rfl
      exact ⟨h3.last, h3.pid, h3.nd, h3.rin, h3.cnr, h3.cin⟩
  · exact g

/-- What holds behind n calls. -/
structure Fit (n : Nat) (q : Int) (s : List Int) (T : Tb) : Prop where
  good : Good T
  q : T.q = q
  s : T.s = s
  np : T.P.length ≤ n
  nr : T.ready.length ≤ n
  t0 : 0 ≤ T.ticks
  t1 : T.ticks ≤ n
  pt : ∀ (j : Nat) (h : j < T.P.length), 0 ≤ (T.P[j]'h).ticks ∧ (T.P[j]'h).ticks ≤ n
  us : T.used ≤ T.s.length
  l0 : 0 ≤ T.left
  l1 : T.left ≤ T.q
  a : ∀ (j : Nat) (h : j < T.P.length), ((j : Int) + 1) ∈ T.ready → (T.P[j]'h).state = 0
  b : ∀ (j : Nat) (h : j < T.P.length), ((j : Int) + 1) = T.cur → (T.P[j]'h).state = 0 ∨ (T.P[j]'h).state = 4
  c : ∀ (j : Nat) (h : j < T.P.length), (T.P[j]'h).state = 0 → ((j : Int) + 1) = T.cur ∨ ((j : Int) + 1) ∈ T.ready
  d : ∀ (j : Nat) (h : j < T.P.length), (T.P[j]'h).state = 4 → ((j : Int) + 1) = T.cur
  e : ∀ (j : Nat) (h : j < T.P.length), (T.P[j]'h).state ≠ 5 → (T.P[j]'h).why = ⟨#[]⟩
theorem Fit.more {n m : Nat} {q : Int} {s : List Int} {T : Tb} (f : Fit n q s T) (h : n ≤ m) : Fit m q s T :=
  ⟨f.good, f.q, f.s, Nat.le_trans f.np h, Nat.le_trans f.nr h, f.t0, by have := f.t1; omega, fun j hj => by have := f.pt j hj; omega, f.us, f.l0, f.l1, f.a, f.b, f.c, f.d, f.e⟩
theorem Fit.new (q : Int) (s : List Int) (hq : 1 ≤ q) : Fit 0 q s (newT q s) :=
  ⟨Good.new q s, rfl, rfl, Nat.le_refl _, Nat.le_refl _, Int.le_refl _, Int.le_refl _, (fun j h => absurd h (Nat.not_lt_zero _)), Nat.zero_le _, Int.le_refl _, (by show (0 : Int) ≤ q; omega), (fun j h => absurd h (Nat.not_lt_zero _)), (fun j h => absurd h (Nat.not_lt_zero _)), (fun j h => absurd h (Nat.not_lt_zero _)), (fun j h => absurd h (Nat.not_lt_zero _)), (fun j h => absurd h (Nat.not_lt_zero _))⟩
theorem setP_at (P : List Pr) (x : Int) (f : Pr → Pr) (j : Nat) (h : j < (setP P x f).length) : (setP P x f)[j]'h = if (x - 1).toNat = j then f (P[j]'(by simpa [setP] using h)) else P[j]'(by simpa [setP] using h) := by
  show (P.modify (x - 1).toNat f)[j]'(by simpa [setP] using h) = _
  rw [List.getElem_modify]
theorem Fit.choose {n : Nat} {q : Int} {s : List Int} {T : Tb} (f : Fit n q s T) (k : Int) : Fit n q s (chooseT T k) := by
  have g := f.good.choose k
  unfold chooseT at *
  split
  · exact f
  · rename_i h
    rw [if_neg h] at g
    exact ⟨g, f.q, f.s, f.np, f.nr, f.t0, f.t1, f.pt, (by show T.used + 1 ≤ T.s.length; omega), f.l0, f.l1, f.a, f.b, f.c, f.d, f.e⟩
theorem Fit.make {n : Nat} {q : Int} {s : List Int} {T : Tb} (f : Fit n q s T) (parent : Int) : Fit (n + 1) q s (makeT T parent) := by
  have g := f.good.make parent
  have g0 := f.good
  unfold makeT at *
  split
  · rename_i h
    rw [if_pos h] at g
    refine ⟨g, f.q, f.s, ?_, ?_, f.t0, ?_, ?_, f.us, f.l0, f.l1, ?_, ?_, ?_, ?_, ?_⟩
    · have := f.np; simp; omega
    · have := f.nr; simp; omega
    · have := f.t1; simp only; omega
    all_goals intro j h; simp only [List.getElem_append]; simp at h; split
    all_goals rename_i hj
    · have := f.pt j hj; omega
    · simp; omega
    · intro hm
      rcases List.mem_append.1 hm with hm | hm
      · exact f.a j hj hm
      · simp at hm; omega
    · intro _; simp
    · exact f.b j hj
    · intro _; simp
    · intro h0
      rcases f.c j hj h0 with h | h
      · exact .inl h
      · exact .inr (List.mem_append_left _ h)
    · intro _; refine .inr (List.mem_append_right _ ?_); simp; omega
    · exact f.d j hj
    · simp
    · exact f.e j hj
    · intro _; simp
  · exact f.more (by omega)
theorem Fit.turn {n : Nat} {q : Int} {s : List Int} {T : Tb} (f : Fit n q s T) : Fit n q s (turnT T) := by
  have g := f.good.turn
  have g0 := f.good
  unfold turnT at *
  split
  · exact f
  · split
    · exact f
    · rename_i h0 h1
      rw [if_neg h0, if_neg h1] at g
      have hq1 : 0 ≤ T.q := Int.le_trans f.l0 f.l1
      have fc := f.choose (T.ready.length : Int)
      obtain ⟨r0, r1⟩ := choose_range T (T.ready.length : Int) (by omega)
      obtain ⟨s1, s2, s3, s4, s5, s6, s7, s8⟩ := chooseT_same T (T.ready.length : Int)
      generalize chooseI T (T.ready.length : Int) = c at *
      generalize chooseT T (T.ready.length : Int) = T1 at *
      obtain ⟨i, rfl⟩ : ∃ i : Nat, c = (i : Int) := ⟨c.toNat, by omega⟩
      rw [Int.toNat_natCast] at *
      have hi : i < T.ready.length := by omega
      have hv : T.ready.getD i 0 = T.ready[i] := by simp [List.getD, List.getElem?_eq_getElem hi]
      simp only [hv] at g ⊢
      have hc0 : T.cur = 0 := by omega
      refine ⟨g, fc.q, fc.s, fc.np, ?_, fc.t0, fc.t1, fc.pt, fc.us, hq1, ?_, ?_, ?_, ?_, ?_, ?_⟩
      · have := f.nr; simp only [List.length_eraseIdx]; split <;> omega
      · show T.q ≤ T1.q; omega
      all_goals simp only [s4]
      all_goals intro j h
      · exact fun hm => f.a j h ((List.eraseIdx_sublist _ _).subset hm)
      · exact fun e => .inl (f.a j h (e ▸ List.getElem_mem _))
      · intro e
        rcases f.c j h e with h2 | h2
        · omega
        · obtain ⟨k, hk, he⟩ := List.getElem_of_mem h2
          by_cases hki : k = i
          · subst hki; exact .inl he.symm
          · refine .inr ?_
            rw [List.mem_eraseIdx_iff_getElem]
            exact ⟨k, hk, hki, he⟩
      · intro e
        have := f.d j h e
        omega
      · exact f.e j h
theorem Fit.tick {n : Nat} {q : Int} {s : List Int} {T : Tb} (f : Fit n q s T) : Fit (n + 1) q s (tickT T) := by
  have g := f.good.tick
  have g0 := f.good
  unfold tickT at *
  split
  · rename_i h0
    obtain ⟨j0, hj0, e1, e2⟩ := isB_spec g0 h0
    rw [if_pos h0] at g
    split
    · rename_i hl
      rw [if_pos hl] at g
      refine ⟨g, f.q, f.s, ?_, ?_, f.t0, ?_, ?_, f.us, Int.le_refl _, ?_, ?_, ?_, ?_, ?_, f.e⟩
      · have := f.np; simp only; omega
      · have := f.nr; simp; omega
      · have := f.t1; simp only; omega
      · intro j h; have := f.pt j h; simp only; omega
      · have := f.l0; have := f.l1; simp only; omega
      · intro j h hm
        rcases List.mem_append.1 hm with hm | hm
        · exact f.a j h hm
        · simp at hm
          have : j = j0 := by omega
          subst this; exact e2
      · intro j h e; simp only at e; omega
      · intro j h e
        rcases f.c j h e with h2 | h2
        · exact .inr (List.mem_append_right _ (by simp [h2]))
        · exact .inr (List.mem_append_left _ h2)
      · intro j h e
        have h3 := f.d j h e
        have : j = j0 := by omega
        subst this
        simp only at e
        rw [e2] at e; omega
    · rename_i hl
      rw [if_neg hl] at g
      have hlen := len_setP T.P T.cur (fun p => { p with ticks := p.ticks + 1 })
      have hst : ∀ j (h : j < (setP T.P T.cur (fun p => { p with ticks := p.ticks + 1 })).length), ((setP T.P T.cur (fun p => { p with ticks := p.ticks + 1 }))[j]'h).state = (T.P[j]'(hlen ▸ h)).state := fun j h => by
        rw [setP_at]; split <;> rfl
      have hwh : ∀ j (h : j < (setP T.P T.cur (fun p => { p with ticks := p.ticks + 1 })).length), ((setP T.P T.cur (fun p => { p with ticks := p.ticks + 1 }))[j]'h).why = (T.P[j]'(hlen ▸ h)).why := fun j h => by
        rw [setP_at]; split <;> rfl
      refine ⟨g, f.q, f.s, ?_, ?_, ?_, ?_, ?_, f.us, ?_, ?_, ?_, ?_, ?_, ?_, ?_⟩
      · have := f.np; simp only [hlen]; omega
      · have := f.nr; simp only; omega
      · have := f.t0; simp only; omega
      · have := f.t1; simp only; omega
      · intro j h
        have hj : j < T.P.length := hlen ▸ h
        have := f.pt j hj
        simp only [setP_at]
        split
        · simp only; omega
        · omega
      · have := f.l0; simp only; omega
      · have := f.l1; simp only; omega
      all_goals intro j h; simp only [hst, hwh]
      · exact f.a j _
      · exact f.b j _
      · exact f.c j _
      · exact f.d j _
      · exact f.e j _
  · exact f.more (by omega)
end Go.Proofs.Ytnbjknjnpfmklaa
