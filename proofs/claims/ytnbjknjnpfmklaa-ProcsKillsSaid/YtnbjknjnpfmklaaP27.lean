/- The invariant behind Wait, Wake, Turned, End, Break, Kill, in plain Lean. -/
import Derived.Test.YtnbjknjnpfmklaaP26
namespace Go.Proofs.Ytnbjknjnpfmklaa
open Go.RowKit

theorem Fit.offS {n : Nat} {q : Int} {s : List Int} {T : Tb} (f : Fit n q s T) (h0 : T.cur ≠ 0) (st : Int) (why : ByteArray) (h1 : st ≠ 0) (h2 : st ≠ 4) (he : st ≠ 5 → why = ⟨#[]⟩) : Fit n q s (overT (setT T st why)) := by
  have g0 := f.good
  have hc : 1 ≤ T.cur := by have := g0.cin; omega
  have hlen := len_setP T.P T.cur (fun p => { p with state := st, why := why })
  refine ⟨(f.good.setP T.cur (fun p => { p with state := st, why := why }) fun _ => rfl).off, f.q, f.s, ?_, f.nr, f.t0, f.t1, ?_, f.us, Int.le_refl _, ?_, ?_, ?_, ?_, ?_, ?_⟩
  · show (setP T.P T.cur _).length ≤ n; rw [hlen]; exact f.np
  · intro j h; replace h : j < (setP T.P T.cur (fun p => { p with state := st, why := why })).length := h
    have hj : j < T.P.length := hlen ▸ h
    have := f.pt j hj
    show 0 ≤ ((setP T.P T.cur (fun p => { p with state := st, why := why }))[j]'h).ticks ∧ ((setP T.P T.cur (fun p => { p with state := st, why := why }))[j]'h).ticks ≤ _
    rw [setP_at]
    split <;> exact this
  · have := f.l0; have := f.l1; show (0 : Int) ≤ T.q; omega
  all_goals intro j h; replace h : j < (setP T.P T.cur (fun p => { p with state := st, why := why })).length := h
  · intro hm
    show ((setP T.P T.cur (fun p => { p with state := st, why := why }))[j]'h).state = 0
    rw [setP_at]
    split
    · rename_i e
      have e2 : ((j : Int) + 1) = T.cur := by omega
      exact absurd (show T.cur ∈ T.ready from e2 ▸ hm) g0.cnr
    · exact f.a j _ hm
  · intro e
    have e : (j : Int) + 1 = 0 := e
    omega
  · intro e
    have e : ((setP T.P T.cur (fun p => { p with state := st, why := why }))[j]'h).state = 0 := e
    rw [setP_at] at e
    split at e
    · exact absurd e h1
    · rcases f.c j _ e with h3 | h3
      · omega
      · exact .inr h3
  · intro e
    have e : ((setP T.P T.cur (fun p => { p with state := st, why := why }))[j]'h).state = 4 := e
    rw [setP_at] at e
    split at e
    · exact absurd e h2
    · have := f.d j _ e; omega
  · intro e
    have e : ((setP T.P T.cur (fun p => { p with state := st, why := why }))[j]'h).state ≠ 5 := e
    show ((setP T.P T.cur (fun p => { p with state := st, why := why }))[j]'h).why = ⟨#[]⟩
    rw [setP_at] at e ⊢
    split
    · rename_i h3; rw [if_pos h3] at e; exact he e
    · rename_i h3; rw [if_neg h3] at e; exact f.e j _ e
theorem Fit.ends {n : Nat} {q : Int} {s : List Int} {T : Tb} (f : Fit n q s T) (st : Int) (why : ByteArray) (h1 : st ≠ 0) (h2 : st ≠ 4) (he : st ≠ 5 → why = ⟨#[]⟩) : Fit n q s (endsT T st why) := by
  unfold endsT
  split
  · exact f
  · exact f.offS (by assumption) st why h1 h2 he
theorem waitsB_spec {s : Int} (h : waitsB s = true) : s = 1 ∨ s = 2 ∨ s = 3 := by
  unfold waitsB at h
  simp at h
  omega
theorem Fit.wait {n : Nat} {q : Int} {s : List Int} {T : Tb} (f : Fit n q s T) (st : Int) : Fit n q s (waitT T st) := by
  unfold waitT
  split
  · rename_i h
    unfold waitE at h
    split at h
    · cases h
    · split at h
      · cases h
      · rename_i h1 h2
        have h3 := waitsB_spec (by simpa using h1)
        exact f.offS (isB_cur (by simpa using h2)) st _ (by omega) (by omega) (fun _ => rfl)
  · exact f
theorem Fit.turned {n : Nat} {q : Int} {s : List Int} {T : Tb} (f : Fit n q s T) (a b : Int) (hb : b = 0 ∨ b = 4) : Fit n q s (turnedT T a b) := by
  have g := f.good.turned a b
  unfold turnedT at *
  split
  · rename_i h0
    rw [if_pos h0] at g
    have hcn := isB_cur h0
    have g0 := f.good
    have hc : 1 ≤ T.cur := by have := g0.cin; omega
    have hlen := len_setP T.P T.cur (fun p => { p with state := b, why := ⟨#[]⟩ })
    refine ⟨g, f.q, f.s, ?_, f.nr, f.t0, f.t1, ?_, f.us, f.l0, f.l1, ?_, ?_, ?_, ?_, ?_⟩
    · show (setP T.P T.cur _).length ≤ n; rw [hlen]; exact f.np
    · intro j h; replace h : j < (setP T.P T.cur (fun p => { p with state := b, why := ⟨#[]⟩ })).length := h
      have hj : j < T.P.length := hlen ▸ h
      have := f.pt j hj
      show 0 ≤ ((setP T.P T.cur (fun p => { p with state := b, why := ⟨#[]⟩ }))[j]'h).ticks ∧ ((setP T.P T.cur (fun p => { p with state := b, why := ⟨#[]⟩ }))[j]'h).ticks ≤ _
      rw [setP_at]
      split <;> exact this
    all_goals intro j h; replace h : j < (setP T.P T.cur (fun p => { p with state := b, why := ⟨#[]⟩ })).length := h
    · intro hm
      show ((setP T.P T.cur (fun p => { p with state := b, why := ⟨#[]⟩ }))[j]'h).state = 0
      rw [setP_at]
      split
      · rename_i e
        have e2 : ((j : Int) + 1) = T.cur := by omega
        exact absurd (show T.cur ∈ T.ready from e2 ▸ hm) g0.cnr
      · exact f.a j _ hm
    · intro e
      have e : ((j : Int) + 1) = T.cur := e
      show ((setP T.P T.cur (fun p => { p with state := b, why := ⟨#[]⟩ }))[j]'h).state = 0 ∨ ((setP T.P T.cur (fun p => { p with state := b, why := ⟨#[]⟩ }))[j]'h).state = 4
      rw [setP_at, if_pos (by omega)]
      exact hb
    · intro e
      have e : ((setP T.P T.cur (fun p => { p with state := b, why := ⟨#[]⟩ }))[j]'h).state = 0 := e
      rw [setP_at] at e
      split at e
      · exact .inl (by show (j : Int) + 1 = T.cur; omega)
      · exact f.c j _ e
    · intro e
      have e : ((setP T.P T.cur (fun p => { p with state := b, why := ⟨#[]⟩ }))[j]'h).state = 4 := e
      rw [setP_at] at e
      split at e
      · show (j : Int) + 1 = T.cur; omega
      · exact f.d j _ e
    · intro e
      have e : ((setP T.P T.cur (fun p => { p with state := b, why := ⟨#[]⟩ }))[j]'h).state ≠ 5 := e
      show ((setP T.P T.cur (fun p => { p with state := b, why := ⟨#[]⟩ }))[j]'h).why = ⟨#[]⟩
      rw [setP_at] at e ⊢
      split
      · rfl
      · rename_i h3; rw [if_neg h3] at e; exact f.e j _ e
  · exact f
theorem Fit.wake {n : Nat} {q : Int} {s : List Int} {T : Tb} (f : Fit n q s T) (x : Int) : Fit (n + 1) q s (wakeT T x) := by
  unfold wakeT
  split
  · rename_i h
    unfold wakeE at h
    cases hq : prAt T.P x with
    | none => rw [hq] at h; cases h
    | some p =>
      rw [hq] at h
      simp only at h
      split at h
      · cases h
      · split at h
        · cases h
        · rename_i _ h2
          have h3 := waitsB_spec (by simpa using h2)
          obtain ⟨x1, x2, x3⟩ := prAt_some hq
          obtain ⟨j0, rfl⟩ : ∃ j : Nat, x = (j : Int) + 1 := ⟨(x - 1).toNat, by omega⟩
          rw [show ((j0 : Int) + 1 - 1).toNat = j0 by omega] at x2 x3
          have x4 : T.P[j0] = p := (List.getElem?_eq_some_iff.1 x3).2
          have g0 := f.good
          have hnr : ((j0 : Int) + 1) ∉ T.ready := fun hm => by have := f.a j0 x2 hm; rw [x4] at this; omega
          have hnc : ((j0 : Int) + 1) ≠ T.cur := fun e => by have := f.b j0 x2 e; rw [x4] at this; omega
          have hlen := len_setP T.P ((j0 : Int) + 1) (fun p => { p with state := 0 })
          have g := (g0.setP ((j0 : Int) + 1) (fun p => { p with state := 0 }) fun _ => rfl).push ((j0 : Int) + 1) ⟨by omega, by show _ ≤ (((setP T.P _ _).length : Nat) : Int); rw [hlen]; omega⟩ hnr hnc
          refine ⟨g, f.q, f.s, ?_, ?_, f.t0, ?_, ?_, f.us, f.l0, f.l1, ?_, ?_, ?_, ?_, ?_⟩
          · show (setP T.P _ _).length ≤ _; rw [hlen]; have := f.np; omega
          · have := f.nr; show (T.ready ++ [_]).length ≤ _; simp; omega
          · have := f.t1; show T.ticks ≤ _; omega
          · intro j h; replace h : j < (setP T.P ((j0 : Int) + 1) (fun p => { p with state := 0 })).length := h
            have hj : j < T.P.length := hlen ▸ h
            have := f.pt j hj
            show 0 ≤ ((setP T.P ((j0 : Int) + 1) (fun p => { p with state := 0 }))[j]'h).ticks ∧ ((setP T.P ((j0 : Int) + 1) (fun p => { p with state := 0 }))[j]'h).ticks ≤ _
            rw [setP_at]
            split
            · simp only; omega
            · omega
          all_goals intro j h; replace h : j < (setP T.P ((j0 : Int) + 1) (fun p => { p with state := 0 })).length := h
          · intro hm
            show ((setP T.P ((j0 : Int) + 1) (fun p => { p with state := 0 }))[j]'h).state = 0
            rw [setP_at]
            split
            · rfl
            · rcases List.mem_append.1 hm with hm | hm
              · exact f.a j _ hm
              · simp at hm; omega
          · intro e
            have e : ((j : Int) + 1) = T.cur := e
            show ((setP T.P ((j0 : Int) + 1) (fun p => { p with state := 0 }))[j]'h).state = 0 ∨ ((setP T.P ((j0 : Int) + 1) (fun p => { p with state := 0 }))[j]'h).state = 4
            rw [setP_at, if_neg (by omega)]
            exact f.b j _ e
          · intro e
            have e : ((setP T.P ((j0 : Int) + 1) (fun p => { p with state := 0 }))[j]'h).state = 0 := e
            rw [setP_at] at e
            split at e
            · refine .inr (List.mem_append_right _ ?_); simp; omega
            · rcases f.c j _ e with h4 | h4
              · exact .inl h4
              · exact .inr (List.mem_append_left _ h4)
          · intro e
            have e : ((setP T.P ((j0 : Int) + 1) (fun p => { p with state := 0 }))[j]'h).state = 4 := e
            rw [setP_at] at e
            split at e
            · simp at e
            · exact f.d j _ e
          · intro e
            have e : ((setP T.P ((j0 : Int) + 1) (fun p => { p with state := 0 }))[j]'h).state ≠ 5 := e
            show ((setP T.P ((j0 : Int) + 1) (fun p => { p with state := 0 }))[j]'h).why = ⟨#[]⟩
            rw [setP_at] at e ⊢
            split
            · rename_i h3
              obtain rfl : j0 = j := by omega
              exact f.e j0 x2 (by rw [x4]; omega)
            · rename_i h3; rw [if_neg h3] at e; exact f.e j _ e
  · exact f.more (by omega)
theorem idxFrom_shift (zs : List Int) (x : Int) : ∀ i : Nat, Lib.idxFrom zs x i = if Lib.idxOf zs x = -1 then -1 else Lib.idxOf zs x + (i : Int) := by
  induction zs with
  | nil => intro i; rfl
  | cons z zs ih =>
    intro i
    unfold Lib.idxOf at *
    unfold Lib.idxFrom
    by_cases e : z = x
    · simp [e]
    · simp only [e, if_false]
      rw [ih (i + 1), ih (0 + 1)]
      have := idx_range zs x
      unfold Lib.idxOf at this
      split
      · simp
      · rw [if_neg (by omega)]; push_cast; omega
theorem dropI_cons (z : Int) (zs : List Int) (x : Int) : dropI (z :: zs) x = if z = x then zs else z :: dropI zs x := by
  unfold dropI
  by_cases e : z = x
  · rw [if_pos e, show Lib.idxOf (z :: zs) x = 0 by simp [Lib.idxOf, Lib.idxFrom, e]]; rfl
  · rw [if_neg e]
    have h1 : Lib.idxOf (z :: zs) x = Lib.idxFrom zs x 1 := by simp [Lib.idxOf, Lib.idxFrom, e]
    rw [h1, idxFrom_shift]
    rcases idx_range zs x with h | h
    · rw [h]; simp
    · have h2 : ¬ Lib.idxOf zs x = -1 := by omega
      have h3 : 0 ≤ Lib.idxOf zs x + ((1 : Nat) : Int) := by omega
      rw [if_neg h2, if_pos h3, if_pos h.1, show (Lib.idxOf zs x + ((1 : Nat) : Int)).toNat = (Lib.idxOf zs x).toNat + 1 by omega]; rfl
theorem dropI_filter (r : List Int) (x : Int) (h : r.Nodup) : dropI r x = r.filter fun y => decide (y ≠ x) := by
  induction r with
  | nil => rfl
  | cons z zs ih =>
    obtain ⟨h1, h2⟩ := List.nodup_cons.1 h
    rw [dropI_cons]
    by_cases e : z = x
    · subst e
      rw [if_pos rfl, List.filter_cons_of_neg (by simp)]
      exact (List.filter_eq_self.2 fun y hy => by simp; exact fun e => h1 (e ▸ hy)).symm
    · rw [if_neg e, List.filter_cons_of_pos (by simpa using e), ih h2]
theorem dropI_mem {r : List Int} {x y : Int} (h : r.Nodup) : y ∈ dropI r x ↔ y ∈ r ∧ y ≠ x := by
  rw [dropI_filter r x h]; simp
theorem eraseIdx_filter (r : List Int) (h : r.Nodup) (i : Nat) (hi : i < r.length) : r.eraseIdx i = r.filter fun y => decide (y ≠ r[i]) := by
  induction r generalizing i with
  | nil => exact absurd hi (Nat.not_lt_zero _)
  | cons z zs ih =>
    obtain ⟨h1, h2⟩ := List.nodup_cons.1 h
    cases i with
    | zero =>
      show zs = _
      rw [List.filter_cons_of_neg (by simp)]
      exact (List.filter_eq_self.2 fun y hy => by simp; exact fun e => h1 (e ▸ hy)).symm
    | succ i =>
      have hi' : i < zs.length := by simpa using hi
      show z :: zs.eraseIdx i = _
      rw [ih h2 i hi']
      show _ = List.filter (fun y => decide (y ≠ zs[i])) (z :: zs)
      rw [List.filter_cons_of_pos]
      simp
      exact fun e => h1 (e ▸ List.getElem_mem _)
theorem kill1_P (T : Tb) (id : Int) : (kill1 T id).P = setP T.P id (fun p => { p with state := 6, why := ⟨#[]⟩ }) ∧ (kill1 T id).ready = dropI T.ready id ∧ (kill1 T id).cur = (if id = T.cur then 0 else T.cur) ∧ (kill1 T id).left = (if id = T.cur then 0 else T.left) ∧ (kill1 T id).q = T.q ∧ (kill1 T id).s = T.s ∧ (kill1 T id).used = T.used ∧ (kill1 T id).ticks = T.ticks ∧ (kill1 T id).last = T.last := by
  unfold kill1 offT endP
  by_cases h : id = T.cur
  · simp [h, overT]
  · simp [h]
theorem Fit.kill1 {n : Nat} {q : Int} {s : List Int} {T : Tb} (f : Fit n q s T) (i : Nat) : Fit n q s (kill1 T ((i : Int) + 1)) := by
  have g := f.good.kill1 ((i : Int) + 1)
  have g0 := f.good
  obtain ⟨k1, k2, k3, k4, k5, k6, k7, k8, k9⟩ := kill1_P T ((i : Int) + 1)
  have hlen := len_setP T.P ((i : Int) + 1) (fun p => { p with state := 6, why := ⟨#[]⟩ })
  generalize Proofs.Ytnbjknjnpfmklaa.kill1 T ((i : Int) + 1) = T1 at *
  have hst : ∀ (j : Nat) (h : j < T1.P.length), ∃ h2 : j < T.P.length, (T1.P[j]'h).state = (if i = j then 6 else (T.P[j]'h2).state) ∧ (T1.P[j]'h).ticks = (T.P[j]'h2).ticks ∧ (T1.P[j]'h).why = (if i = j then ⟨#[]⟩ else (T.P[j]'h2).why) := fun j h => by
    have h' : j < (setP T.P ((i : Int) + 1) (fun p => { p with state := 6, why := ⟨#[]⟩ })).length := k1 ▸ h
    have e : T1.P[j]'h = (setP T.P ((i : Int) + 1) (fun p => { p with state := 6, why := ⟨#[]⟩ }))[j]'h' := by congr 1
    refine ⟨hlen ▸ h', ?_⟩
    rw [e, setP_at]
    by_cases hij : i = j
    · rw [if_pos (by omega), if_pos hij, if_pos hij]; exact ⟨rfl, rfl, rfl⟩
    · rw [if_neg (by omega), if_neg hij, if_neg hij]; exact ⟨rfl, rfl, rfl⟩
  have hlen2 : T1.P.length = T.P.length := by rw [k1, hlen]
  refine ⟨g, k5.trans f.q, k6.trans f.s, ?_, ?_, ?_, ?_, ?_, ?_, ?_, ?_, ?_, ?_, ?_, ?_, ?_⟩
  · rw [hlen2]; exact f.np
  · rw [k2, dropI_filter _ _ g0.nd]; exact Nat.le_trans (List.length_filter_le _ _) f.nr
  · rw [k8]; exact f.t0
  · rw [k8]; exact f.t1
  · intro j h
    obtain ⟨h2, _, h4, _⟩ := hst j h
    rw [h4]; exact f.pt j h2
  · rw [k6, k7]; exact f.us
  · rw [k4]; have := f.l0; split <;> omega
  · rw [k4, k5]; have := f.l0; have := f.l1; split <;> omega
  all_goals intro j h; obtain ⟨h2, h3, _, h5⟩ := hst j h; rw [h3]
  · rw [k2, dropI_mem g0.nd]
    rintro ⟨m1, m2⟩
    rw [if_neg (by omega)]
    exact f.a j h2 m1
  · rw [k3]
    intro e
    split at e
    · omega
    · rw [if_neg (by omega)]; exact f.b j h2 e
  · split
    · intro e; cases e
    · intro e
      rw [k2, k3, dropI_mem g0.nd]
      rcases f.c j h2 e with h4 | h4
      · exact .inl (by rw [if_neg (by omega)]; exact h4)
      · exact .inr ⟨h4, by omega⟩
  · split
    · intro e; cases e
    · intro e
      have := f.d j h2 e
      rw [k3, if_neg (by omega)]; exact this
  · rw [h5]
    split
    · intro _; rfl
    · exact f.e j h2
theorem Fit.killS {n : Nat} {q : Int} {s : List Int} {T : Tb} (f : Fit n q s T) (pid : Int) (grp : Bool) (j : Nat) : Fit n q s (killS T pid grp j).1 := by
  induction j with
  | zero => exact f
  | succ j ih =>
    unfold Proofs.Ytnbjknjnpfmklaa.killS
    split
    · exact ih.kill1 j
    · exact ih
theorem Fit.kill {n : Nat} {q : Int} {s : List Int} {T : Tb} (f : Fit n q s T) (pid : Int) (grp : Bool) : Fit n q s (killT T pid grp) := f.killS pid grp _
theorem Fit.tickOk {n : Nat} {q : Int} {s : List Int} {T : Tb} (f : Fit n q s T) (hn : n ≤ 100000) (hq : q ≤ 9223372036854775807) : TickOk T := by
  refine ⟨Nat.le_trans f.nr hn, fun h0 _ => ?_, f.l0, by have := f.l1; have := f.q; omega, f.t0, by have := f.t1; omega⟩
  obtain ⟨j, hj, e1, _⟩ := isB_spec f.good h0
  refine ⟨T.P[j], ?_, ?_⟩
  · unfold prAt
    rw [if_pos (by omega), show (T.cur - 1).toNat = j by omega, List.getElem?_eq_getElem hj]
  · have := f.pt j hj; omega
end Go.Proofs.Ytnbjknjnpfmklaa
