/- Plain law: where the processes of a table are. -/
import Derived.Test.YtnbjknjnpfmklaaP42
namespace Go.Proofs.Ytnbjknjnpfmklaa
open Go.RowKit

theorem alive_mod (P : List Pr) (j : Nat) (f : Pr → Pr) (h : ∀ hj : j < P.length, (f (P[j]'hj)).state ≠ 6 → (P[j]'hj).state ≠ 6) : (aliveL (P.modify j f)).length ≤ (aliveL P).length := by
  induction P generalizing j with
  | nil => simp
  | cons p l ih =>
    cases j with
    | zero =>
      have h0 := h (by simp)
      show (aliveL (f p :: l)).length ≤ (aliveL (p :: l)).length
      unfold aliveL
      rw [List.filter_cons, List.filter_cons]
      by_cases h1 : (f p).state ≠ 6
      · rw [if_pos (by simpa using h1), if_pos (by simpa using h0 h1)]
        simp
      · rw [if_neg (by simpa using h1)]
        split
        · simp
        · exact Nat.le_refl _
    | succ j =>
      have ih' := ih j (fun hj => h (by simpa using hj))
      show (aliveL (p :: l.modify j f)).length ≤ (aliveL (p :: l)).length
      unfold aliveL at *
      rw [List.filter_cons, List.filter_cons]
      split
      · simpa using ih'
      · exact ih'
theorem alive_setP (P : List Pr) (j : Nat) (f : Pr → Pr) (h : ∀ hj : j < P.length, (f (P[j]'hj)).state ≠ 6 → (P[j]'hj).state ≠ 6) : (aliveL (setP P ((j : Int) + 1) f)).length ≤ (aliveL P).length := by
  unfold setP
  rw [show ((j : Int) + 1 - 1).toNat = j by omega]
  exact alive_mod P j f h
theorem alive_kill (T : Tb) (pid : Int) (grp : Bool) (j : Nat) : (aliveL (killS T pid grp j).1.P).length ≤ (aliveL T.P).length := by
  induction j with
  | zero => exact Nat.le_refl _
  | succ j ih =>
    unfold killS
    split
    · refine Nat.le_trans ?_ ih
      show (aliveL (kill1 (killS T pid grp j).1 ((j : Int) + 1)).P).length ≤ _
      rw [(kill1_P (killS T pid grp j).1 ((j : Int) + 1)).1]
      exact alive_setP _ j _ (fun _ h => absurd rfl h)
    · exact ih
theorem alive_act {N : Nat} {q : Int} {s : List Int} {T : Tb} (f : Fit N q s T) (h : (aliveL T.P).length ≤ 64) (k n : Int) (t : ByteArray) : (aliveL (actT T k n t).P).length ≤ 64 := by
  have off : ∀ st why, T.cur ≠ 0 → (aliveL (overT (setT T st why)).P).length ≤ 64 := fun st why hc => by
    obtain ⟨j, hj, e⟩ := f.good.cur_at hc
    refine Nat.le_trans ?_ h
    show (aliveL (setP T.P T.cur _)).length ≤ _
    rw [e]
    refine alive_setP _ j _ (fun _ _ => ?_)
    have := f.b j hj e.symm
    omega
  unfold actT
  repeat' split
  · unfold makeT
    split
    · rename_i h0
      unfold makeE at h0
      split at h0
      · cases h0
      · split at h0
        · cases h0
        · rename_i h1
          have h2 : (aliveL T.P).length < 64 := by rw [← aliveP_len]; omega
          show (aliveL (T.P ++ [_])).length ≤ 64
          unfold aliveL at *
          rw [List.filter_append, List.length_append]
          have := List.length_filter_le (fun p : Pr => decide (p.state ≠ 6)) [(⟨(T.P.length : Int) + 1, groupI T n, 0, ⟨#[]⟩, 0⟩ : Pr)]
          simp only [List.length_cons, List.length_nil] at this
          omega
    · exact h
  · unfold turnT
    split
    · exact h
    · split
      · exact h
      · show (aliveL (chooseT T _).P).length ≤ 64
        rw [(chooseT_same T _).2.2.2.1]
        exact h
  · unfold tickT
    split
    · rename_i h0
      split
      · exact h
      · obtain ⟨j, hj, e, _⟩ := isB_spec f.good h0
        refine Nat.le_trans ?_ h
        show (aliveL (setP T.P T.cur _)).length ≤ _
        rw [e]
        exact alive_setP _ j _ (fun _ h => h)
    · exact h
  · unfold waitT
    split
    · rename_i h0
      unfold waitE at h0
      split at h0
      · cases h0
      · split at h0
        · cases h0
        · rename_i h1
          exact off _ _ (isB_cur (by simpa using h1))
    · exact h
  · unfold wakeT
    split
    · rename_i h0
      unfold wakeE at h0
      cases hq : prAt T.P n with
      | none => rw [hq] at h0; cases h0
      | some p =>
        rw [hq] at h0
        simp only at h0
        obtain ⟨x1, x2, x3⟩ := prAt_some hq
        obtain ⟨j, rfl⟩ : ∃ j : Nat, n = (j : Int) + 1 := ⟨(n - 1).toNat, by omega⟩
        rw [show ((j : Int) + 1 - 1).toNat = j by omega] at x2 x3
        have x4 : T.P[j] = p := (List.getElem?_eq_some_iff.1 x3).2
        refine Nat.le_trans (alive_setP T.P j (fun p => { p with state := 0 }) (fun _ _ => ?_)) h
        rw [x4]
        intro e
        rw [if_pos e] at h0
        cases h0
    · exact h
  · unfold turnedT
    split
    · rename_i h0
      obtain ⟨j, hj, e, e2⟩ := isB_spec f.good h0
      refine Nat.le_trans ?_ h
      show (aliveL (setP T.P T.cur _)).length ≤ _
      rw [e]
      exact alive_setP _ j _ (fun _ _ => by omega)
    · exact h
  · unfold turnedT
    split
    · rename_i h0
      obtain ⟨j, hj, e, e2⟩ := isB_spec f.good h0
      refine Nat.le_trans ?_ h
      show (aliveL (setP T.P T.cur _)).length ≤ _
      rw [e]
      exact alive_setP _ j _ (fun _ _ => by omega)
    · exact h
  · unfold endsT
    split
    · exact h
    · exact off _ _ (by assumption)
  · unfold endsT
    split
    · exact h
    · exact off _ _ (by assumption)
  · rw [(chooseT_same T _).2.2.2.1]
    exact h
  · exact Nat.le_trans (alive_kill T n _ _) h
theorem alive_play {q : Int} {s : List Int} {T : Tb} (f : Fit 0 q s T) (h : (aliveL T.P).length ≤ 64) (l : List Ac) : (aliveL (playN T l).P).length ≤ 64 := by
  have key : ∀ j, j ≤ l.length → (aliveL (playN T (l.take j)).P).length ≤ 64 := fun j => by
    induction j with
    | zero => intro _; exact h
    | succ j ih =>
      intro hj
      rw [playN_snoc T l j (by omega)]
      exact alive_act (f.playTake l j (by omega)) (ih (by omega)) _ _ _
  have := key l.length (Nat.le_refl _)
  rwa [List.take_length] at this

theorem sum_add (L : List Int) (f g : Int → Nat) : (L.map fun y => f y + g y).sum = (L.map f).sum + (L.map g).sum := by
  induction L with
  | nil => rfl
  | cons y L ih => simp only [List.map_cons, List.sum_cons, ih]; omega
theorem sum_ite (L : List Int) (x : Int) : (L.map fun y => if x = y then 1 else 0).sum = L.count x := by
  induction L with
  | nil => rfl
  | cons y L ih =>
    simp only [List.map_cons, List.sum_cons, ih, List.count_cons]
    by_cases h : x = y
    · subst h; simp; omega
    · have h2 : ¬ y = x := fun e => h e.symm
      simp [h, h2]
theorem sum_count (L : List Int) (hn : L.Nodup) (r : List Int) (h : ∀ x ∈ r, x ∈ L) : (L.map fun y => r.count y).sum = r.length := by
  induction r with
  | nil =>
    have : (L.map fun y => ([] : List Int).count y) = L.map fun _ => 0 := rfl
    rw [this]
    clear this h hn
    induction L with
    | nil => rfl
    | cons y L ih => simpa using ih
  | cons x r ih =>
    have e : (L.map fun y => (x :: r).count y) = L.map fun y => r.count y + if x = y then 1 else 0 := by
      apply List.map_congr_left
      intro y _
      rw [List.count_cons]
      by_cases h : x = y
      · simp [h]
      · simp [h]
    rw [e, sum_add, ih (fun y hy => h y (List.mem_cons_of_mem _ hy)), sum_ite]
    have h1 : L.count x = 1 := by
      have a := List.nodup_iff_count.1 hn x
      have b := List.count_pos_iff.2 (h x (List.mem_cons_self))
      omega
    rw [h1]
    rfl
theorem Good.sorted {T : Tb} (g : Good T) : (aliveL T.P).Pairwise fun a b => a.pid < b.pid := by
  refine List.Pairwise.filter _ (List.pairwise_iff_getElem.2 fun i j hi hj hij => ?_)
  rw [g.pid i hi, g.pid j hj]
  omega
theorem alive_mem {T : Tb} (g : Good T) {p : Pr} (h : p ∈ aliveL T.P) : ∃ (j : Nat) (hj : j < T.P.length), T.P[j]'hj = p ∧ p.pid = (j : Int) + 1 ∧ p.state ≠ 6 := by
  obtain ⟨h1, h2⟩ := List.mem_filter.1 h
  obtain ⟨j, hj, e⟩ := List.getElem_of_mem h1
  exact ⟨j, hj, e, by rw [← e]; exact g.pid j hj, by simpa using h2⟩
/-- How often the ready list names these processes. -/
def nameN (r : List Int) (L : List Pr) : Nat := (L.map fun p => r.count p.pid).sum
theorem nameN_snoc (r : List Int) (L : List Pr) (i : Nat) (hi : i < L.length) : nameN r (L.take (i + 1)) = nameN r (L.take i) + r.count (L[i]'hi).pid := by
  unfold nameN
  rw [List.take_add_one, List.getElem?_eq_getElem hi, List.map_append, List.sum_append]
  simp
theorem nameN_le (r : List Int) (L : List Pr) (i : Nat) : nameN r (L.take i) ≤ nameN r L := by
  unfold nameN
  have h : (L.map fun p => r.count p.pid).sum = ((L.take i).map fun p => r.count p.pid).sum + ((L.drop i).map fun p => r.count p.pid).sum := by
    rw [← List.sum_append, ← List.map_append, List.take_append_drop]
  omega
theorem nameN_all {N : Nat} {q : Int} {s : List Int} {T : Tb} (f : Fit N q s T) : nameN T.ready (aliveL T.P) = T.ready.length := by
  have h1 := sum_count ((aliveL T.P).map (·.pid)) ?_ T.ready ?_
  · rw [← h1]
    unfold nameN
    rw [List.map_map]
    rfl
  · have hs := f.good.sorted
    unfold List.Nodup
    rw [List.pairwise_map]
    exact hs.imp fun h e => by omega
  · intro x hx
    obtain ⟨x1, x2⟩ := f.good.rin x hx
    have hj : (x - 1).toNat < T.P.length := by omega
    have hs := f.a (x - 1).toNat hj (by rw [show (((x - 1).toNat : Nat) : Int) + 1 = x by omega]; exact hx)
    refine List.mem_map.2 ⟨T.P[(x - 1).toNat]'hj, List.mem_filter.2 ⟨List.getElem_mem hj, by simp only [decide_eq_true_eq]; rw [hs]; decide⟩, ?_⟩
    rw [f.good.pid _ hj]
    omega
/-- Where one process is. -/
structure PlaceOk (T : Tb) (p : Pr) : Prop where
  one : T.ready.count p.pid ≤ 1
  notboth : T.cur = p.pid → T.ready.count p.pid = 0
  act : (p.state = 0 ∨ p.state = 4) ↔ (T.cur = p.pid ∨ T.ready.count p.pid = 1)
  call : p.state = 4 → T.cur = p.pid
  alive : p.state ≠ 6
theorem place_ok {N : Nat} {q : Int} {s : List Int} {T : Tb} (f : Fit N q s T) {p : Pr} (h : p ∈ aliveL T.P) : PlaceOk T p := by
  obtain ⟨j, hj, e, e2, e3⟩ := alive_mem f.good h
  have h1 := List.nodup_iff_count.1 f.good.nd p.pid
  have hm : T.ready.count p.pid = 1 ↔ p.pid ∈ T.ready := by
    constructor
    · intro h; exact List.count_pos_iff.1 (by omega)
    · intro h; have := List.count_pos_iff.2 h; omega
  refine ⟨h1, fun hc => ?_, ?_, ?_, e3⟩
  · have : p.pid ∉ T.ready := fun h => f.good.cnr (hc ▸ h)
    exact List.count_eq_zero.2 this
  · rw [hm]
    constructor
    · rintro (h0 | h4)
      · rcases f.c j hj (by rw [e]; exact h0) with h5 | h5
        · exact .inl (by omega)
        · exact .inr (by rw [e2]; exact h5)
      · exact .inl (by have := f.d j hj (by rw [e]; exact h4); omega)
    · rintro (hc | hr)
      · have := f.b j hj (by omega); rw [e] at this; exact this
      · exact .inl (by have := f.a j hj (by rw [← e2]; exact hr); rw [e] at this; exact this)
  · intro h4
    have := f.d j hj (by rw [e]; exact h4)
    omega
theorem place_cases {c : Nat} {cur v0 v2 : Int} (h1 : c ≤ 1) (h2 : cur = v0 → c = 0) (h3 : (v2 = 0 ∨ v2 = 4) ↔ (cur = v0 ∨ c = 1)) (h4 : v2 = 4 → cur = v0) (h5 : v2 ≠ 6) : (c = 1 ∧ cur ≠ v0 ∧ v2 = 0) ∨ (c = 0 ∧ cur = v0 ∧ v2 = 0) ∨ (c = 0 ∧ cur = v0 ∧ v2 = 4) ∨ (c = 0 ∧ cur ≠ v0 ∧ v2 ≠ 0 ∧ v2 ≠ 4 ∧ v2 ≠ 6) := by
  by_cases hc : cur = v0
  · rcases h3.2 (.inl hc) with h | h
    · exact .inr (.inl ⟨h2 hc, hc, h⟩)
    · exact .inr (.inr (.inl ⟨h2 hc, hc, h⟩))
  · by_cases h : c = 1
    · rcases h3.2 (.inr h) with h0 | h0
      · exact .inl ⟨h, hc, h0⟩
      · exact absurd (h4 h0) hc
    · exact .inr (.inr (.inr ⟨by omega, hc, fun h0 => by rcases h3.1 (.inl h0) with h | h <;> contradiction, fun h0 => hc (h4 h0), h5⟩))
end Go.Proofs.Ytnbjknjnpfmklaa
