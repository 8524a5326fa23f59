/- Plain law: what Kill ends, and what it leaves. -/
import Derived.Test.YtnbjknjnpfmklaaP46
namespace Go.Proofs.Ytnbjknjnpfmklaa
open Go.RowKit

def selP (pid : Int) (grp : Bool) (p : Pr) : Bool := if grp then p.group == pid else p.pid == pid
def kf (pid : Int) (grp : Bool) (p : Pr) : Pr := if p.state ≠ 6 ∧ selP pid grp p = true then { p with state := 6, why := ⟨#[]⟩ } else p
theorem selB_at {T : Tb} (g : Good T) (pid : Int) (grp : Bool) (j : Nat) (hj : j < T.P.length) : selB pid grp ((j : Int) + 1) (T.P[j]'hj) = true ↔ (T.P[j]'hj).state ≠ 6 ∧ selP pid grp (T.P[j]'hj) = true := by
  unfold selB selP
  rw [g.pid j hj]
  cases grp <;> simp
structure KillIs (T : Tb) (pid : Int) (grp : Bool) (j : Nat) : Prop where
  l : (killS T pid grp j).2 = ((aliveL (T.P.take j)).filter (selP pid grp)).map (·.pid)
  p : ∀ (i : Nat) (h : i < (killS T pid grp j).1.P.length) (h' : i < T.P.length), (killS T pid grp j).1.P[i]'h = if i < j then kf pid grp (T.P[i]'h') else T.P[i]'h'
  c : ∀ (i : Nat) (h : i < T.P.length), i < j → (T.P[i]'h).state ≠ 6 → selP pid grp (T.P[i]'h) = true → (killS T pid grp j).1.cur ≠ (i : Int) + 1
theorem kill_is {T : Tb} (g : Good T) (pid : Int) (grp : Bool) (j : Nat) : j ≤ T.P.length → KillIs T pid grp j := by
  induction j with
  | zero => exact fun _ => ⟨rfl, fun i h h' => by rw [if_neg (Nat.not_lt_zero _)]; rfl, fun i _ h => absurd h (Nat.not_lt_zero _)⟩
  | succ j ih =>
    intro hj
    have hj' : j < T.P.length := by omega
    have k := ih (by omega)
    have hlen := killS_len T pid grp j
    have hP : (killS T pid grp j).1.P[j]'(by rw [hlen]; exact hj') = T.P[j] := by rw [k.p j _ hj', if_neg (Nat.lt_irrefl _)]
    have hD : prD (killS T pid grp j).1.P ((j : Int) + 1) = T.P[j] := by rw [prD_at _ j (by rw [hlen]; exact hj'), hP]
    have hs := selB_at g pid grp j hj'
    have ha := aliveL_snoc T.P j hj'
    by_cases hsel : selB pid grp ((j : Int) + 1) T.P[j] = true
    · obtain ⟨h6, hsp⟩ := hs.1 hsel
      have e : killS T pid grp (j + 1) = (kill1 (killS T pid grp j).1 ((j : Int) + 1), (killS T pid grp j).2 ++ [(j : Int) + 1]) := by
        show (if selB pid grp ((j : Int) + 1) (prD (killS T pid grp j).1.P ((j : Int) + 1)) = true then _ else _) = _
        rw [hD, if_pos hsel]
      obtain ⟨k1, _, k3, _⟩ := kill1_P (killS T pid grp j).1 ((j : Int) + 1)
      refine ⟨?_, ?_, ?_⟩
      · rw [e]
        show (killS T pid grp j).2 ++ [(j : Int) + 1] = _
        rw [k.l, ha, if_neg h6, List.filter_append, List.map_append]
        congr 1
        rw [List.filter_cons_of_pos hsp]
        simp [g.pid j hj']
      · intro i h h'
        have h2 : i < (setP (killS T pid grp j).1.P ((j : Int) + 1) (fun p => { p with state := 6, why := ⟨#[]⟩ })).length := by rw [len_setP, hlen]; exact h'
        have e2 : (killS T pid grp (j + 1)).1.P[i]'h = (setP (killS T pid grp j).1.P ((j : Int) + 1) (fun p => { p with state := 6, why := ⟨#[]⟩ }))[i]'h2 := by
          have : (killS T pid grp (j + 1)).1.P = setP (killS T pid grp j).1.P ((j : Int) + 1) (fun p => { p with state := 6, why := ⟨#[]⟩ }) := by rw [e]; exact k1
          congr 1
        rw [e2, setP_at]
        have h3 := k.p i (by rw [hlen]; exact h') h'
        by_cases hij : i = j
        · subst hij
          rw [if_pos (by omega), if_pos (by omega), h3, if_neg (Nat.lt_irrefl _)]
          unfold kf
          rw [if_pos ⟨h6, hsp⟩]
        · rw [if_neg (by omega), h3]
          by_cases h4 : i < j
          · rw [if_pos h4, if_pos (by omega)]
          · rw [if_neg h4, if_neg (by omega)]
      · intro i h hij hs6 hsi
        rw [e]
        show (kill1 (killS T pid grp j).1 ((j : Int) + 1)).cur ≠ _
        rw [k3]
        by_cases hc : (j : Int) + 1 = (killS T pid grp j).1.cur
        · rw [if_pos hc]; omega
        · rw [if_neg hc]
          by_cases h4 : i = j
          · subst h4; exact fun h => hc h.symm
          · exact k.c i h (by omega) hs6 hsi
    · have hns : ¬ ((T.P[j]'hj').state ≠ 6 ∧ selP pid grp (T.P[j]'hj') = true) := fun h => hsel (hs.2 h)
      have e : killS T pid grp (j + 1) = killS T pid grp j := by
        show (if selB pid grp ((j : Int) + 1) (prD (killS T pid grp j).1.P ((j : Int) + 1)) = true then _ else _) = _
        rw [hD, if_neg hsel]
      refine ⟨?_, ?_, ?_⟩
      · rw [e, k.l, ha, List.filter_append, List.map_append]
        by_cases h6 : T.P[j].state = 6
        · rw [if_pos h6]; simp
        · rw [if_neg h6, List.filter_cons_of_neg (fun h => hns ⟨h6, h⟩)]; simp
      · intro i h h'
        have h3 := k.p i (by rw [hlen]; exact h') h'
        have e2 : (killS T pid grp (j + 1)).1.P[i]'h = (killS T pid grp j).1.P[i]'(by rw [hlen]; exact h') := by
          have : (killS T pid grp (j + 1)).1.P = (killS T pid grp j).1.P := by rw [e]
          congr 1
        rw [e2, h3]
        by_cases hij : i = j
        · subst hij
          rw [if_neg (Nat.lt_irrefl _), if_pos (by omega)]
          unfold kf
          rw [if_neg hns]
        · by_cases h4 : i < j
          · rw [if_pos h4, if_pos (by omega)]
          · rw [if_neg h4, if_neg (by omega)]
      · intro i h hij hs6 hsi
        rw [e]
        by_cases h4 : i = j
        · subst h4; exact absurd ⟨hs6, hsi⟩ hns
        · exact k.c i h (by omega) hs6 hsi
theorem alive_kf (P : List Pr) (pid : Int) (grp : Bool) : aliveL (P.map (kf pid grp)) = (aliveL P).filter fun p => !selP pid grp p := by
  induction P with
  | nil => rfl
  | cons p l ih =>
    unfold aliveL at *
    rw [List.map_cons, List.filter_cons, List.filter_cons, ih]
    by_cases h6 : p.state = 6
    · have e : kf pid grp p = p := by unfold kf; rw [if_neg (fun h => h.1 h6)]
      rw [e, if_neg (by simp [h6]), if_neg (by simp [h6])]
    · by_cases hs : selP pid grp p = true
      · have e : (kf pid grp p).state = 6 := by unfold kf; rw [if_pos ⟨h6, hs⟩]
        rw [if_neg (by simp [e]), if_pos (by simp [h6]), List.filter_cons_of_neg (by simp [hs])]
      · have e : kf pid grp p = p := by unfold kf; rw [if_neg (fun h => hs h.2)]
        rw [e, if_pos (by simp [h6]), if_pos (by simp [h6]), List.filter_cons_of_pos (by simpa using hs)]
/-- What Kill returns and leaves. -/
structure KillEnd (T : Tb) (pid : Int) (grp : Bool) : Prop where
  l : killL T pid grp = ((aliveL T.P).filter (selP pid grp)).map (·.pid)
  a : aliveL (killT T pid grp).P = (aliveL T.P).filter fun p => !selP pid grp p
  c : ∀ p ∈ aliveL T.P, selP pid grp p = true → (killT T pid grp).cur ≠ p.pid
theorem kill_end {T : Tb} (g : Good T) (pid : Int) (grp : Bool) : KillEnd T pid grp := by
  have k := kill_is g pid grp T.P.length (Nat.le_refl _)
  refine ⟨?_, ?_, ?_⟩
  · have := k.l
    rw [List.take_length] at this
    exact this
  · have e : (killT T pid grp).P = T.P.map (kf pid grp) := by
      apply List.ext_getElem (by rw [List.length_map]; exact killS_len T pid grp _)
      intro i h1 h2
      have h3 : i < T.P.length := by simpa using h2
      rw [List.getElem_map]
      have := k.p i h1 h3
      rw [if_pos h3] at this
      exact this
    rw [e, alive_kf]
  · intro p hp hs
    obtain ⟨j, hj, e, e2, e3⟩ := alive_mem g hp
    rw [e2]
    exact k.c j hj hj (by rw [e]; exact e3) (by rw [e]; exact hs)
theorem filter_at (L : List Pr) (f : Pr → Bool) (i : Nat) (hi : i < L.length) (hf : f (L[i]'hi) = true) : (L.filter f)[((L.take i).filter f).length]? = some (L[i]'hi) := by
  have e : L.filter f = (L.take i).filter f ++ (L[i]'hi :: (L.drop (i + 1)).filter f) := by
    have h1 : L = L.take i ++ (L[i]'hi :: L.drop (i + 1)) := by rw [← List.drop_eq_getElem_cons hi, List.take_append_drop]
    rw [← List.filter_cons_of_pos hf, ← List.filter_append, ← h1]
  rw [e, List.getElem?_append_right (Nat.le_refl _), Nat.sub_self]
  rfl
theorem filter_snoc (L : List Pr) (f : Pr → Bool) (i : Nat) (hi : i < L.length) : ((L.take (i + 1)).filter f).length = ((L.take i).filter f).length + if f (L[i]'hi) = true then 1 else 0 := by
  rw [List.take_add_one, List.getElem?_eq_getElem hi, List.filter_append, List.length_append]
  congr 1
  by_cases h : f (L[i]'hi) = true
  · simp [h]
  · simp [h]
theorem filter_le (L : List Pr) (f : Pr → Bool) (i : Nat) : ((L.take i).filter f).length ≤ (L.filter f).length := by
  have e : L.filter f = (L.take i).filter f ++ (L.drop i).filter f := by rw [← List.filter_append, List.take_append_drop]
  rw [e, List.length_append]
  omega
end Go.Proofs.Ytnbjknjnpfmklaa
