/- Texts on regular expressions, merged: R11, R12. -/
import Derived.Test.YtcajnmhbkjngbaaG16
/- An expression in parentheses is read as it is read alone. -/
namespace Go.Proofs.Ytcajnmhbkjngbaa

section
variable {cs pre post : List Int} (hp : post[0]? = some 41)
theorem emb_get {i : Nat} (h : i < cs.length) : (pre ++ (cs ++ post))[i + pre.length]? = cs[i]? := by
  rw [List.getElem?_append_right (by omega), Nat.add_sub_cancel, List.getElem?_append_left h]
include hp in
theorem emb_end : (pre ++ (cs ++ post))[cs.length + pre.length]? = some 41 := by
  rw [List.getElem?_append_right (by omega), Nat.add_sub_cancel, List.getElem?_append_right (Nat.le_refl _), Nat.sub_self, hp]
include hp in
theorem emb_len : cs.length + pre.length + 1 ≤ (pre ++ (cs ++ post)).length := by
  have := (List.getElem?_eq_some_iff.1 hp).1
  simp
  omega
theorem emb_some {i : Nat} {c : Int} (h : cs[i]? = some c) : (pre ++ (cs ++ post))[i + pre.length]? = some c := by
  rw [emb_get (List.getElem?_eq_some_iff.1 h).1, h]
theorem emb_sng {i j : Nat} {x : Int} (h : pSng cs i = some (x, j)) : pSng (pre ++ (cs ++ post)) (i + pre.length) = some (x, j + pre.length) := by
  unfold pSng at h ⊢
  split at h
  · cases h
  · rename_i c hc
    rw [emb_some hc]
    simp only
    split at h
    · rename_i h92
      rw [if_pos h92]
      split at h
      · cases h
      · rename_i e he
        rw [show i + pre.length + 1 = (i + 1) + pre.length by omega, emb_some he]
        simp only
        injection h with h
        injection h with h1 h2
        rw [h1, ← h2, show i + pre.length + 2 = i + 2 + pre.length by omega]
    · rename_i h92
      rw [if_neg h92]
      injection h with h
      injection h with h1 h2
      rw [h1, ← h2, show i + pre.length + 1 = i + 1 + pre.length by omega]
include hp in
theorem emb_dash {j : Nat} (hj : j ≤ cs.length) : dash (pre ++ (cs ++ post)) (j + pre.length) = dash cs j ∨ (dash cs j = false ∧ cs[j]? = some 45 ∧ j + 1 = cs.length) := by
  have hl := emb_len (cs := cs) (pre := pre) hp
  unfold dash
  by_cases h : j < cs.length
  · rw [emb_get h]
    by_cases h2 : j + 1 < cs.length
    · left
      rw [show j + pre.length + 1 = (j + 1) + pre.length by omega, emb_get h2]
      have h3 : j + 1 + pre.length < (pre ++ (cs ++ post)).length := by omega
      rw [decide_eq_true h3, decide_eq_true h2]
    · by_cases h4 : cs[j]? = some 45
      · right
        refine ⟨?_, h4, by omega⟩
        rw [decide_eq_false h2]
        simp
      · left
        rw [decide_eq_false h4]
        simp
  · have hj2 : j = cs.length := by omega
    subst hj2
    left
    rw [emb_end hp, List.getElem?_eq_none (Nat.le_refl _)]
    simp
theorem pSpn_last {j : Nat} (hj : cs[j]? = some 45) (hl : j + 1 = cs.length) {f k : Nat} {l : List (Int × Int)} (h : pSpn cs f j = .inl (l, k)) : False := by
  match f with
  | 0 => cases h
  | f + 1 =>
    unfold pSpn at h
    rw [hj] at h
    simp only [show ¬ (45 : Int) = 93 by decide, if_false] at h
    have hs : pSng cs j = some (45, j + 1) := by unfold pSng; rw [hj]; simp
    rw [hs] at h
    simp only at h
    have hn : cs[j + 1]? = none := List.getElem?_eq_none (by omega)
    have hd : dash cs (j + 1) = false := by unfold dash; rw [hn]; simp
    rw [hd] at h
    simp only [Bool.false_eq_true, if_false] at h
    obtain ⟨l', h, _⟩ := consS_inl h
    match f with
    | 0 => cases h
    | f + 1 =>
      unfold pSpn at h
      rw [hn] at h
      cases h
include hp in
theorem emb_spn : ∀ {f f' i k : Nat} {l : List (Int × Int)}, f ≤ f' → pSpn cs f i = .inl (l, k) → pSpn (pre ++ (cs ++ post)) f' (i + pre.length) = .inl (l, k + pre.length)
  | 0, f', i, k, l, _, h => by cases h
  | f + 1, 0, i, k, l, hf, _ => by omega
  | f + 1, f' + 1, i, k, l, hf, h => by
    unfold pSpn at h ⊢
    split at h
    · cases h
    · rename_i c hc
      rw [emb_some hc]
      simp only
      split at h
      · rename_i h93
        rw [if_pos h93]
        cases h
        rw [show i + pre.length + 1 = i + 1 + pre.length by omega]
      · rename_i h93
        rw [if_neg h93]
        split at h
        · cases h
        · rename_i a j hs
          rw [emb_sng hs]
          simp only
          have hle := pSng_le hs
          split at h
          · rename_i hd
            have hd' : dash (pre ++ (cs ++ post)) (j + pre.length) = true := by
              rcases emb_dash (pre := pre) hp hle.2 with e | ⟨e, _⟩
              · rw [e, hd]
              · rw [e] at hd; cases hd
            rw [if_pos hd']
            split at h
            · cases h
            · rename_i b m hm
              rw [show j + pre.length + 1 = (j + 1) + pre.length by omega, emb_sng hm]
              simp only
              split at h
              · cases h
              · rename_i hba
                rw [if_neg hba]
                obtain ⟨l', h5, rfl⟩ := consS_inl h
                rw [emb_spn (Nat.le_of_succ_le_succ hf) h5]
                rfl
          · rename_i hd
            obtain ⟨l', h5, rfl⟩ := consS_inl h
            have hd' : dash (pre ++ (cs ++ post)) (j + pre.length) = false := by
              rcases emb_dash (pre := pre) hp hle.2 with e | ⟨e, h45, hl⟩
              · rw [e]; simpa using hd
              · exact (pSpn_last h45 hl h5).elim
            rw [if_neg (by rw [hd']; simp), emb_spn (Nat.le_of_succ_le_succ hf) h5]
            rfl
include hp in
theorem emb_set2 {inv : Bool} {i k : Nat} {t : CSet} (h : pSet2 cs inv i = .inl (t, k)) : pSet2 (pre ++ (cs ++ post)) inv (i + pre.length) = .inl (t, k + pre.length) := by
  have hle := pSet2_le h
  have hl := emb_len (cs := cs) (pre := pre) hp
  unfold pSet2 at h ⊢
  rw [emb_get (by omega)]
  split at h
  · cases h
  · rename_i h93
    rw [if_neg h93]
    split at h
    · rename_i l k' hs
      cases h
      rw [emb_spn hp (by omega) hs]
    · cases h
include hp in
theorem emb_set {i k : Nat} {t : CSet} (h : pSet cs i = .inl (t, k)) : pSet (pre ++ (cs ++ post)) (i + pre.length) = .inl (t, k + pre.length) := by
  have hle := pSet_le h
  unfold pSet at h ⊢
  rw [emb_get (by omega)]
  split at h
  · rename_i h94
    rw [if_pos h94, show i + pre.length + 1 = (i + 1) + pre.length by omega]
    exact emb_set2 hp h
  · rename_i h94
    rw [if_neg h94]
    exact emb_set2 hp h
include hp in
theorem emb_char {c : Int} {i s j t k : Nat} {l : List Nd} (h : pChar cs c i s = .ok l j t) : pChar (pre ++ (cs ++ post)) c (i + pre.length) (s + k) = .ok l (j + pre.length) (t + k) := by
  have e1 : i + pre.length + 1 = (i + 1) + pre.length := by omega
  have e2 : i + pre.length + 2 = (i + 2) + pre.length := by omega
  have e3 : s + k + 1 = s + 1 + k := by omega
  unfold pChar at h ⊢
  rw [e1, e2, e3]
  split at h
  · rename_i h1; rw [if_pos h1]; cases h; rfl
  · rename_i h1
    rw [if_neg h1]
    split at h
    · rename_i h2; rw [if_pos h2]; cases h; rfl
    · rename_i h2
      rw [if_neg h2]
      split at h
      · rename_i h3; rw [if_pos h3]; cases h; rfl
      · rename_i h3
        rw [if_neg h3]
        split at h
        · rename_i h4
          rw [if_pos h4]
          split at h
          · rename_i t' k' hs
            cases h
            rw [emb_set hp hs]
          · cases h
        · rename_i h4
          rw [if_neg h4]
          split at h
          · rename_i h5
            rw [if_pos h5]
            split at h
            · cases h
            · rename_i e he
              cases h
              rw [emb_some he]
          · rename_i h5
            rw [if_neg h5]
            cases h; rfl
include hp in
theorem emb_reps : ∀ {f f' i : Nat} {n : Nd}, f ≤ f' → cs.length ≤ f + i → i ≤ cs.length → pReps (pre ++ (cs ++ post)) f' (i + pre.length) n = ((pReps cs f i n).1, (pReps cs f i n).2 + pre.length)
  | 0, f', i, n, _, h1, h2 => by
    have : i = cs.length := by omega
    subst this
    cases f' with
    | zero => rfl
    | succ f' =>
      unfold pReps
      rw [emb_end hp]
      simp
  | f + 1, 0, i, n, hf, _, _ => by omega
  | f + 1, f' + 1, i, n, hf, h1, h2 => by
    unfold pReps
    by_cases hi : i < cs.length
    · rw [emb_get hi, show i + pre.length + 1 = (i + 1) + pre.length by omega]
      split
      · exact emb_reps (Nat.le_of_succ_le_succ hf) (by omega) (by omega)
      · split
        · exact emb_reps (Nat.le_of_succ_le_succ hf) (by omega) (by omega)
        · split
          · exact emb_reps (Nat.le_of_succ_le_succ hf) (by omega) (by omega)
          · rfl
    · have : i = cs.length := by omega
      subst this
      rw [emb_end hp, List.getElem?_eq_none (Nat.le_refl _)]
      simp
/-- It is read so, or is nested too deeply. -/
def Emb (r : Res) (l : List Nd) (j t : Nat) : Prop := r = .ok l j t ∨ ∃ q, r = .bad q 3
include hp in
theorem emb_all : ∀ f : Nat,
    (∀ f' i d s k l j t, f ≤ f' → i ≤ cs.length → pAlts cs f i d s = .ok l j t → Emb (pAlts (pre ++ (cs ++ post)) f' (i + pre.length) (d + 1) (s + k)) l (j + pre.length) (t + k)) ∧
    (∀ f' i d s k l j t, f ≤ f' → i ≤ cs.length → pBranch cs f i d s = .ok l j t → Emb (pBranch (pre ++ (cs ++ post)) f' (i + pre.length) (d + 1) (s + k)) l (j + pre.length) (t + k)) ∧
    (∀ f' i d s k l j t, f ≤ f' → i ≤ cs.length → pAtom cs f i d s = .ok l j t → Emb (pAtom (pre ++ (cs ++ post)) f' (i + pre.length) (d + 1) (s + k)) l (j + pre.length) (t + k))
  | 0 => ⟨fun f' i d s k l j t _ _ h => by simp [pAlts] at h, fun f' i d s k l j t _ _ h => by simp [pBranch] at h, fun f' i d s k l j t _ _ h => by simp [pAtom] at h⟩
  | f + 1 => by
    obtain ⟨h1, h2, h3⟩ := emb_all f
    have hle := parse_le cs f
    have hln := emb_len (cs := cs) (pre := pre) hp
    refine ⟨fun f' i d s k l j t hf hi h => ?_, fun f' i d s k l j t hf hi h => ?_, fun f' i d s k l j t hf hi h => ?_⟩
    · obtain ⟨f', rfl⟩ : ∃ g, f' = g + 1 := ⟨f' - 1, by omega⟩
      have hf : f ≤ f' := Nat.le_of_succ_le_succ hf
      rw [pAlts] at h ⊢
      split at h
      · cases h
      · rename_i l' j' t' hb
        have hb2 := hle.2.1 _ _ _ _ _ _ hi hb
        rcases h2 f' i d s k _ _ _ hf hi hb with e | ⟨q, e⟩
        · rw [e]
          simp only
          split at h
          · rename_i hbar
            have hlt := (List.getElem?_eq_some_iff.1 hbar).1
            rw [if_pos (emb_some hbar)]
            split at h
            · cases h
            · rename_i ms k' u ha
              cases h
              rcases h1 f' (j' + 1) d t' k _ _ _ hf (by omega) ha with e2 | ⟨q, e2⟩
              · rw [show j' + pre.length + 1 = (j' + 1) + pre.length by omega, e2]
                exact .inl rfl
              · rw [show j' + pre.length + 1 = (j' + 1) + pre.length by omega, e2]
                exact .inr ⟨q, rfl⟩
          · rename_i hbar
            cases h
            have hnb : (pre ++ (cs ++ post))[j + pre.length]? ≠ some 124 := by
              by_cases hj : j < cs.length
              · rw [emb_get hj]; exact hbar
              · have : j = cs.length := by omega
                subst this
                rw [emb_end hp]
                simp
            rw [if_neg hnb]
            exact .inl rfl
        · rw [e]; exact .inr ⟨q, rfl⟩
    · obtain ⟨f', rfl⟩ : ∃ g, f' = g + 1 := ⟨f' - 1, by omega⟩
      have hf : f ≤ f' := Nat.le_of_succ_le_succ hf
      rw [pBranch] at h ⊢
      split at h
      · rename_i hn
        cases h
        have hil : i = cs.length := by
          have := List.getElem?_eq_none_iff.1 hn
          omega
        subst hil
        rw [emb_end hp]
        simp only [show ¬ (41 : Int) = 124 by decide, if_false, if_true, show ¬ d + 1 = 0 by omega]
        exact .inl rfl
      · rename_i c hc
        have hlt := (List.getElem?_eq_some_iff.1 hc).1
        rw [emb_some hc]
        simp only
        split at h
        · rename_i hb; rw [if_pos hb]; cases h; exact .inl rfl
        · rename_i hb
          rw [if_neg hb]
          split at h
          · rename_i hb2
            rw [if_pos hb2, if_neg (show ¬ d + 1 = 0 by omega)]
            split at h
            · cases h
            · cases h; exact .inl rfl
          · rename_i hb2
            rw [if_neg hb2]
            split at h
            · cases h
            · rename_i hb3
              rw [if_neg hb3]
              split at h
              · cases h
              · rename_i l' j' t' ha
                have ha2 := hle.2.2 _ _ _ _ _ _ ha
                rcases h3 f' i d s k _ _ _ hf hi ha with e | ⟨q, e⟩
                · rw [e]
                  simp only
                  rw [emb_reps (cs := cs) hp (f := cs.length - j') (i := j') (show cs.length - j' ≤ _ by omega) (by omega) ha2.2.1]
                  simp only
                  have hr := pReps_le (cs.length - j') j' (l'.headD .beg) ha2.2.1
                  split at h
                  · cases h
                  · rename_i ms k' u hb4
                    cases h
                    rcases h2 f' _ d t' k _ _ _ hf hr.2 hb4 with e2 | ⟨q, e2⟩
                    · rw [e2]; exact .inl rfl
                    · rw [e2]; exact .inr ⟨q, rfl⟩
                · rw [e]; exact .inr ⟨q, rfl⟩
    · obtain ⟨f', rfl⟩ : ∃ g, f' = g + 1 := ⟨f' - 1, by omega⟩
      have hf : f ≤ f' := Nat.le_of_succ_le_succ hf
      rw [pAtom] at h ⊢
      split at h
      · cases h
      · rename_i c hc
        have hlt := (List.getElem?_eq_some_iff.1 hc).1
        rw [emb_some hc]
        simp only
        split at h
        · rename_i h40
          rw [if_pos h40]
          split at h
          · cases h
          · split at h
            · cases h
            · rename_i l' j' t' ha
              split
              · exact .inr ⟨_, rfl⟩
              · split at h
                · rename_i hj
                  cases h
                  rcases h1 f' (i + 1) (d + 1) s k _ _ _ hf (by omega) ha with e | ⟨q, e⟩
                  · rw [show i + pre.length + 1 = (i + 1) + pre.length by omega, e]
                    simp only
                    rw [if_pos (by omega), show j' + pre.length + 1 = j' + 1 + pre.length by omega]
                    exact .inl rfl
                  · rw [show i + pre.length + 1 = (i + 1) + pre.length by omega, e]
                    exact .inr ⟨q, rfl⟩
                · cases h
        · rename_i h40
          rw [if_neg h40]
          exact .inl (emb_char hp h)
end
/-- An expression that is read alone is read up to its end. -/
theorem pBranch_end {cs : List Int} : ∀ (f i s : Nat) {l : List Nd} {j t : Nat}, pBranch cs f i 0 s = .ok l j t → cs[j]? = none ∨ cs[j]? = some 124
  | 0, i, s, l, j, t, h => by simp [pBranch] at h
  | f + 1, i, s, l, j, t, h => by
    rw [pBranch] at h
    split at h
    · rename_i hn; cases h; exact .inl hn
    · rename_i c hc
      split at h
      · rename_i hb; cases h; exact .inr (by rw [hc, hb])
      · split at h
        · simp at h
        · split at h
          · cases h
          · split at h
            · cases h
            · split at h
              · cases h
              · rename_i ms k' u hb4
                cases h
                exact pBranch_end f _ _ hb4
theorem pAlts_end {cs : List Int} : ∀ (f i s : Nat) {l : List Nd} {j t : Nat}, i ≤ cs.length → pAlts cs f i 0 s = .ok l j t → j = cs.length
  | 0, i, s, l, j, t, _, h => by simp [pAlts] at h
  | f + 1, i, s, l, j, t, hi, h => by
    have hle := parse_le cs f
    rw [pAlts] at h
    split at h
    · cases h
    · rename_i l' j' t' hb
      have hb2 := hle.2.1 _ _ _ _ _ _ hi hb
      split at h
      · rename_i hbar
        have := (List.getElem?_eq_some_iff.1 hbar).1
        split at h
        · cases h
        · rename_i ha
          cases h
          exact pAlts_end f _ _ (by omega) ha
      · rename_i hbar
        cases h
        rcases pBranch_end f _ _ hb with e | e
        · have := List.getElem?_eq_none_iff.1 e
          omega
        · exact absurd e hbar
/-- A group: an expression in parentheses. -/
theorem group_is {P pre post : List Int} {l : List Nd} {j t : Nat} (h : pAll P = .ok l j t) (hpost : post[0]? = some 41) {f : Nat} (hf : 3 * P.length + 3 ≤ f) (s : Nat) : Emb (pAtom (pre ++ 40 :: (P ++ post)) (f + 1) pre.length 0 s) [.alt l] (pre.length + P.length + 2) (t + s) := by
  have hj := pAlts_end _ _ _ (Nat.zero_le _) h
  subst hj
  have hc : (pre ++ 40 :: (P ++ post))[pre.length]? = some 40 := by simp
  have hl : (pre ++ [40] ++ (P ++ post)) = pre ++ 40 :: (P ++ post) := by simp
  have e := (emb_all (cs := P) (pre := pre ++ [40]) hpost _).1 f 0 0 0 s _ _ _ hf (Nat.zero_le _) h
  rw [hl] at e
  have hlen : P.length + (pre ++ [40]).length < (pre ++ 40 :: (P ++ post)).length := by
    have := (List.getElem?_eq_some_iff.1 hpost).1
    simp
    omega
  rw [pAtom, hc]
  simp only [if_true, show ¬ (0 : Nat) = 64 by decide, if_false]
  have e1 : 0 + (pre ++ [40]).length = pre.length + 1 := by simp
  simp only [e1, Nat.zero_add] at e
  simp only [Nat.zero_add]
  rcases e with e | ⟨q, e⟩
  · rw [e]
    simp only
    rw [if_pos hlen]
    refine .inl ?_
    congr 1
    simp
    omega
  · rw [e]; exact .inr ⟨q, rfl⟩
end Go.Proofs.Ytcajnmhbkjngbaa

/- Expressions made of others in parentheses. -/
namespace Go.Proofs.Ytcajnmhbkjngbaa

section
variable {P pre rest cs : List Int} {l : List Nd} {j t : Nat}
theorem at_rest (hcs : cs = pre ++ 40 :: (P ++ 41 :: rest)) (k : Nat) : cs[pre.length + P.length + 2 + k]? = rest[k]? := by
  subst hcs
  have e : pre ++ 40 :: (P ++ 41 :: rest) = (pre ++ 40 :: (P ++ [41])) ++ rest := by simp
  have hl : (pre ++ 40 :: (P ++ [41])).length = pre.length + P.length + 2 := by simp; omega
  rw [e, List.getElem?_append_right (by omega), hl, Nat.add_sub_cancel_left]
theorem len_rest (hcs : cs = pre ++ 40 :: (P ++ 41 :: rest)) : cs.length = pre.length + P.length + 2 + rest.length := by
  subst hcs
  simp
  omega
theorem br_step (h : pAll P = .ok l j t) (hcs : cs = pre ++ 40 :: (P ++ 41 :: rest)) {f : Nat} (hf : 3 * P.length + 4 ≤ f) (s : Nat) :
    (∃ q, pBranch cs (f + 1) pre.length 0 s = .bad q 3) ∨ pBranch cs (f + 1) pre.length 0 s = (match pBranch cs f (pReps cs (cs.length - (pre.length + P.length + 2)) (pre.length + P.length + 2) (.alt l)).2 0 (t + s) with
      | .bad p e => .bad p e
      | .ok ms k u => .ok ((pReps cs (cs.length - (pre.length + P.length + 2)) (pre.length + P.length + 2) (.alt l)).1 :: ms) k u) := by
  have hg := group_is (pre := pre) (post := 41 :: rest) h rfl (f := f - 1) (by omega) s
  rw [← hcs, show f - 1 + 1 = f by omega] at hg
  have hc : cs[pre.length]? = some 40 := by subst hcs; simp
  rw [pBranch, hc]
  simp only [show ¬ (40 : Int) = 124 by decide, show ¬ (40 : Int) = 41 by decide, show ¬ ((40 : Int) = 42 ∨ (40 : Int) = 43 ∨ (40 : Int) = 63 ∨ (40 : Int) = 93) by decide, if_false]
  rcases hg with e | ⟨q, e⟩
  · right
    rw [e]
    simp only [List.headD_cons]
    generalize pBranch cs f _ 0 (t + s) = r
    cases r <;> rfl
  · left
    rw [e]
    exact ⟨q, rfl⟩
theorem reps_none {m f : Nat} {n : Nd} (h : cs[m]? ≠ some 42 ∧ cs[m]? ≠ some 43 ∧ cs[m]? ≠ some 63) : pReps cs f m n = (n, m) := by
  cases f with
  | zero => rfl
  | succ f =>
    unfold pReps
    rw [if_neg h.1, if_neg h.2.1, if_neg h.2.2]
theorem br_nil {f m s : Nat} (hf : 0 < f) (h : cs[m]? = none ∨ cs[m]? = some 124) : pBranch cs f m 0 s = .ok [] m s := by
  obtain ⟨g, rfl⟩ : ∃ g, f = g + 1 := ⟨f - 1, by omega⟩
  rw [pBranch]
  rcases h with e | e
  · rw [e]
  · rw [e]; simp
/-- A branch that is a group alone. -/
theorem br_one (h : pAll P = .ok l j t) (hcs : cs = pre ++ 40 :: (P ++ 41 :: rest)) (hr : rest[0]? = none ∨ rest[0]? = some 124) {f : Nat} (hf : 3 * P.length + 4 ≤ f) (s : Nat) : Emb (pBranch cs (f + 1) pre.length 0 s) [.alt l] (pre.length + P.length + 2) (t + s) := by
  have h0 := at_rest hcs 0
  rw [Nat.add_zero] at h0
  have hn : pReps cs (cs.length - (pre.length + P.length + 2)) (pre.length + P.length + 2) (.alt l) = (.alt l, pre.length + P.length + 2) := reps_none (by rw [h0]; rcases hr with e | e <;> rw [e] <;> simp)
  rcases br_step h hcs hf s with e | e
  · exact .inr e
  · rw [hn] at e
    simp only at e
    rw [br_nil (f := f) (m := pre.length + P.length + 2) (s := t + s) (by omega) (by rw [h0]; exact hr)] at e
    exact .inl e
/-- A branch that is a group and an operator. -/
theorem br_op (h : pAll P = .ok l j t) (hcs : cs = pre ++ 40 :: (P ++ 41 :: rest)) {op : Int} (hop : rest[0]? = some op) (hr : rest[1]? = none ∨ rest[1]? = some 124) {n : Nd} (hn : (op = 42 ∧ n = .star (.alt l)) ∨ (op = 43 ∧ n = .plus (.alt l))) {f : Nat} (hf : 3 * P.length + 4 ≤ f) (s : Nat) : Emb (pBranch cs (f + 1) pre.length 0 s) [n] (pre.length + P.length + 3) (t + s) := by
  have h0 := at_rest hcs 0
  rw [Nat.add_zero] at h0
  have h1 := at_rest hcs 1
  have hl := len_rest hcs
  have hrl := (List.getElem?_eq_some_iff.1 hop).1
  have hn : pReps cs (cs.length - (pre.length + P.length + 2)) (pre.length + P.length + 2) (.alt l) = (n, pre.length + P.length + 3) := by
    obtain ⟨g, hg⟩ : ∃ g, cs.length - (pre.length + P.length + 2) = g + 1 := ⟨cs.length - (pre.length + P.length + 2) - 1, by omega⟩
    rw [hg]
    unfold pReps
    rw [h0, hop]
    have h2 : cs[pre.length + P.length + 2 + 1]? ≠ some 42 ∧ cs[pre.length + P.length + 2 + 1]? ≠ some 43 ∧ cs[pre.length + P.length + 2 + 1]? ≠ some 63 := by rw [h1]; rcases hr with e | e <;> rw [e] <;> simp
    rcases hn with ⟨rfl, rfl⟩ | ⟨rfl, rfl⟩
    · simp only [if_true]
      exact reps_none h2
    · simp only [if_true, show ¬ (some 43 : Option Int) = some 42 by simp, if_false]
      exact reps_none h2
  rcases br_step h hcs hf s with e | e
  · exact .inr e
  · rw [hn] at e
    simp only at e
    rw [br_nil (f := f) (m := pre.length + P.length + 3) (s := t + s) (by omega) (by rw [show pre.length + P.length + 3 = pre.length + P.length + 2 + 1 by omega, h1]; exact hr)] at e
    exact .inl e
end
variable {P Q : List Int} {l l' : List Nd} {j j' t t' : Nat}
/-- Read, or nested too deeply. -/
def Got (cs : List Int) (l : List Nd) : Prop := (∃ j t, pAll cs = .ok l j t) ∨ ∃ q, pAll cs = .bad q 3
theorem got_alt (h : pAll P = .ok l j t) (h' : pAll Q = .ok l' j' t') : Got (40 :: (P ++ 41 :: 124 :: 40 :: (Q ++ [41]))) [.cat [.alt l], .cat [.alt l']] := by
  generalize hcs : 40 :: (P ++ 41 :: 124 :: 40 :: (Q ++ [41])) = cs
  have e1 : cs = [] ++ 40 :: (P ++ 41 :: (124 :: 40 :: (Q ++ [41]))) := by rw [← hcs]; rfl
  have e2 : cs = (40 :: (P ++ [41, 124])) ++ 40 :: (Q ++ 41 :: []) := by rw [← hcs]; simp
  have hl := len_rest e1
  have hl2 : cs.length = P.length + Q.length + 5 := by rw [hl]; simp; omega
  unfold Got pAll
  obtain ⟨f, hf⟩ : ∃ f, 3 * cs.length + 3 = f + 1 + 1 := ⟨3 * cs.length + 1, by omega⟩
  rw [hf, pAlts]
  rcases br_one h e1 (.inr rfl) (f := f) (by omega) 0 with e | ⟨q, e⟩
  · simp only [List.length_nil, Nat.zero_add, Nat.add_zero] at e
    rw [e]
    simp only
    have h0 := at_rest e1 0
    simp only [List.length_nil, Nat.zero_add, Nat.add_zero] at h0
    rw [h0]
    simp only [List.getElem?_cons_zero, if_true]
    rw [pAlts]
    have hm : (40 :: (P ++ [41, 124])).length = P.length + 2 + 1 := by simp
    obtain ⟨g2, hg2⟩ : ∃ g2, f = g2 + 1 := ⟨f - 1, by omega⟩
    rcases br_one h' e2 (.inl rfl) (f := g2) (by omega) t with e3 | ⟨q, e3⟩
    · rw [hm, ← hg2] at e3
      rw [e3]
      simp only
      have h3 := at_rest e2 0
      rw [hm, Nat.add_zero] at h3
      rw [h3]
      simp only [List.getElem?_nil, reduceCtorEq, if_false]
      exact .inl ⟨_, _, rfl⟩
    · rw [hm, ← hg2] at e3
      rw [e3]
      exact .inr ⟨q, rfl⟩
  · simp only [List.length_nil] at e
    rw [e]
    exact .inr ⟨q, rfl⟩
theorem got_cat (h : pAll P = .ok l j t) (h' : pAll Q = .ok l' j' t') : Got (40 :: (P ++ 41 :: 40 :: (Q ++ [41]))) [.cat [.alt l, .alt l']] := by
  generalize hcs : 40 :: (P ++ 41 :: 40 :: (Q ++ [41])) = cs
  have e1 : cs = [] ++ 40 :: (P ++ 41 :: (40 :: (Q ++ [41]))) := by rw [← hcs]; rfl
  have e2 : cs = (40 :: (P ++ [41])) ++ 40 :: (Q ++ 41 :: []) := by rw [← hcs]; simp
  have hl := len_rest e1
  have hl2 : cs.length = P.length + Q.length + 4 := by rw [hl]; simp; omega
  unfold Got pAll
  obtain ⟨f, hf⟩ : ∃ f, 3 * cs.length + 3 = f + 1 + 1 := ⟨3 * cs.length + 1, by omega⟩
  rw [hf, pAlts]
  have h0 := at_rest e1 0
  simp only [List.length_nil, Nat.zero_add, Nat.add_zero] at h0
  have hm : (40 :: (P ++ [41])).length = P.length + 2 := by simp
  have h3 := at_rest e2 0
  rw [hm, Nat.add_zero] at h3
  rcases br_step h e1 (f := f) (by omega) 0 with ⟨q, e⟩ | e
  · simp only [List.length_nil] at e
    rw [e]
    exact .inr ⟨q, rfl⟩
  · simp only [List.length_nil, Nat.zero_add, Nat.add_zero] at e
    rw [reps_none (by rw [h0]; simp)] at e
    simp only at e
    obtain ⟨g, hg⟩ : ∃ g, f = g + 1 := ⟨f - 1, by omega⟩
    rcases br_one h' e2 (.inl rfl) (f := g) (by omega) t with e3 | ⟨q, e3⟩
    · rw [hm, ← hg] at e3
      rw [e3] at e
      simp only at e
      rw [e]
      simp only
      rw [h3]
      simp only [List.getElem?_nil, reduceCtorEq, if_false]
      exact .inl ⟨_, _, rfl⟩
    · rw [hm, ← hg] at e3
      rw [e3] at e
      simp only at e
      rw [e]
      exact .inr ⟨q, rfl⟩
theorem got_star (h : pAll P = .ok l j t) : Got (40 :: (P ++ [41, 42])) [.cat [.star (.alt l)]] := by
  generalize hcs : 40 :: (P ++ [41, 42]) = cs
  have e1 : cs = [] ++ 40 :: (P ++ 41 :: [42]) := by rw [← hcs]; rfl
  have hl := len_rest e1
  have hl2 : cs.length = P.length + 3 := by rw [hl]; simp
  unfold Got pAll
  obtain ⟨f, hf⟩ : ∃ f, 3 * cs.length + 3 = f + 1 + 1 := ⟨3 * cs.length + 1, by omega⟩
  rw [hf, pAlts]
  have h1 := at_rest e1 1
  simp only [List.length_nil, Nat.zero_add] at h1
  rcases br_op h e1 (op := 42) rfl (.inl rfl) (.inl ⟨rfl, rfl⟩) (f := f) (by omega) 0 with e | ⟨q, e⟩
  · simp only [List.length_nil, Nat.zero_add, Nat.add_zero] at e
    rw [e]
    simp only
    rw [show P.length + 3 = P.length + 2 + 1 by omega, h1]
    simp only [List.getElem?_cons_succ, List.getElem?_nil, reduceCtorEq, if_false]
    exact .inl ⟨_, _, rfl⟩
  · simp only [List.length_nil] at e
    rw [e]
    exact .inr ⟨q, rfl⟩
theorem got_plus (h : pAll P = .ok l j t) : Got (40 :: (P ++ [41, 43, 124])) [.cat [.plus (.alt l)], .cat []] := by
  generalize hcs : 40 :: (P ++ [41, 43, 124]) = cs
  have e1 : cs = [] ++ 40 :: (P ++ 41 :: [43, 124]) := by rw [← hcs]; rfl
  have hl := len_rest e1
  have hl2 : cs.length = P.length + 4 := by rw [hl]; simp
  unfold Got pAll
  obtain ⟨f, hf⟩ : ∃ f, 3 * cs.length + 3 = f + 1 + 1 := ⟨3 * cs.length + 1, by omega⟩
  rw [hf, pAlts]
  have h1 := at_rest e1 1
  simp only [List.length_nil, Nat.zero_add] at h1
  have h2 := at_rest e1 2
  simp only [List.length_nil, Nat.zero_add] at h2
  rcases br_op h e1 (op := 43) rfl (.inr rfl) (.inr ⟨rfl, rfl⟩) (f := f) (by omega) 0 with e | ⟨q, e⟩
  · simp only [List.length_nil, Nat.zero_add, Nat.add_zero] at e
    rw [e]
    simp only
    rw [show P.length + 3 = P.length + 2 + 1 by omega, h1]
    simp only [List.getElem?_cons_succ, List.getElem?_cons_zero, if_true]
    rw [pAlts, br_nil (by omega) (.inl (by rw [show P.length + 2 + 1 + 1 = P.length + 2 + 2 by omega, h2]; rfl))]
    simp only
    rw [show P.length + 2 + 1 + 1 = P.length + 2 + 2 by omega, h2]
    simp only [List.getElem?_cons_succ, List.getElem?_nil, reduceCtorEq, if_false]
    exact .inl ⟨_, _, rfl⟩
  · simp only [List.length_nil] at e
    rw [e]
    exact .inr ⟨q, rfl⟩
/-- What they match. -/
theorem cat1_iff {s : List Int} {x : Nd} {a b : Nat} : Mt s (.cat [x]) a b ↔ Mt s x a b := by
  constructor
  · intro h
    cases h with | catS h1 h2 => cases h2 with | cat0 _ => exact h1
  · intro h
    exact .catS h (.cat0 h.le.2)
theorem alt_match {s : List Int} {x y : Nd} {a b : Nat} : Mt s (.alt [.cat [x], .cat [y]]) a b ↔ Mt s x a b ∨ Mt s y a b := by
  rw [alt_iff]
  simp only [List.mem_cons, List.not_mem_nil, or_false, exists_eq_or_imp, exists_eq_left, cat1_iff]
theorem star_match {s : List Int} {x : Nd} {a b : Nat} : Mt s (.alt [.cat [.star x]]) a b ↔ Mt s (.star x) a b := by
  rw [alt_iff]
  simp only [List.mem_cons, List.not_mem_nil, or_false, exists_eq_left, cat1_iff]
theorem plus_match {s : List Int} {x : Nd} {a b : Nat} : Mt s (.alt [.cat [.plus x], .cat []]) a b ↔ Mt s (.star x) a b := by
  rw [alt_iff]
  simp only [List.mem_cons, List.not_mem_nil, or_false, exists_eq_or_imp, exists_eq_left, cat1_iff, plus_iff]
  constructor
  · rintro (⟨k, h1, h2⟩ | h)
    · exact .starS h1 h2
    · cases h with | cat0 h => exact .star0 h
  · intro h
    rcases star_iff.1 h with ⟨rfl, h0⟩ | ⟨k, _, h1, h2⟩
    · exact .inr (.cat0 h0)
    · exact .inl ⟨k, h1, h2⟩
theorem cat_match {s : List Int} {x y : Nd} {a b : Nat} : Mt s (.alt [.cat [x, y]]) a b ↔ ∃ k, Mt s x a k ∧ Mt s y k b := by
  rw [alt_iff]
  simp only [List.mem_cons, List.not_mem_nil, or_false, exists_eq_left]
  constructor
  · intro h
    cases h with | catS h1 h2 => exact ⟨_, h1, cat1_iff.1 h2⟩
  · rintro ⟨k, h1, h2⟩
    exact .catS h1 (cat1_iff.2 h2)
theorem star_once {s : List Int} {x : Nd} {a b : Nat} (h : Mt s x a b) : Mt s (.star x) a b := .starS h (.star0 h.le.2)
end Go.Proofs.Ytcajnmhbkjngbaa

