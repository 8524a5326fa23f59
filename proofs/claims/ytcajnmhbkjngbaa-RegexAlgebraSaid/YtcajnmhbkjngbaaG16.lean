/- Texts on regular expressions, merged: R8, R9, R10. -/
import Derived.Test.YtcajnmhbkjngbaaG01
/- Expressions that were read: their sets are small; parts of a whole, in plain Lean. -/
namespace Go.Proofs.Ytcajnmhbkjngbaa

/-- All sets have at most so many spans. -/
inductive Sp (N : Nat) : Nd → Prop
  | set {s : CSet} : s.spans.length ≤ N → Sp N (.set s)
  | beg : Sp N .beg
  | fin : Sp N .fin
  | cat {l : List Nd} : (∀ x ∈ l, Sp N x) → Sp N (.cat l)
  | alt {l : List Nd} : (∀ x ∈ l, Sp N x) → Sp N (.alt l)
  | star {x : Nd} : Sp N x → Sp N (.star x)
  | plus {x : Nd} : Sp N x → Sp N (.plus x)
  | opt {x : Nd} : Sp N x → Sp N (.opt x)
theorem Impl.sp {c : List In} {N : Nat} {n : Nd} {f t : Nat} (h : Impl c n f t) : Sp N n → ∀ (k : Nat) (z : CSet), f ≤ k → k < t → c[k]? = some (.take z) → z.spans.length ≤ N := by
  induction h with
  | set h =>
    intro hs k z h1 h2 h3
    cases hs with | set hs =>
    rename_i s f
    obtain rfl : k = f := by omega
    rw [h] at h3
    injection h3 with h3
    injection h3 with h3
    rw [← h3]; exact hs
  | beg h =>
    intro hs k z h1 h2 h3
    rename_i f
    obtain rfl : k = f := by omega
    rw [h] at h3; cases h3
  | fin h =>
    intro hs k z h1 h2 h3
    rename_i f
    obtain rfl : k = f := by omega
    rw [h] at h3; cases h3
  | cat0 => intro hs k z h1 h2; omega
  | catS ha hb i1 i2 =>
    rename_i x xs f m t
    intro hs k z h1 h2 h3
    cases hs with | cat hs =>
    by_cases e : k < m
    · exact i1 (hs _ List.mem_cons_self) k z h1 e h3
    · exact i2 (.cat fun y hy => hs y (List.mem_cons_of_mem _ hy)) k z (by omega) h2 h3
  | alt1 _ ih =>
    intro hs
    cases hs with | alt hs => exact ih (hs _ List.mem_cons_self)
  | altS hne hsp ha hj hb i1 i2 =>
    rename_i x xs f m t
    intro hs k z h1 h2 h3
    cases hs with | alt hs =>
    by_cases e0 : k = f
    · subst e0; rw [hsp] at h3; cases h3
    by_cases e : k < m
    · exact i1 (hs _ List.mem_cons_self) k z (by omega) e h3
    by_cases e2 : k = m
    · subst e2; rw [hj] at h3; cases h3
    · exact i2 (.alt fun y hy => hs y (List.mem_cons_of_mem _ hy)) k z (by omega) h2 h3
  | star hsp ha hj ih =>
    rename_i x f m
    intro hs k z h1 h2 h3
    cases hs with | star hs =>
    by_cases e0 : k = f
    · subst e0; rw [hsp] at h3; cases h3
    by_cases e : k < m
    · exact ih hs k z (by omega) e h3
    · obtain rfl : k = m := by omega
      rw [hj] at h3; cases h3
  | plus ha hsp ih =>
    rename_i x f m
    intro hs k z h1 h2 h3
    cases hs with | plus hs =>
    by_cases e : k < m
    · exact ih hs k z (by omega) e h3
    · obtain rfl : k = m := by omega
      rw [hsp] at h3; cases h3
  | opt hsp ha ih =>
    rename_i x f m
    intro hs k z h1 h2 h3
    cases hs with | opt hs =>
    by_cases e0 : k = f
    · subst e0; rw [hsp] at h3; cases h3
    · exact ih hs k z (by omega) h2 h3
theorem Auto.sp {c : List In} {n : Nd} (h : Auto c n) {N : Nat} (hs : Sp N n) (k : Nat) (z : CSet) (hk : c[k]? = some (.take z)) : z.spans.length ≤ N := by
  have h1 := (List.getElem?_eq_some_iff.1 hk).1
  by_cases e : k = c.length - 1
  · subst e; rw [h.acc] at hk; cases hk
  · exact h.im.sp hs k z (Nat.zero_le _) (by omega) hk
theorem pSpn_sp {cs : List Int} : ∀ {f i k : Nat} {l : List (Int × Int)}, pSpn cs f i = .inl (l, k) → l.length + i ≤ k
  | 0, i, k, l, h => by cases h
  | f + 1, i, k, l, h => by
    unfold pSpn at h
    split at h
    · cases h
    · rename_i c hc
      by_cases h93 : c = 93
      · rw [if_pos h93] at h; cases h; simp
      · rw [if_neg h93] at h
        split at h
        · cases h
        · rename_i a j hs
          have h2 := pSng_le hs
          by_cases hd : dash cs j = true
          · rw [if_pos hd] at h
            split at h
            · cases h
            · rename_i b m hm
              have h3 := pSng_le hm
              by_cases hba : b < a
              · rw [if_pos hba] at h; cases h
              · rw [if_neg hba] at h
                obtain ⟨l', h4, rfl⟩ := consS_inl h
                have := pSpn_sp h4
                rw [List.length_cons]
                omega
          · rw [if_neg hd] at h
            obtain ⟨l', h4, rfl⟩ := consS_inl h
            have := pSpn_sp h4
            rw [List.length_cons]
            omega
theorem pSet2_sp {cs : List Int} {inv : Bool} {i k : Nat} {t : CSet} (h : pSet2 cs inv i = .inl (t, k)) : t.spans.length ≤ cs.length := by
  have hle := pSet2_le h
  unfold pSet2 at h
  split at h
  · cases h
  · split at h
    · rename_i l k' hp
      cases h
      have := pSpn_sp hp
      show l.length ≤ _
      omega
    · cases h
theorem pSet_sp {cs : List Int} {i k : Nat} {t : CSet} (h : pSet cs i = .inl (t, k)) : t.spans.length ≤ cs.length := by
  unfold pSet at h
  split at h
  · exact pSet2_sp h
  · exact pSet2_sp h
theorem pReps_sp {cs : List Int} {N : Nat} : ∀ (f i : Nat) (n : Nd), Sp N n → Sp N (pReps cs f i n).1
  | 0, _, _, h => h
  | f + 1, i, n, h => by
    unfold pReps
    split
    · exact pReps_sp f _ _ (.star h)
    · split
      · exact pReps_sp f _ _ (.plus h)
      · split
        · exact pReps_sp f _ _ (.opt h)
        · exact h
theorem pChar_sp {cs : List Int} {c : Int} {i s j t : Nat} {l : List Nd} (hi : i < cs.length) (h : pChar cs c i s = .ok l j t) : ∀ n ∈ l, Sp cs.length n := by
  unfold pChar at h
  split at h
  · cases h; intro n hn; rw [List.mem_singleton] at hn; subst hn; exact .set (Nat.zero_le _)
  · split at h
    · cases h; intro n hn; rw [List.mem_singleton] at hn; subst hn; exact .beg
    · split at h
      · cases h; intro n hn; rw [List.mem_singleton] at hn; subst hn; exact .fin
      · split at h
        · split at h
          · rename_i hp; cases h; intro n hn; rw [List.mem_singleton] at hn; subst hn; exact .set (pSet_sp hp)
          · cases h
        · split at h
          · split at h
            · cases h
            · cases h; intro n hn; rw [List.mem_singleton] at hn; subst hn; exact .set (show 1 ≤ _ by omega)
          · cases h; intro n hn; rw [List.mem_singleton] at hn; subst hn; exact .set (show 1 ≤ _ by omega)
theorem parse_sp {cs : List Int} : ∀ f : Nat,
    (∀ i d s l j t, pAlts cs f i d s = .ok l j t → ∀ n ∈ l, Sp cs.length n) ∧
    (∀ i d s l j t, pBranch cs f i d s = .ok l j t → ∀ n ∈ l, Sp cs.length n) ∧
    (∀ i d s l j t, pAtom cs f i d s = .ok l j t → ∀ n ∈ l, Sp cs.length n)
  | 0 => ⟨fun i d s l j t h => by simp [pAlts] at h, fun i d s l j t h => by simp [pBranch] at h, fun i d s l j t h => by simp [pAtom] at h⟩
  | f + 1 => by
    obtain ⟨h1, h2, h3⟩ := parse_sp (cs := cs) f
    have hp := parse_le cs f
    refine ⟨fun i d s l j t h => ?_, fun i d s l j t h => ?_, fun i d s l j t h => ?_⟩
    · rw [pAlts] at h
      split at h
      · cases h
      · rename_i l' j' t' hb
        have hb2 := h2 _ _ _ _ _ _ hb
        split at h
        · split at h
          · cases h
          · rename_i ms k u ha
            have := h1 _ _ _ _ _ _ ha
            cases h
            intro n hn
            rcases List.mem_cons.1 hn with rfl | hn
            · exact .cat hb2
            · exact this n hn
        · cases h
          intro n hn
          rw [List.mem_singleton] at hn
          subst hn
          exact .cat hb2
    · rw [pBranch] at h
      split at h
      · cases h; intro n hn; cases hn
      · split at h
        · cases h; intro n hn; cases hn
        · split at h
          · split at h
            · cases h
            · cases h; intro n hn; cases hn
          · split at h
            · cases h
            · split at h
              · cases h
              · rename_i l' j' t' ha
                have ha2 := h3 _ _ _ _ _ _ ha
                obtain ⟨_, _, n0, rfl⟩ := hp.2.2 _ _ _ _ _ _ ha
                split at h
                · cases h
                · rename_i ms k u hb
                  have hb2 := h2 _ _ _ _ _ _ hb
                  cases h
                  intro n hn
                  rcases List.mem_cons.1 hn with rfl | hn
                  · exact pReps_sp _ _ _ (ha2 _ List.mem_cons_self)
                  · exact hb2 n hn
    · rw [pAtom] at h
      split at h
      · cases h
      · rename_i c hcc
        split at h
        · split at h
          · cases h
          · split at h
            · cases h
            · rename_i l' j' t' ha
              have := h1 _ _ _ _ _ _ ha
              split at h
              · cases h
                intro n hn
                rw [List.mem_singleton] at hn
                subst hn
                exact .alt this
              · cases h
        · exact pChar_sp (List.getElem?_eq_some_iff.1 hcc).1 h
theorem pAll_sp {cs : List Int} {l : List Nd} {j t : Nat} (h : pAll cs = .ok l j t) : Sp cs.length (.alt l) := .alt ((parse_sp _).1 _ _ _ _ _ _ h)
theorem pAll_un {cs : List Int} (hc : ∀ c ∈ cs, c ≠ 94 ∧ c ≠ 36) {l : List Nd} {j t : Nat} (h : pAll cs = .ok l j t) : Un (.alt l) := .alt ((parse_un hc _).1 _ _ _ _ _ _ h)
end Go.Proofs.Ytcajnmhbkjngbaa

/- The chapter's examples, in plain Lean. -/
namespace Go.Proofs.Ytcajnmhbkjngbaa

def exN1 : Nd := .alt [.cat [.set ⟨[(97, 97)], false⟩], .cat [.set ⟨[(97, 97)], false⟩, .set ⟨[(98, 98)], false⟩]]
def exL1 : List Int := [120, 97, 98, 99]
def exN2 : Nd := .alt [.cat [.star (.set ⟨[(120, 120)], false⟩)]]
def exL2 : List Int := [97, 120, 98]
theorem one_has {c d : Int} (h : CSet.has ⟨[(c, c)], false⟩ d = true) : d = c := by
  simp [CSet.has, CSet.inS] at h
  omega
theorem ex_get1 {i : Nat} {c : Int} (h : exL1[i]? = some c) : (i = 0 ∧ c = 120) ∨ (i = 1 ∧ c = 97) ∨ (i = 2 ∧ c = 98) ∨ (i = 3 ∧ c = 99) := by
  rcases i with _ | _ | _ | _ | i <;> simp [exL1] at h <;> omega
theorem ex_get2 {i : Nat} {c : Int} (h : exL2[i]? = some c) : (i = 0 ∧ c = 97) ∨ (i = 1 ∧ c = 120) ∨ (i = 2 ∧ c = 98) := by
  rcases i with _ | _ | _ | i <;> simp [exL2] at h <;> omega
theorem ex1_all {s j : Nat} (h : Mt exL1 exN1 s j) : s = 1 ∧ (j = 2 ∨ j = 3) := by
  obtain ⟨x, hx, h⟩ := alt_iff.1 h
  rcases List.mem_cons.1 hx with rfl | hx
  · cases h with | catS h1 h2 =>
    cases h2 with | cat0 _ =>
    cases h1 with | set h3 h4 =>
    have := one_has h4
    have := ex_get1 h3
    omega
  · rw [List.mem_singleton] at hx
    subst hx
    cases h with | catS h1 h2 =>
    cases h2 with | catS h5 h6 =>
    cases h6 with | cat0 _ =>
    cases h1 with | set h3 h4 =>
    cases h5 with | set h7 h8 =>
    have := one_has h4
    have := ex_get1 h3
    have := one_has h8
    have := ex_get1 h7
    omega
theorem ex1_yes : Mt exL1 exN1 1 3 := alt_iff.2 ⟨_, List.mem_cons_of_mem _ List.mem_cons_self, .catS (.set (c := 97) rfl rfl) (.catS (.set (c := 98) rfl rfl) (.cat0 (by decide)))⟩
theorem ex1_first : First exL1 exN1 0 (some (1, 3)) :=
  ⟨fun h => (by cases h), fun b e h => by
    injection h with h; injection h with h1 h2; subst h1; subst h2
    exact ⟨ex1_yes, by omega, fun s _ hs j hj => by have := ex1_all hj; omega, fun j hj => by have := ex1_all hj; omega⟩⟩
theorem ex2_star {s j : Nat} (h : Mt exL2 (.star (.set ⟨[(120, 120)], false⟩)) s j) : j = s ∨ (s = 1 ∧ j = 2) := by
  refine Mt.star_rec (P := fun s j => j = s ∨ (s = 1 ∧ j = 2)) (fun i _ => .inl rfl) (fun i k j hx hr => ?_) h
  cases hx with | set h3 h4 =>
  have := one_has h4
  have := ex_get2 h3
  omega
theorem ex2_all {s j : Nat} (h : Mt exL2 exN2 s j) : j = s ∨ (s = 1 ∧ j = 2) := by
  obtain ⟨x, hx, h⟩ := alt_iff.1 h
  rw [List.mem_singleton] at hx
  subst hx
  cases h with | catS h1 h2 =>
  cases h2 with | cat0 _ =>
  exact ex2_star h1
theorem ex2_empty {s : Nat} (h : s ≤ 3) : Mt exL2 exN2 s s := alt_iff.2 ⟨_, List.mem_cons_self, .catS (.star0 h) (.cat0 h)⟩
theorem ex2_yes : Mt exL2 exN2 1 2 := alt_iff.2 ⟨_, List.mem_cons_self, .catS (.starS (.set (c := 120) rfl rfl) (.star0 (by decide))) (.cat0 (by decide))⟩
theorem ex2_first1 : First exL2 exN2 1 (some (1, 2)) :=
  ⟨fun h => (by cases h), fun b e h => by
    injection h with h; injection h with h1 h2; subst h1; subst h2
    exact ⟨ex2_yes, by omega, fun s h1 hs j hj => by omega, fun j hj => by have := ex2_all hj; omega⟩⟩
theorem ex2_first {s : Nat} (h : s ≤ 3) (h1 : s ≠ 1) : First exL2 exN2 s (some (s, s)) :=
  ⟨fun h => (by cases h), fun b e h => by
    injection h with h; injection h with h1 h2; subst h1; subst h2
    exact ⟨ex2_empty (by assumption), by omega, fun s h1 hs j hj => by omega, fun j hj => by have := ex2_all hj; omega⟩⟩
/-- What is found, one after the other: from a place on, with the end of the last one. -/
def allF (F : Nat → Option (Nat × Nat)) (N : Nat) : Nat → Nat → Int → List (Nat × Nat)
  | 0, _, _ => []
  | f + 1, at_, last => if N < at_ then [] else match F at_ with
    | none => []
    | some (i, j) => if i = j ∧ (i : Int) = last then allF F N f (j + 1) last else (i, j) :: allF F N f (if i = j then j + 1 else j) j
end Go.Proofs.Ytcajnmhbkjngbaa

/- Reading an expression never runs out of fuel: a fault has a code. -/
namespace Go.Proofs.Ytcajnmhbkjngbaa

theorem consS_inr {p : Int × Int} {r : SpR} {q : Nat} {e : Int} (h : consS p r = .inr (q, e)) : r = .inr (q, e) := by
  match r with
  | .inl (l', k') => cases h
  | .inr f => exact h
theorem pSpn_code {cs : List Int} : ∀ {f i q : Nat} {e : Int}, i ≤ cs.length → cs.length + 1 ≤ f + i → pSpn cs f i = .inr (q, e) → e ≠ 0
  | 0, i, q, e, h0, h1, h => by omega
  | f + 1, i, q, e, h0, h1, h => by
    unfold pSpn at h
    split at h
    · cases h; decide
    · rename_i c hc
      by_cases h93 : c = 93
      · rw [if_pos h93] at h; cases h
      · rw [if_neg h93] at h
        split at h
        · cases h; decide
        · rename_i a j hs
          have h2 := pSng_le hs
          by_cases hd : dash cs j = true
          · rw [if_pos hd] at h
            split at h
            · cases h; decide
            · rename_i b m hm
              have h3 := pSng_le hm
              by_cases hba : b < a
              · rw [if_pos hba] at h; cases h; decide
              · rw [if_neg hba] at h
                exact pSpn_code h3.2 (by omega) (consS_inr h)
          · rw [if_neg hd] at h
            exact pSpn_code h2.2 (by omega) (consS_inr h)
theorem pSet2_code {cs : List Int} {inv : Bool} {i q : Nat} {e : Int} (hi : i ≤ cs.length) (h : pSet2 cs inv i = .inr (q, e)) : e ≠ 0 := by
  unfold pSet2 at h
  split at h
  · cases h; decide
  · split at h
    · cases h
    · rename_i f hf
      cases h
      exact pSpn_code hi (by omega) hf
theorem pSet_code {cs : List Int} {i q : Nat} {e : Int} (hi : i ≤ cs.length) (h : pSet cs i = .inr (q, e)) : e ≠ 0 := by
  unfold pSet at h
  split at h
  · rename_i h1
    have := (List.getElem?_eq_some_iff.1 h1).1
    exact pSet2_code (by omega) h
  · exact pSet2_code hi h
theorem pChar_code {cs : List Int} {c : Int} {i s q : Nat} {e : Int} (hi : i < cs.length) (h : pChar cs c i s = .bad q e) : e ≠ 0 := by
  unfold pChar at h
  split at h
  · cases h
  · split at h
    · cases h
    · split at h
      · cases h
      · split at h
        · split at h
          · cases h
          · rename_i hp; cases h; exact pSet_code (by omega) hp
        · split at h
          · split at h
            · cases h; decide
            · cases h
          · cases h
theorem parse_code {cs : List Int} : ∀ f : Nat,
    (∀ i d s q e, i ≤ cs.length → 3 * (cs.length - i) + 3 ≤ f → pAlts cs f i d s = .bad q e → e ≠ 0) ∧
    (∀ i d s q e, i ≤ cs.length → 3 * (cs.length - i) + 2 ≤ f → pBranch cs f i d s = .bad q e → e ≠ 0) ∧
    (∀ i d s q e, i < cs.length → 3 * (cs.length - i) + 1 ≤ f → pAtom cs f i d s = .bad q e → e ≠ 0)
  | 0 => ⟨fun i d s q e h h1 => by omega, fun i d s q e h h1 => by omega, fun i d s q e h h1 => by omega⟩
  | f + 1 => by
    obtain ⟨h1, h2, h3⟩ := parse_code (cs := cs) f
    have hp := parse_le cs f
    refine ⟨fun i d s q e hi hf h => ?_, fun i d s q e hi hf h => ?_, fun i d s q e hi hf h => ?_⟩
    · rw [pAlts] at h
      split at h
      · rename_i hb; cases h; exact h2 _ _ _ _ _ hi (by omega) hb
      · rename_i l' j' t' hb
        have hb2 := hp.2.1 _ _ _ _ _ _ hi hb
        split at h
        · rename_i hbar
          have := (List.getElem?_eq_some_iff.1 hbar).1
          split at h
          · rename_i ha; cases h; exact h1 _ _ _ _ _ (by omega) (by omega) ha
          · cases h
        · cases h
    · rw [pBranch] at h
      split at h
      · cases h
      · rename_i c hc
        have := (List.getElem?_eq_some_iff.1 hc).1
        split at h
        · cases h
        · split at h
          · split at h
            · cases h; decide
            · cases h
          · split at h
            · cases h; decide
            · split at h
              · rename_i ha; cases h; exact h3 _ _ _ _ _ (by omega) (by omega) ha
              · rename_i l' j' t' ha
                have ha2 := hp.2.2 _ _ _ _ _ _ ha
                have hr := pReps_le (cs.length - j') j' (l'.headD .beg) ha2.2.1
                split at h
                · rename_i hb; cases h; exact h2 _ _ _ _ _ hr.2 (by omega) hb
                · cases h
    · rw [pAtom] at h
      split at h
      · rename_i hn; rw [List.getElem?_eq_getElem hi] at hn; cases hn
      · rename_i c hcc
        split at h
        · split at h
          · cases h; decide
          · split at h
            · rename_i ha; cases h; exact h1 _ _ _ _ _ (by omega) (by omega) ha
            · split at h
              · cases h
              · cases h; decide
        · exact pChar_code hi h
theorem pAll_code {cs : List Int} {q : Nat} {e : Int} (h : pAll cs = .bad q e) : e ≠ 0 := (parse_code _).1 _ _ _ _ _ (Nat.zero_le _) (by omega) h
end Go.Proofs.Ytcajnmhbkjngbaa

