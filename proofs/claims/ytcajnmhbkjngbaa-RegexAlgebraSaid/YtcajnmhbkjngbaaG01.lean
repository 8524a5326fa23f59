/- Texts on regular expressions, merged: R1, R2, R3, R4, R5, R6, R7. -/
/- Expressions in plain Lean: what they match; automata; both agree. -/
namespace Go.Proofs.Ytcajnmhbkjngbaa

/-- A set of characters. -/
structure CSet where
  spans : List (Int × Int)
  inv : Bool
def CSet.inS (s : CSet) (c : Int) : Bool := s.spans.any fun p => decide (p.1 ≤ c) && decide (c ≤ p.2)
def CSet.has (s : CSet) (c : Int) : Bool := if s.inv then !s.inS c && decide (c ≠ 10) else s.inS c
/-- An expression. -/
inductive Nd
  | set (s : CSet)
  | beg
  | fin
  | cat (l : List Nd)
  | alt (l : List Nd)
  | star (n : Nd)
  | plus (n : Nd)
  | opt (n : Nd)
/-- At the beginning, at the end of a line. -/
def begL (l : List Int) (i : Nat) : Bool := decide (i = 0) || decide (l[i - 1]? = some 10)
def finL (l : List Int) (i : Nat) : Bool := decide (l.length ≤ i) || decide (l[i]? = some 10)
/-- An expression matches the part from i to j. -/
inductive Mt (l : List Int) : Nd → Nat → Nat → Prop
  | set {s : CSet} {i : Nat} {c : Int} : l[i]? = some c → s.has c = true → Mt l (.set s) i (i + 1)
  | beg {i : Nat} : i ≤ l.length → begL l i = true → Mt l .beg i i
  | fin {i : Nat} : i ≤ l.length → finL l i = true → Mt l .fin i i
  | cat0 {i : Nat} : i ≤ l.length → Mt l (.cat []) i i
  | catS {x : Nd} {xs : List Nd} {i k j : Nat} : Mt l x i k → Mt l (.cat xs) k j → Mt l (.cat (x :: xs)) i j
  | altH {x : Nd} {xs : List Nd} {i j : Nat} : Mt l x i j → Mt l (.alt (x :: xs)) i j
  | altT {x : Nd} {xs : List Nd} {i j : Nat} : Mt l (.alt xs) i j → Mt l (.alt (x :: xs)) i j
  | star0 {x : Nd} {i : Nat} : i ≤ l.length → Mt l (.star x) i i
  | starS {x : Nd} {i k j : Nat} : Mt l x i k → Mt l (.star x) k j → Mt l (.star x) i j
  | plus {x : Nd} {i k j : Nat} : Mt l x i k → Mt l (.star x) k j → Mt l (.plus x) i j
  | opt0 {x : Nd} {i : Nat} : i ≤ l.length → Mt l (.opt x) i i
  | optS {x : Nd} {i j : Nat} : Mt l x i j → Mt l (.opt x) i j
theorem Mt.le {l : List Int} {n : Nd} {i j : Nat} (h : Mt l n i j) : i ≤ j ∧ j ≤ l.length := by
  induction h with
  | set h _ => have := (List.getElem?_eq_some_iff.1 h).1; omega
  | beg h _ => omega
  | fin h _ => omega
  | cat0 h => omega
  | catS _ _ h1 h2 => omega
  | altH _ h => exact h
  | altT _ h => exact h
  | star0 h => omega
  | starS _ _ h1 h2 => omega
  | plus _ _ h1 h2 => omega
  | opt0 h => omega
  | optS _ h => exact h
/-- An instruction of an automaton. -/
inductive In
  | acc
  | take (s : CSet)
  | split (x y : Nat)
  | jump (x : Nat)
  | beg
  | fin
/-- The instructions from f up to t are those of an expression. -/
inductive Impl (c : List In) : Nd → Nat → Nat → Prop
  | set {s : CSet} {f : Nat} : c[f]? = some (.take s) → Impl c (.set s) f (f + 1)
  | beg {f : Nat} : c[f]? = some .beg → Impl c .beg f (f + 1)
  | fin {f : Nat} : c[f]? = some .fin → Impl c .fin f (f + 1)
  | cat0 {f : Nat} : Impl c (.cat []) f f
  | catS {x : Nd} {xs : List Nd} {f m t : Nat} : Impl c x f m → Impl c (.cat xs) m t → Impl c (.cat (x :: xs)) f t
  | alt1 {x : Nd} {f t : Nat} : Impl c x f t → Impl c (.alt [x]) f t
  | altS {x : Nd} {xs : List Nd} {f m t : Nat} : xs ≠ [] → c[f]? = some (.split (f + 1) (m + 1)) → Impl c x (f + 1) m → c[m]? = some (.jump t) → Impl c (.alt xs) (m + 1) t → Impl c (.alt (x :: xs)) f t
  | star {x : Nd} {f m : Nat} : c[f]? = some (.split (f + 1) (m + 1)) → Impl c x (f + 1) m → c[m]? = some (.jump f) → Impl c (.star x) f (m + 1)
  | plus {x : Nd} {f m : Nat} : Impl c x f m → c[m]? = some (.split f (m + 1)) → Impl c (.plus x) f (m + 1)
  | opt {x : Nd} {f m : Nat} : c[f]? = some (.split (f + 1) m) → Impl c x (f + 1) m → Impl c (.opt x) f m
theorem Impl.le {c : List In} {n : Nd} {f t : Nat} (h : Impl c n f t) : f ≤ t := by
  induction h with
  | set _ => omega
  | beg _ => omega
  | fin _ => omega
  | cat0 => omega
  | catS _ _ h1 h2 => omega
  | alt1 _ h => exact h
  | altS _ _ _ _ _ h1 h2 => omega
  | star _ _ _ h => omega
  | plus _ _ h => omega
  | opt _ _ h => omega
/-- A step of the automaton: an instruction, a place in the string. -/
inductive Stp (c : List In) (l : List Int) : Nat → Nat → Nat → Nat → Prop
  | take {p i : Nat} {s : CSet} {x : Int} : c[p]? = some (.take s) → l[i]? = some x → s.has x = true → Stp c l p i (p + 1) (i + 1)
  | splitX {p i x y : Nat} : c[p]? = some (.split x y) → Stp c l p i x i
  | splitY {p i x y : Nat} : c[p]? = some (.split x y) → Stp c l p i y i
  | jump {p i x : Nat} : c[p]? = some (.jump x) → Stp c l p i x i
  | beg {p i : Nat} : c[p]? = some .beg → begL l i = true → Stp c l p i (p + 1) i
  | fin {p i : Nat} : c[p]? = some .fin → finL l i = true → Stp c l p i (p + 1) i
/-- So many steps. -/
inductive Run (c : List In) (l : List Int) : Nat → Nat → Nat → Nat → Nat → Prop
  | nil {p i : Nat} : Run c l 0 p i p i
  | cons {k p i p' i' q j : Nat} : Stp c l p i p' i' → Run c l k p' i' q j → Run c l (k + 1) p i q j
theorem Run.trans {c : List In} {l : List Int} {k k' p i q j r m : Nat} (h : Run c l k p i q j) (h' : Run c l k' q j r m) : Run c l (k + k') p i r m := by
  induction h with
  | nil => rw [Nat.zero_add]; exact h'
  | cons s _ ih => rw [Nat.add_right_comm]; exact .cons s (ih h')
theorem Run.one {c : List In} {l : List Int} {p i q j : Nat} (h : Stp c l p i q j) : Run c l 1 p i q j := .cons h .nil
theorem Stp.le {c : List In} {l : List Int} {p i q j : Nat} (h : Stp c l p i q j) (hi : i ≤ l.length) : i ≤ j ∧ j ≤ l.length := by
  cases h with
  | take _ h _ => have := (List.getElem?_eq_some_iff.1 h).1; omega
  | splitX _ => omega
  | splitY _ => omega
  | jump _ => omega
  | beg _ _ => omega
  | fin _ _ => omega
theorem Run.le {c : List In} {l : List Int} {k p i q j : Nat} (h : Run c l k p i q j) (hi : i ≤ l.length) : i ≤ j ∧ j ≤ l.length := by
  induction h with
  | nil => omega
  | cons s _ ih => have := s.le hi; have := ih this.2; omega
/-- The rounds of a star, one after the other. -/
theorem Mt.star_rec {l : List Int} {x : Nd} {P : Nat → Nat → Prop} (h0 : ∀ i, i ≤ l.length → P i i) (hS : ∀ i k j, Mt l x i k → P k j → P i j) {i j : Nat} (h : Mt l (.star x) i j) : P i j := by
  generalize hn : Nd.star x = n at h
  induction h with
  | star0 h => exact h0 _ h
  | starS hx _ _ ih => cases hn; exact hS _ _ _ hx (ih rfl)
  | set _ _ => cases hn
  | beg _ _ => cases hn
  | fin _ _ => cases hn
  | cat0 _ => cases hn
  | catS _ _ _ _ => cases hn
  | altH _ _ => cases hn
  | altT _ _ => cases hn
  | plus _ _ _ _ => cases hn
  | opt0 _ => cases hn
  | optS _ _ => cases hn
/-- What is matched, the automaton goes through. -/
theorem Impl.run {c : List In} {l : List Int} {n : Nd} {f t : Nat} (hc : Impl c n f t) : ∀ {i j : Nat}, Mt l n i j → ∃ k, Run c l k f i t j := by
  induction hc with
  | set hc => intro i j h; cases h with | set h1 h2 => exact ⟨1, .one (.take hc h1 h2)⟩
  | beg hc => intro i j h; cases h with | beg h1 h2 => exact ⟨1, .one (.beg hc h2)⟩
  | fin hc => intro i j h; cases h with | fin h1 h2 => exact ⟨1, .one (.fin hc h2)⟩
  | cat0 => intro i j h; cases h with | cat0 h1 => exact ⟨0, .nil⟩
  | catS _ _ ih1 ih2 =>
    intro i j h
    cases h with
    | catS h1 h2 =>
      obtain ⟨k1, r1⟩ := ih1 h1
      obtain ⟨k2, r2⟩ := ih2 h2
      exact ⟨_, r1.trans r2⟩
  | alt1 _ ih =>
    intro i j h
    cases h with
    | altH h => exact ih h
    | altT h => cases h
  | altS hne hs _ hj _ ih1 ih2 =>
    intro i j h
    cases h with
    | altH h =>
      obtain ⟨k1, r1⟩ := ih1 h
      exact ⟨_, ((Run.one (.splitX hs)).trans r1).trans (.one (.jump hj))⟩
    | altT h =>
      obtain ⟨k1, r1⟩ := ih2 h
      exact ⟨_, (Run.one (.splitY hs)).trans r1⟩
  | star hs _ hj ih =>
    intro i j h
    refine Mt.star_rec (P := fun i j => ∃ k, Run c l k _ i _ j) (fun i _ => ⟨1, .one (.splitY hs)⟩) (fun i k j hx hr => ?_) h
    obtain ⟨k1, r1⟩ := ih hx
    obtain ⟨k2, r2⟩ := hr
    exact ⟨_, (((Run.one (.splitX hs)).trans r1).trans (.one (.jump hj))).trans r2⟩
  | plus _ hs ih =>
    intro i j h
    cases h with
    | plus h1 h2 =>
      obtain ⟨k1, r1⟩ := ih h1
      have : ∃ k, Run c l k _ _ _ j := Mt.star_rec (P := fun i j => ∃ k, Run c l k _ i _ j) (fun i _ => ⟨1, .one (.splitY hs)⟩) (fun i k j hx hr => by
        obtain ⟨k1, r1⟩ := ih hx
        obtain ⟨k2, r2⟩ := hr
        exact ⟨_, ((Run.one (.splitX hs)).trans r1).trans r2⟩) h2
      obtain ⟨k2, r2⟩ := this
      exact ⟨_, r1.trans r2⟩
  | opt hs _ ih =>
    intro i j h
    cases h with
    | opt0 h => exact ⟨1, .one (.splitY hs)⟩
    | optS h =>
      obtain ⟨k1, r1⟩ := ih h
      exact ⟨_, (Run.one (.splitX hs)).trans r1⟩
/-- Whoever goes out of an expression's instructions has matched it. -/
def Outs (c : List In) (l : List Int) (n : Nd) (f t : Nat) : Prop := ∀ (k i q j : Nat), i ≤ l.length → Run c l k f i q j → ¬ (f ≤ q ∧ q < t) → ∃ m k', Mt l n i m ∧ k' ≤ k ∧ Run c l k' t m q j
theorem Outs.first {c : List In} {l : List Int} {k f i q j t : Nat} (h : Run c l k f i q j) (hft : f < t) (hq : ¬ (f ≤ q ∧ q < t)) : ∃ k' p' i', k = k' + 1 ∧ Stp c l f i p' i' ∧ Run c l k' p' i' q j := by
  cases h with
  | nil => exact absurd ⟨Nat.le_refl _, hft⟩ hq
  | cons s r => exact ⟨_, _, _, rfl, s, r⟩
theorem Impl.outs {c : List In} {l : List Int} {n : Nd} {f t : Nat} (hc : Impl c n f t) : Outs c l n f t := by
  induction hc with
  | set hc =>
    intro k i q j hi r hq
    obtain ⟨k', p', i', rfl, s, r'⟩ := Outs.first r (by omega) hq
    cases s with
    | take h1 h2 h3 => rw [hc] at h1; cases h1; exact ⟨_, _, .set h2 h3, by omega, r'⟩
    | splitX h1 => rw [hc] at h1; cases h1
    | splitY h1 => rw [hc] at h1; cases h1
    | jump h1 => rw [hc] at h1; cases h1
    | beg h1 _ => rw [hc] at h1; cases h1
    | fin h1 _ => rw [hc] at h1; cases h1
  | beg hc =>
    intro k i q j hi r hq
    obtain ⟨k', p', i', rfl, s, r'⟩ := Outs.first r (by omega) hq
    cases s with
    | take h1 h2 h3 => rw [hc] at h1; cases h1
    | splitX h1 => rw [hc] at h1; cases h1
    | splitY h1 => rw [hc] at h1; cases h1
    | jump h1 => rw [hc] at h1; cases h1
    | beg h1 h2 => exact ⟨_, _, .beg hi h2, by omega, r'⟩
    | fin h1 _ => rw [hc] at h1; cases h1
  | fin hc =>
    intro k i q j hi r hq
    obtain ⟨k', p', i', rfl, s, r'⟩ := Outs.first r (by omega) hq
    cases s with
    | take h1 h2 h3 => rw [hc] at h1; cases h1
    | splitX h1 => rw [hc] at h1; cases h1
    | splitY h1 => rw [hc] at h1; cases h1
    | jump h1 => rw [hc] at h1; cases h1
    | beg h1 h2 => rw [hc] at h1; cases h1
    | fin h1 h2 => exact ⟨_, _, .fin hi h2, by omega, r'⟩
  | cat0 => intro k i q j hi r hq; exact ⟨i, k, .cat0 hi, Nat.le_refl _, r⟩
  | catS hx hxs ih1 ih2 =>
    intro k i q j hi r hq
    have h1 := hx.le
    have h2 := hxs.le
    obtain ⟨m, k1, hm, hk1, r1⟩ := ih1 k i q j hi r (by omega)
    obtain ⟨m2, k2, hm2, hk2, r2⟩ := ih2 k1 m q j hm.le.2 r1 (by omega)
    exact ⟨m2, k2, .catS hm hm2, by omega, r2⟩
  | alt1 hx ih =>
    intro k i q j hi r hq
    obtain ⟨m, k1, hm, hk1, r1⟩ := ih k i q j hi r hq
    exact ⟨m, k1, .altH hm, hk1, r1⟩
  | altS hne hs hx hj hxs ih1 ih2 =>
    rename_i x xs f m t
    intro k i q j hi r hq
    have h1 := hx.le
    have h2 := hxs.le
    obtain ⟨k', p', i', rfl, s, r'⟩ := Outs.first r (by omega) hq
    have key : (p' = f + 1 ∨ p' = m + 1) ∧ i' = i := by
      cases s with
      | take h1 h2 h3 => rw [hs] at h1; cases h1
      | splitX h1 => rw [hs] at h1; cases h1; exact ⟨.inl rfl, rfl⟩
      | splitY h1 => rw [hs] at h1; cases h1; exact ⟨.inr rfl, rfl⟩
      | jump h1 => rw [hs] at h1; cases h1
      | beg h1 h2 => rw [hs] at h1; cases h1
      | fin h1 h2 => rw [hs] at h1; cases h1
    obtain ⟨hp, rfl⟩ := key
    rcases hp with rfl | rfl
    · obtain ⟨m1, k1, hm, hk1, r1⟩ := ih1 k' i' q j hi r' (by omega)
      obtain ⟨k2, p2, i2, rfl, s2, r2⟩ : ∃ k' p' i', k1 = k' + 1 ∧ Stp c l m m1 p' i' ∧ Run c l k' p' i' q j := by
        cases r1 with
        | nil => exact absurd ⟨by omega, by omega⟩ hq
        | cons s r => exact ⟨_, _, _, rfl, s, r⟩
      have key2 : p2 = t ∧ i2 = m1 := by
        cases s2 with
        | take h1 h2 h3 => rw [hj] at h1; cases h1
        | splitX h1 => rw [hj] at h1; cases h1
        | splitY h1 => rw [hj] at h1; cases h1
        | jump h1 => rw [hj] at h1; cases h1; exact ⟨rfl, rfl⟩
        | beg h1 h2 => rw [hj] at h1; cases h1
        | fin h1 h2 => rw [hj] at h1; cases h1
      obtain ⟨rfl, rfl⟩ := key2
      exact ⟨i2, k2, .altH hm, by omega, r2⟩
    · obtain ⟨m1, k1, hm, hk1, r1⟩ := ih2 k' i' q j hi r' (by omega)
      exact ⟨m1, k1, .altT hm, by omega, r1⟩
  | star hs hx hj ih =>
    rename_i x f m
    intro k
    induction k using Nat.strongRecOn with
    | ind k ihk =>
      intro i q j hi r hq
      have h1 := hx.le
      obtain ⟨k', p', i', rfl, s, r'⟩ := Outs.first r (by omega) hq
      have key : (p' = f + 1 ∨ p' = m + 1) ∧ i' = i := by
        cases s with
        | take h1 h2 h3 => rw [hs] at h1; cases h1
        | splitX h1 => rw [hs] at h1; cases h1; exact ⟨.inl rfl, rfl⟩
        | splitY h1 => rw [hs] at h1; cases h1; exact ⟨.inr rfl, rfl⟩
        | jump h1 => rw [hs] at h1; cases h1
        | beg h1 h2 => rw [hs] at h1; cases h1
        | fin h1 h2 => rw [hs] at h1; cases h1
      obtain ⟨hp, rfl⟩ := key
      rcases hp with rfl | rfl
      · obtain ⟨m1, k1, hm, hk1, r1⟩ := ih k' i' q j hi r' (by omega)
        obtain ⟨k2, p2, i2, rfl, s2, r2⟩ : ∃ k' p' i', k1 = k' + 1 ∧ Stp c l m m1 p' i' ∧ Run c l k' p' i' q j := by
          cases r1 with
          | nil => exact absurd ⟨by omega, by omega⟩ hq
          | cons s r => exact ⟨_, _, _, rfl, s, r⟩
        have key2 : p2 = f ∧ i2 = m1 := by
          cases s2 with
          | take h1 h2 h3 => rw [hj] at h1; cases h1
          | splitX h1 => rw [hj] at h1; cases h1
          | splitY h1 => rw [hj] at h1; cases h1
          | jump h1 => rw [hj] at h1; cases h1; exact ⟨rfl, rfl⟩
          | beg h1 h2 => rw [hj] at h1; cases h1
          | fin h1 h2 => rw [hj] at h1; cases h1
        obtain ⟨rfl, rfl⟩ := key2
        obtain ⟨m3, k3, hm3, hk3, r3⟩ := ihk k2 (by omega) i2 q j hm.le.2 r2 hq
        exact ⟨m3, k3, .starS hm hm3, by omega, r3⟩
      · exact ⟨i', k', .star0 hi, by omega, r'⟩
  | plus hx hs ih =>
    rename_i x f m
    intro k
    induction k using Nat.strongRecOn with
    | ind k ihk =>
      intro i q j hi r hq
      have h1 := hx.le
      obtain ⟨m1, k1, hm, hk1, r1⟩ := ih k i q j hi r (by omega)
      obtain ⟨k2, p2, i2, rfl, s2, r2⟩ : ∃ k' p' i', k1 = k' + 1 ∧ Stp c l m m1 p' i' ∧ Run c l k' p' i' q j := by
        cases r1 with
        | nil => exact absurd ⟨by omega, by omega⟩ hq
        | cons s r => exact ⟨_, _, _, rfl, s, r⟩
      have key2 : (p2 = f ∨ p2 = m + 1) ∧ i2 = m1 := by
        cases s2 with
        | take h1 h2 h3 => rw [hs] at h1; cases h1
        | splitX h1 => rw [hs] at h1; cases h1; exact ⟨.inl rfl, rfl⟩
        | splitY h1 => rw [hs] at h1; cases h1; exact ⟨.inr rfl, rfl⟩
        | jump h1 => rw [hs] at h1; cases h1
        | beg h1 h2 => rw [hs] at h1; cases h1
        | fin h1 h2 => rw [hs] at h1; cases h1
      obtain ⟨hp, rfl⟩ := key2
      rcases hp with rfl | rfl
      · obtain ⟨m3, k3, hm3, hk3, r3⟩ := ihk k2 (by omega) i2 q j hm.le.2 r2 hq
        cases hm3 with
        | plus ha hb => exact ⟨m3, k3, .plus hm (.starS ha hb), by omega, r3⟩
      · exact ⟨i2, k2, .plus hm (.star0 hm.le.2), by omega, r2⟩
  | opt hs hx ih =>
    rename_i x f m
    intro k i q j hi r hq
    have h1 := hx.le
    obtain ⟨k', p', i', rfl, s, r'⟩ := Outs.first r (by omega) hq
    have key : (p' = f + 1 ∨ p' = m) ∧ i' = i := by
      cases s with
      | take h1 h2 h3 => rw [hs] at h1; cases h1
      | splitX h1 => rw [hs] at h1; cases h1; exact ⟨.inl rfl, rfl⟩
      | splitY h1 => rw [hs] at h1; cases h1; exact ⟨.inr rfl, rfl⟩
      | jump h1 => rw [hs] at h1; cases h1
      | beg h1 h2 => rw [hs] at h1; cases h1
      | fin h1 h2 => rw [hs] at h1; cases h1
    obtain ⟨hp, rfl⟩ := key
    rcases hp with rfl | rfl
    · obtain ⟨m1, k1, hm, hk1, r1⟩ := ih k' i' q j hi r' (by omega)
      exact ⟨m1, k1, .optS hm, by omega, r1⟩
    · exact ⟨i', k', .opt0 hi, by omega, r'⟩
/-- The automaton of an expression accepts what the expression matches. -/
theorem Impl.iff {c : List In} {l : List Int} {n : Nd} {f t : Nat} (hc : Impl c n f t) (hacc : c[t]? = some .acc) {i j : Nat} (hi : i ≤ l.length) : (∃ k, Run c l k f i t j) ↔ Mt l n i j := by
  refine ⟨fun ⟨k, r⟩ => ?_, hc.run⟩
  obtain ⟨m, k', hm, _, r'⟩ := hc.outs k i t j hi r (by omega)
  cases r' with
  | nil => exact hm
  | cons s _ =>
    cases s with
    | take h1 h2 h3 => rw [hacc] at h1; cases h1
    | splitX h1 => rw [hacc] at h1; cases h1
    | splitY h1 => rw [hacc] at h1; cases h1
    | jump h1 => rw [hacc] at h1; cases h1
    | beg h1 h2 => rw [hacc] at h1; cases h1
    | fin h1 h2 => rw [hacc] at h1; cases h1
end Go.Proofs.Ytcajnmhbkjngbaa

/- How an expression is read, in plain Lean. -/
namespace Go.Proofs.Ytcajnmhbkjngbaa

/-- What a part of an expression gives: nodes, the place behind, the size; or a fault. -/
inductive Res
  | ok (l : List Nd) (i s : Nat)
  | bad (i : Nat) (e : Int)
def escC (c : Int) : Int := if c = 110 then 10 else if c = 116 then 9 else c
/-- A character of a set, or an escaped one. -/
def pSng (cs : List Int) (i : Nat) : Option (Int × Nat) :=
  match cs[i]? with
  | none => none
  | some c => if c = 92 then (match cs[i + 1]? with
    | none => none
    | some e => some (escC e, i + 2)) else some (c, i + 1)
abbrev SpR := (List (Int × Int) × Nat) ⊕ (Nat × Int)
def consS (p : Int × Int) : SpR → SpR
  | .inl (l, k) => .inl (p :: l, k)
  | .inr f => .inr f
/-- A range follows. -/
def dash (cs : List Int) (j : Nat) : Bool := decide (cs[j]? = some 45) && decide (j + 1 < cs.length) && decide (cs[j + 1]? ≠ some 93)
/-- The spans of a set, up to its bracket. -/
def pSpn (cs : List Int) : Nat → Nat → SpR
  | 0, _ => .inr (0, 0)
  | f + 1, i => match cs[i]? with
    | none => .inr (cs.length, 16)
    | some c => if c = 93 then .inl ([], i + 1) else match pSng cs i with
      | none => .inr (cs.length, 16)
      | some (a, j) => if dash cs j = true then (match pSng cs (j + 1) with
          | none => .inr (cs.length, 16)
          | some (b, m) => if b < a then .inr (j + 1, 11) else consS (a, b) (pSpn cs f m))
        else consS (a, a) (pSpn cs f j)
/-- A set behind its bracket. -/
def pSet2 (cs : List Int) (inv : Bool) (j : Nat) : (CSet × Nat) ⊕ (Nat × Int) :=
  if cs[j]? = some 93 then .inr (j, 9) else match pSpn cs (cs.length + 1 - j) j with
    | .inl (l, k) => .inl (⟨l, inv⟩, k)
    | .inr f => .inr f
def pSet (cs : List Int) (i : Nat) : (CSet × Nat) ⊕ (Nat × Int) := if cs[i]? = some 94 then pSet2 cs true (i + 1) else pSet2 cs false i
/-- Operators behind an atom. -/
def pReps (cs : List Int) : Nat → Nat → Nd → Nd × Nat
  | 0, i, n => (n, i)
  | f + 1, i, n => if cs[i]? = some 42 then pReps cs f (i + 1) (.star n) else if cs[i]? = some 43 then pReps cs f (i + 1) (.plus n) else if cs[i]? = some 63 then pReps cs f (i + 1) (.opt n) else (n, i)
def oneS (c : Int) : Nd := .set ⟨[(c, c)], false⟩
/-- An atom that is no parenthesis: c stands at i. -/
def pChar (cs : List Int) (c : Int) (i s : Nat) : Res :=
  if c = 46 then .ok [.set ⟨[], true⟩] (i + 1) (s + 1)
  else if c = 94 then .ok [.beg] (i + 1) (s + 1)
  else if c = 36 then .ok [.fin] (i + 1) (s + 1)
  else if c = 91 then (match pSet cs (i + 1) with
    | .inl (t, k) => .ok [.set t] k (s + 1)
    | .inr (p, e) => .bad p e)
  else if c = 92 then (match cs[i + 1]? with
    | none => .bad cs.length 16
    | some e => .ok [oneS (escC e)] (i + 2) (s + 1))
  else .ok [oneS c] (i + 1) (s + 1)
mutual
def pAlts (cs : List Int) : Nat → Nat → Nat → Nat → Res
  | 0, _, _, _ => .bad 0 0
  | f + 1, i, d, s => match pBranch cs f i d s with
    | .bad p e => .bad p e
    | .ok l j t => if cs[j]? = some 124 then (match pAlts cs f (j + 1) d t with
        | .bad p e => .bad p e
        | .ok ms k u => .ok (.cat l :: ms) k u)
      else .ok [.cat l] j t
def pBranch (cs : List Int) : Nat → Nat → Nat → Nat → Res
  | 0, _, _, _ => .bad 0 0
  | f + 1, i, d, s => match cs[i]? with
    | none => .ok [] i s
    | some c => if c = 124 then .ok [] i s
      else if c = 41 then (if d = 0 then .bad i 9 else .ok [] i s)
      else if c = 42 ∨ c = 43 ∨ c = 63 ∨ c = 93 then .bad i 9
      else match pAtom cs f i d s with
        | .bad p e => .bad p e
        | .ok l j t => (match pBranch cs f (pReps cs (cs.length - j) j (l.headD .beg)).2 d t with
          | .bad p e => .bad p e
          | .ok ms k u => .ok ((pReps cs (cs.length - j) j (l.headD .beg)).1 :: ms) k u)
def pAtom (cs : List Int) : Nat → Nat → Nat → Nat → Res
  | 0, _, _, _ => .bad 0 0
  | f + 1, i, d, s => match cs[i]? with
    | none => .bad 0 0
    | some c => if c = 40 then (if d = 64 then .bad i 3 else match pAlts cs f (i + 1) (d + 1) s with
        | .bad p e => .bad p e
        | .ok l j t => if j < cs.length then .ok [.alt l] (j + 1) t else .bad cs.length 16)
      else pChar cs c i s
end
/-- A whole expression. -/
def pAll (cs : List Int) : Res := pAlts cs (3 * cs.length + 3) 0 0 0
theorem pSng_le {cs : List Int} {i j : Nat} {a : Int} (h : pSng cs i = some (a, j)) : i < j ∧ j ≤ cs.length := by
  unfold pSng at h
  split at h
  · cases h
  · rename_i c hc
    have h1 := (List.getElem?_eq_some_iff.1 hc).1
    by_cases h92 : c = 92
    · rw [if_pos h92] at h
      split at h
      · cases h
      · rename_i e he
        have h2 := (List.getElem?_eq_some_iff.1 he).1
        injection h with h; injection h with _ h; omega
    · rw [if_neg h92] at h
      injection h with h; injection h with _ h; omega
theorem consS_inl {p : Int × Int} {r : SpR} {l : List (Int × Int)} {k : Nat} (h : consS p r = .inl (l, k)) : ∃ l', r = .inl (l', k) ∧ l = p :: l' := by
  match r with
  | .inl (l', k') => cases h; exact ⟨l', rfl, rfl⟩
  | .inr f => cases h
theorem pSpn_le {cs : List Int} : ∀ {f i k : Nat} {l : List (Int × Int)}, pSpn cs f i = .inl (l, k) → i < k ∧ k ≤ cs.length
  | 0, i, k, l, h => by cases h
  | f + 1, i, k, l, h => by
    unfold pSpn at h
    split at h
    · cases h
    · rename_i c hc
      have h1 := (List.getElem?_eq_some_iff.1 hc).1
      by_cases h93 : c = 93
      · rw [if_pos h93] at h; cases h; omega
      · rw [if_neg h93] at h
        split at h
        · cases h
        · rename_i a j hs
          have h2 := pSng_le hs
          by_cases hd : dash cs j = true
          · rw [if_pos hd] at h
            split at h
            · cases h
            · rename_i b m hm
              have h3 := pSng_le hm
              by_cases hba : b < a
              · rw [if_pos hba] at h; cases h
              · rw [if_neg hba] at h
                obtain ⟨l', h4, _⟩ := consS_inl h
                have := pSpn_le h4
                omega
          · rw [if_neg hd] at h
            obtain ⟨l', h4, _⟩ := consS_inl h
            have := pSpn_le h4
            omega
theorem pSet2_le {cs : List Int} {inv : Bool} {i k : Nat} {t : CSet} (h : pSet2 cs inv i = .inl (t, k)) : i < k ∧ k ≤ cs.length := by
  unfold pSet2 at h
  by_cases h1 : cs[i]? = some 93
  · rw [if_pos h1] at h; cases h
  · rw [if_neg h1] at h
    split at h
    · rename_i l k' hp
      cases h
      exact pSpn_le hp
    · cases h
theorem pSet_le {cs : List Int} {i k : Nat} {t : CSet} (h : pSet cs i = .inl (t, k)) : i < k ∧ k ≤ cs.length := by
  unfold pSet at h
  split at h
  · have := pSet2_le h; omega
  · exact pSet2_le h
theorem pReps_le {cs : List Int} : ∀ (f i : Nat) (n : Nd), i ≤ cs.length → i ≤ (pReps cs f i n).2 ∧ (pReps cs f i n).2 ≤ cs.length
  | 0, i, n, h => ⟨Nat.le_refl _, h⟩
  | f + 1, i, n, h => by
    unfold pReps
    split
    · rename_i h1; have := (List.getElem?_eq_some_iff.1 h1).1; have := pReps_le (cs := cs) f (i + 1) (.star n) (by omega); omega
    · split
      · rename_i h1; have := (List.getElem?_eq_some_iff.1 h1).1; have := pReps_le (cs := cs) f (i + 1) (.plus n) (by omega); omega
      · split
        · rename_i h1; have := (List.getElem?_eq_some_iff.1 h1).1; have := pReps_le (cs := cs) f (i + 1) (.opt n) (by omega); omega
        · exact ⟨Nat.le_refl _, h⟩
theorem pChar_le {cs : List Int} {c : Int} {i s j t : Nat} {l : List Nd} (hi : i < cs.length) (h : pChar cs c i s = .ok l j t) : i < j ∧ j ≤ cs.length ∧ ∃ n, l = [n] := by
  unfold pChar at h
  split at h
  · cases h; exact ⟨by omega, by omega, _, rfl⟩
  · split at h
    · cases h; exact ⟨by omega, by omega, _, rfl⟩
    · split at h
      · cases h; exact ⟨by omega, by omega, _, rfl⟩
      · split at h
        · split at h
          · rename_i t' k hp; cases h; have := pSet_le hp; exact ⟨by omega, by omega, _, rfl⟩
          · cases h
        · split at h
          · split at h
            · cases h
            · rename_i e he; have := (List.getElem?_eq_some_iff.1 he).1; cases h; exact ⟨by omega, by omega, _, rfl⟩
          · cases h; exact ⟨by omega, by omega, _, rfl⟩
theorem parse_le (cs : List Int) : ∀ f : Nat,
    (∀ i d s l j t, i ≤ cs.length → pAlts cs f i d s = .ok l j t → i ≤ j ∧ j ≤ cs.length ∧ l ≠ []) ∧
    (∀ i d s l j t, i ≤ cs.length → pBranch cs f i d s = .ok l j t → i ≤ j ∧ j ≤ cs.length) ∧
    (∀ i d s l j t, pAtom cs f i d s = .ok l j t → i < j ∧ j ≤ cs.length ∧ ∃ n, l = [n])
  | 0 => ⟨fun i d s l j t _ h => by simp [pAlts] at h, fun i d s l j t _ h => by simp [pBranch] at h, fun i d s l j t h => by simp [pAtom] at h⟩
  | f + 1 => by
    obtain ⟨h1, h2, h3⟩ := parse_le cs f
    refine ⟨fun i d s l j t hi h => ?_, fun i d s l j t hi h => ?_, fun i d s l j t h => ?_⟩
    · rw [pAlts] at h
      split at h
      · cases h
      · rename_i l' j' t' hb
        have hb2 := h2 _ _ _ _ _ _ hi hb
        split at h
        · rename_i hbar
          have := (List.getElem?_eq_some_iff.1 hbar).1
          split at h
          · cases h
          · rename_i ms k u ha
            have := h1 _ _ _ _ _ _ (by omega) ha
            cases h
            exact ⟨by omega, by omega, by simp⟩
        · cases h; exact ⟨by omega, by omega, by simp⟩
    · rw [pBranch] at h
      split at h
      · cases h; omega
      · rename_i c hc
        split at h
        · cases h; omega
        · split at h
          · split at h
            · cases h
            · cases h; omega
          · split at h
            · cases h
            · split at h
              · cases h
              · rename_i l' j' t' ha
                have ha2 := h3 _ _ _ _ _ _ ha
                have hr := pReps_le (cs.length - j') j' (l'.headD .beg) ha2.2.1
                split at h
                · cases h
                · rename_i ms k u hb
                  have := h2 _ _ _ _ _ _ hr.2 hb
                  cases h
                  omega
    · rw [pAtom] at h
      split at h
      · cases h
      · rename_i c hc
        have hi := (List.getElem?_eq_some_iff.1 hc).1
        split at h
        · split at h
          · cases h
          · split at h
            · cases h
            · rename_i l' j' t' ha
              have := h1 _ _ _ _ _ _ (by omega) ha
              split at h
              · cases h; exact ⟨by omega, by omega, _, rfl⟩
              · cases h
        · exact pChar_le hi h
end Go.Proofs.Ytcajnmhbkjngbaa

/- The compiler's steps on the instructions, in plain Lean. -/
namespace Go.Proofs.Ytcajnmhbkjngbaa

/-- An instruction as the program has it. -/
structure RI where
  op : Int
  x : Int
  y : Int
  spans : List (Int × Int)
  inv : Bool
def RI.to (r : RI) : In :=
  if r.op = 0 then .acc else if r.op = 1 then .take ⟨r.spans, r.inv⟩ else if r.op = 2 then .split r.x.toNat r.y.toNat else if r.op = 3 then .jump r.x.toNat else if r.op = 4 then .beg else if r.op = 5 then .fin else .acc
def toIn (c : List RI) : List In := c.map RI.to
/-- Numbers that are not negative. -/
def RI.nn (r : RI) : Prop := 0 ≤ r.x ∧ 0 ≤ r.y
def bump (f : Nat) (r : RI) : RI := { r with x := if (f : Int) ≤ r.x then r.x + 1 else r.x, y := if (f : Int) ≤ r.y then r.y + 1 else r.y }
/-- An instruction is inserted; what is behind it moves by one. -/
def insR (c : List RI) (f : Nat) (r : RI) : List RI := c.take f ++ r :: (c.drop f).map (bump f)
theorem len_insR {c : List RI} {f : Nat} {r : RI} (h : f ≤ c.length) : (insR c f r).length = c.length + 1 := by
  simp [insR]; omega
theorem insR_lt {c : List RI} {f : Nat} {r : RI} {k : Nat} (h : k < f) (hf : f ≤ c.length) : (insR c f r)[k]? = c[k]? := by
  unfold insR
  rw [List.getElem?_append_left (by rw [List.length_take]; omega), List.getElem?_take_of_lt h]
theorem insR_eq {c : List RI} {f : Nat} {r : RI} (hf : f ≤ c.length) : (insR c f r)[f]? = some r := by
  unfold insR
  rw [List.getElem?_append_right (by rw [List.length_take]; omega), List.length_take, Nat.min_eq_left hf, Nat.sub_self]
  rfl
theorem insR_gt {c : List RI} {f : Nat} {r : RI} {k : Nat} (h : f ≤ k) (hf : f ≤ c.length) : (insR c f r)[k + 1]? = (c[k]?).map (bump f) := by
  unfold insR
  rw [List.getElem?_append_right (by rw [List.length_take]; omega), List.length_take, Nat.min_eq_left hf, show k + 1 - f = (k - f) + 1 by omega, List.getElem?_cons_succ, List.getElem?_map, List.getElem?_drop, show f + (k - f) = k by omega]
/-- An expression's instructions are its own. -/
theorem Impl.congr {c c' : List In} {n : Nd} {f t : Nat} (h : Impl c n f t) : (∀ k, f ≤ k → k < t → c'[k]? = c[k]?) → Impl c' n f t := by
  induction h with
  | set h => intro hk; exact .set (by rw [hk _ (by omega) (by omega)]; exact h)
  | beg h => intro hk; exact .beg (by rw [hk _ (by omega) (by omega)]; exact h)
  | fin h => intro hk; exact .fin (by rw [hk _ (by omega) (by omega)]; exact h)
  | cat0 => intro _; exact .cat0
  | catS h1 h2 i1 i2 =>
    intro hk
    have := h1.le
    have := h2.le
    exact .catS (i1 fun k a b => hk k a (by omega)) (i2 fun k a b => hk k (by omega) b)
  | alt1 _ ih => intro hk; exact .alt1 (ih hk)
  | altS hne hs h1 hj h2 i1 i2 =>
    intro hk
    have := h1.le
    have := h2.le
    exact .altS hne (by rw [hk _ (by omega) (by omega)]; exact hs) (i1 fun k a b => hk k (by omega) (by omega)) (by rw [hk _ (by omega) (by omega)]; exact hj) (i2 fun k a b => hk k (by omega) b)
  | star hs h1 hj ih =>
    intro hk
    have := h1.le
    exact .star (by rw [hk _ (by omega) (by omega)]; exact hs) (ih fun k a b => hk k (by omega) (by omega)) (by rw [hk _ (by omega) (by omega)]; exact hj)
  | plus h1 hs ih =>
    intro hk
    have := h1.le
    exact .plus (ih fun k a b => hk k a (by omega)) (by rw [hk _ (by omega) (by omega)]; exact hs)
  | opt hs h1 ih =>
    intro hk
    have := h1.le
    exact .opt (by rw [hk _ (by omega) (by omega)]; exact hs) (ih fun k a b => hk k (by omega) b)
/-- Where an instruction goes, when one is inserted ahead of it. -/
def up1 : In → In
  | .split x y => .split (x + 1) (y + 1)
  | .jump x => .jump (x + 1)
  | i => i
theorem Impl.up {c c' : List In} {n : Nd} {p q : Nat} (h : Impl c n p q) : ∀ {f : Nat}, f ≤ p → (∀ k i, p ≤ k → k < q → c[k]? = some i → (∀ x y, i = .split x y → f ≤ x ∧ f ≤ y) → (∀ x, i = .jump x → f ≤ x) → c'[k + 1]? = some (up1 i)) → Impl c' n (p + 1) (q + 1) := by
  induction h with
  | set h => intro f hf hk; exact .set (hk _ _ (by omega) (by omega) h (fun x y e => by cases e) (fun x e => by cases e))
  | beg h => intro f hf hk; exact .beg (hk _ _ (by omega) (by omega) h (fun x y e => by cases e) (fun x e => by cases e))
  | fin h => intro f hf hk; exact .fin (hk _ _ (by omega) (by omega) h (fun x y e => by cases e) (fun x e => by cases e))
  | cat0 => intro f hf _; exact .cat0
  | catS h1 h2 i1 i2 =>
    intro f hf hk
    have := h1.le
    have := h2.le
    exact .catS (i1 hf fun k i a b => hk k i a (by omega)) (i2 (by omega) fun k i a b => hk k i (by omega) b)
  | alt1 _ ih => intro f hf hk; exact .alt1 (ih hf hk)
  | altS hne hs h1 hj h2 i1 i2 =>
    intro f hf hk
    have := h1.le
    have := h2.le
    exact .altS hne (hk _ _ (by omega) (by omega) hs (fun x y e => by cases e; omega) (fun x e => by cases e)) (i1 (by omega) fun k i a b => hk k i (by omega) (by omega)) (hk _ _ (by omega) (by omega) hj (fun x y e => by cases e) (fun x e => by cases e; omega)) (i2 (by omega) fun k i a b => hk k i (by omega) b)
  | star hs h1 hj ih =>
    intro f hf hk
    have := h1.le
    exact .star (hk _ _ (by omega) (by omega) hs (fun x y e => by cases e; omega) (fun x e => by cases e)) (ih (by omega) fun k i a b => hk k i (by omega) (by omega)) (hk _ _ (by omega) (by omega) hj (fun x y e => by cases e) (fun x e => by cases e; omega))
  | plus h1 hs ih =>
    intro f hf hk
    have := h1.le
    exact .plus (ih hf fun k i a b => hk k i a (by omega)) (hk _ _ (by omega) (by omega) hs (fun x y e => by cases e; omega) (fun x e => by cases e))
  | opt hs h1 ih =>
    intro f hf hk
    have := h1.le
    exact .opt (hk _ _ (by omega) (by omega) hs (fun x y e => by cases e; omega) (fun x e => by cases e)) (ih (by omega) fun k i a b => hk k i (by omega) b)
theorem bump_to {f : Nat} {r : RI} (hn : r.nn) (hs : ∀ x y, r.to = .split x y → f ≤ x ∧ f ≤ y) (hj : ∀ x, r.to = .jump x → f ≤ x) : (bump f r).to = up1 r.to := by
  obtain ⟨h1, h2⟩ := hn
  unfold RI.to at *
  unfold bump
  simp only
  by_cases a0 : r.op = 0
  · simp [a0, up1]
  by_cases a1 : r.op = 1
  · simp [a1, up1]
  by_cases a2 : r.op = 2
  · simp only [a2, if_true, if_neg (show ¬ (2 : Int) = 0 by decide), if_neg (show ¬ (2 : Int) = 1 by decide)] at hs ⊢
    have := hs _ _ rfl
    rw [if_pos (by omega), if_pos (by omega)]
    unfold up1
    congr 1 <;> omega
  by_cases a3 : r.op = 3
  · simp only [a3, if_true, if_neg (show ¬ (3 : Int) = 0 by decide), if_neg (show ¬ (3 : Int) = 1 by decide), if_neg (show ¬ (3 : Int) = 2 by decide)] at hj ⊢
    have := hj _ rfl
    rw [if_pos (by omega)]
    unfold up1
    congr 1
    omega
  by_cases a4 : r.op = 4
  · simp [a4, up1]
  by_cases a5 : r.op = 5
  · simp [a5, up1]
  · simp [a0, a1, a2, a3, a4, a5, up1]
/-- An instruction is inserted ahead of an expression. -/
theorem Impl.ins {c : List RI} {n : Nd} {f p q : Nat} {r : RI} (h : Impl (toIn c) n p q) (hn : ∀ z ∈ c, z.nn) (hfp : f ≤ p) (hf : f ≤ c.length) : Impl (toIn (insR c f r)) n (p + 1) (q + 1) := by
  refine h.up hfp fun k i h1 h2 hi hs hj => ?_
  unfold toIn at hi ⊢
  rw [List.getElem?_map] at hi ⊢
  obtain ⟨z, hz, rfl⟩ := Option.map_eq_some_iff.1 hi
  rw [insR_gt (by omega) hf, hz]
  show some (bump f z).to = _
  rw [bump_to (hn z (List.mem_of_getElem? hz)) hs hj]
/-- Instructions ahead stay. -/
theorem Impl.insL {c : List RI} {n : Nd} {f p q : Nat} {r : RI} (h : Impl (toIn c) n p q) (hqf : q ≤ f) (hf : f ≤ c.length) : Impl (toIn (insR c f r)) n p q := by
  refine h.congr fun k h1 h2 => ?_
  unfold toIn
  rw [List.getElem?_map, List.getElem?_map, insR_lt (by omega) hf]
theorem nn_ins {c : List RI} {f : Nat} {r : RI} (hn : ∀ z ∈ c, z.nn) (hr : r.nn) : ∀ z ∈ insR c f r, z.nn := fun z hz => by
  unfold insR at hz
  rcases List.mem_append.1 hz with h | h
  · exact hn z (List.mem_of_mem_take h)
  · rcases List.mem_cons.1 h with rfl | h
    · exact hr
    · obtain ⟨y, hy, rfl⟩ := List.mem_map.1 h
      have := hn y (List.mem_of_mem_drop hy)
      unfold RI.nn bump at *
      simp only
      refine ⟨?_, ?_⟩ <;> split <;> omega
/-- Alternatives, but for the last one; the jumps behind them are still to be laid. -/
inductive Pre (c : List In) : List Nd → Nat → Nat → List Nat → Prop
  | nil {f : Nat} : Pre c [] f f []
  | cons {n : Nd} {ns : List Nd} {f m g : Nat} {ms : List Nat} : c[f]? = some (.split (f + 1) (m + 1)) → Impl c n (f + 1) m → Pre c ns (m + 1) g ms → Pre c (n :: ns) f g (m :: ms)
theorem Pre.le {c : List In} {ns : List Nd} {f g : Nat} {ms : List Nat} (h : Pre c ns f g ms) : f ≤ g ∧ ∀ m ∈ ms, f ≤ m ∧ m < g := by
  induction h with
  | nil => exact ⟨Nat.le_refl _, fun m hm => by cases hm⟩
  | cons _ h1 h2 ih =>
    have := h1.le
    refine ⟨by omega, fun m hm => ?_⟩
    rcases List.mem_cons.1 hm with rfl | hm
    · omega
    · have := ih.2 m hm; omega
theorem Pre.congr {c c' : List In} {ns : List Nd} {f g : Nat} {ms : List Nat} (h : Pre c ns f g ms) : (∀ k, f ≤ k → k < g → k ∉ ms → c'[k]? = c[k]?) → Pre c' ns f g ms := by
  induction h with
  | nil => intro _; exact .nil
  | cons hs h1 h2 ih =>
    rename_i n ns f m g ms
    intro hk
    have l1 := h1.le
    have l2 := h2.le
    have hno : ∀ k, k < m → k ∉ m :: ms := fun k hk1 hm => by
      rcases List.mem_cons.1 hm with rfl | hm
      · omega
      · have := l2.2 k hm; omega
    exact .cons (by rw [hk _ (by omega) (by omega) (hno _ (by omega))]; exact hs) (h1.congr fun k a b => hk k (by omega) (by omega) (hno k b)) (ih fun k a b hn => hk k (by omega) b fun hm => by
      rcases List.mem_cons.1 hm with rfl | hm
      · omega
      · exact hn hm)
theorem Pre.snoc {c : List In} {ns : List Nd} {f g : Nat} {ms : List Nat} (h : Pre c ns f g ms) {n : Nd} {m : Nat} (hs : c[g]? = some (.split (g + 1) (m + 1))) (h1 : Impl c n (g + 1) m) : Pre c (ns ++ [n]) f (m + 1) (ms ++ [m]) := by
  induction h with
  | nil => exact .cons hs h1 .nil
  | cons hs' h1' _ ih => exact .cons hs' h1' (ih hs h1)
theorem Pre.close {c : List In} {ns : List Nd} {f g : Nat} {ms : List Nat} (h : Pre c ns f g ms) {n : Nd} {t : Nat} (h1 : Impl c n g t) (hj : ∀ m ∈ ms, c[m]? = some (.jump t)) : Impl c (.alt (ns ++ [n])) f t := by
  induction h with
  | nil => exact .alt1 h1
  | cons hs h2 _ ih =>
    exact .altS (by simp) hs h2 (hj _ List.mem_cons_self) (ih h1 fun m hm => hj m (List.mem_cons_of_mem _ hm))
theorem to_split {x y : Nat} {s : List (Int × Int)} {b : Bool} : (RI.mk 2 x y s b).to = .split x y := by simp [RI.to]
theorem to_jump {x y : Nat} {s : List (Int × Int)} {b : Bool} : (RI.mk 3 x y s b).to = .jump x := by simp [RI.to]
end Go.Proofs.Ytcajnmhbkjngbaa

/- Threads of an automaton, in plain Lean. -/
namespace Go.Proofs.Ytcajnmhbkjngbaa

/-- What follows without a character, in the order in which it is put on a stack. -/
def succs (c : List In) (bg fn : Bool) (p : Nat) : List Nat :=
  match c[p]? with
  | some (.split x y) => [y, x]
  | some (.jump x) => [x]
  | some .beg => if bg = true then [p + 1] else []
  | some .fin => if fn = true then [p + 1] else []
  | _ => []
inductive Eps (c : List In) (bg fn : Bool) : Nat → Nat → Prop
  | refl {p : Nat} : Eps c bg fn p p
  | step {p q r : Nat} : Eps c bg fn p q → r ∈ succs c bg fn q → Eps c bg fn p r
theorem succs_stp {c : List In} {l : List Int} {i p q : Nat} : q ∈ succs c (begL l i) (finL l i) p ↔ Stp c l p i q i := by
  unfold succs
  constructor
  · intro h
    split at h
    · rename_i x y hc
      rcases List.mem_cons.1 h with rfl | h
      · exact .splitY hc
      · rw [List.mem_singleton] at h; subst h; exact .splitX hc
    · rename_i x hc
      rw [List.mem_singleton] at h; subst h; exact .jump hc
    · rename_i hc
      split at h
      · rename_i hb; rw [List.mem_singleton] at h; subst h; exact .beg hc hb
      · cases h
    · rename_i hc
      split at h
      · rename_i hb; rw [List.mem_singleton] at h; subst h; exact .fin hc hb
      · cases h
    · cases h
  · intro h
    generalize hj : i = j at h
    cases h with
    | splitX hc => rw [hc]; simp
    | splitY hc => rw [hc]; simp
    | jump hc => rw [hc]; simp
    | beg hc hb => rw [hc]; simp [hb]
    | fin hc hb => rw [hc]; simp [hb]
theorem Eps.run {c : List In} {l : List Int} {i p q : Nat} (h : Eps c (begL l i) (finL l i) p q) : ∃ k, Run c l k p i q i := by
  induction h with
  | refl => exact ⟨0, .nil⟩
  | step _ hs ih => obtain ⟨k, r⟩ := ih; exact ⟨_, r.trans (.one (succs_stp.1 hs))⟩
/-- An instruction is there with a place that is not greater. -/
def Cov (fr : List Int) (p : Nat) (s : Int) : Prop := ∃ v, fr[p]? = some v ∧ 0 ≤ v ∧ v ≤ s
theorem Cov.mono {fr : List Int} {p : Nat} {s t : Int} (h : Cov fr p s) (hst : s ≤ t) : Cov fr p t := by
  obtain ⟨v, h1, h2, h3⟩ := h; exact ⟨v, h1, h2, by omega⟩
/-- All that an instruction leads to is in the code. -/
def Valid (c : List In) : Prop := ∀ p bg fn, ∀ q ∈ succs c bg fn p, q < c.length
/-- While instructions are added. -/
structure Adg (c : List In) (bg fn : Bool) (fr0 : List Int) (s : Int) (at0 : Nat) (fr : List Int) (ord : List Nat) (stack : List Nat) : Prop where
  len : fr.length = c.length
  mono : ∀ p v0, fr0[p]? = some v0 → 0 ≤ v0 → Cov fr p v0
  new : ∀ p v, fr[p]? = some v → 0 ≤ v → fr0[p]? = some v ∨ (v = s ∧ Eps c bg fn at0 p)
  cl : ∀ p v, fr[p]? = some v → 0 ≤ v → ∀ q ∈ succs c bg fn p, Cov fr q v ∨ (q ∈ stack ∧ s ≤ v)
  st : ∀ q ∈ stack, Eps c bg fn at0 q ∧ q < c.length
  at_ : Cov fr at0 s ∨ at0 ∈ stack
  oi : ∀ p, p ∈ ord ↔ Cov fr p (fr.getD p 0)
  nd : ord.Nodup
variable {c : List In} {bg fn : Bool} {fr0 fr : List Int} {s : Int} {at0 : Nat} {ord stack : List Nat}
theorem cov_self {fr : List Int} {p : Nat} : Cov fr p (fr.getD p 0) ↔ ∃ v, fr[p]? = some v ∧ 0 ≤ v := by
  constructor
  · rintro ⟨v, h1, h2, _⟩; exact ⟨v, h1, h2⟩
  · rintro ⟨v, h1, h2⟩
    refine ⟨v, h1, h2, ?_⟩
    rw [List.getD_eq_getElem?_getD, h1]
    exact Int.le_refl _
/-- Threads that lack nothing. -/
structure Thr (c : List In) (bg fn : Bool) (fr : List Int) (ord : List Nat) : Prop where
  len : fr.length = c.length
  cl : ∀ p v, fr[p]? = some v → 0 ≤ v → ∀ q ∈ succs c bg fn p, Cov fr q v
  oi : ∀ p, p ∈ ord ↔ Cov fr p (fr.getD p 0)
  nd : ord.Nodup
theorem Thr.start {fr : List Int} {ord : List Nat} (h : Thr c bg fn fr ord) {at0 : Nat} (ha : at0 < c.length) (s : Int) : Adg c bg fn fr s at0 fr ord [at0] :=
  ⟨h.len, fun p v0 h1 h2 => ⟨v0, h1, h2, Int.le_refl _⟩, fun p v h1 _ => .inl h1, fun p v h1 h2 q hq => .inl (h.cl p v h1 h2 q hq), fun q hq => by rw [List.mem_singleton] at hq; subst hq; exact ⟨.refl, ha⟩, .inr (by simp), h.oi, h.nd⟩
theorem Adg.done (h : Adg c bg fn fr0 s at0 fr ord []) : Thr c bg fn fr ord ∧ Cov fr at0 s :=
  ⟨⟨h.len, fun p v h1 h2 q hq => (h.cl p v h1 h2 q hq).resolve_right (fun e => by cases e.1), h.oi, h.nd⟩, h.at_.resolve_right (fun e => by cases e)⟩
/-- One that is there with a place that is not greater. -/
theorem Adg.skip {i : Nat} (h : Adg c bg fn fr0 s at0 fr ord (stack ++ [i])) (hi : Cov fr i s) : Adg c bg fn fr0 s at0 fr ord stack :=
  ⟨h.len, h.mono, h.new, fun p v h1 h2 q hq => by
    rcases h.cl p v h1 h2 q hq with e | ⟨e1, e2⟩
    · exact .inl e
    · rcases List.mem_append.1 e1 with e1 | e1
      · exact .inr ⟨e1, e2⟩
      · rw [List.mem_singleton] at e1; subst e1; exact .inl (hi.mono e2), fun q hq => h.st q (List.mem_append_left _ hq), by
    rcases h.at_ with e | e
    · exact .inl e
    · rcases List.mem_append.1 e with e1 | e1
      · exact .inr e1
      · rw [List.mem_singleton] at e1; subst e1; exact .inl hi, h.oi, h.nd⟩
theorem get_set {fr : List Int} {i p : Nat} {s : Int} (hi : i < fr.length) : (fr.set i s)[p]? = if p = i then some s else fr[p]? := by
  rw [List.getElem?_set]
  by_cases e : i = p
  · subst e; rw [if_pos rfl, if_pos hi, if_pos rfl]
  · rw [if_neg e, if_neg (fun h => e h.symm)]
/-- One that is new, or has a smaller place now. -/
theorem Adg.put {i : Nat} (h : Adg c bg fn fr0 s at0 fr ord (stack ++ [i])) (hv : Valid c) (hs : 0 ≤ s) (hi : ¬ Cov fr i s) :
    Adg c bg fn fr0 s at0 (fr.set i s) (if 0 ≤ fr.getD i 0 then ord else ord ++ [i]) (stack ++ succs c bg fn i) := by
  have hil : i < fr.length := by rw [h.len]; exact (h.st i (by simp)).2
  have hg : ∀ p, (fr.set i s)[p]? = if p = i then some s else fr[p]? := fun p => get_set hil
  have hcov : ∀ p v, Cov fr p v → Cov (fr.set i s) p v := fun p v ⟨u, h1, h2, h3⟩ => by
    by_cases e : p = i
    · subst e
      refine ⟨s, by rw [hg, if_pos rfl], hs, ?_⟩
      by_cases e2 : u ≤ s
      · exact absurd ⟨u, h1, h2, e2⟩ hi
      · omega
    · exact ⟨u, by rw [hg, if_neg e]; exact h1, h2, h3⟩
  have hself : Cov (fr.set i s) i s := ⟨s, by rw [hg, if_pos rfl], hs, Int.le_refl _⟩
  have hgd : fr.getD i 0 = fr[i]'hil := by rw [List.getD_eq_getElem?_getD, List.getElem?_eq_getElem hil]; rfl
  refine ⟨by rw [List.length_set]; exact h.len, fun p v0 h1 h2 => hcov p v0 (h.mono p v0 h1 h2), fun p v h1 h2 => ?_, fun p v h1 h2 q hq => ?_, fun q hq => ?_, ?_, fun p => ?_, ?_⟩
  · rw [hg] at h1
    by_cases e : p = i
    · subst e
      rw [if_pos rfl] at h1
      injection h1 with h1
      exact .inr ⟨h1.symm, (h.st p (by simp)).1⟩
    · rw [if_neg e] at h1
      exact h.new p v h1 h2
  · rw [hg] at h1
    by_cases e : p = i
    · subst e
      rw [if_pos rfl] at h1
      injection h1 with h1
      subst h1
      exact .inr ⟨List.mem_append_right _ hq, Int.le_refl _⟩
    · rw [if_neg e] at h1
      rcases h.cl p v h1 h2 q hq with e1 | ⟨e1, e2⟩
      · exact .inl (hcov _ _ e1)
      · rcases List.mem_append.1 e1 with e1 | e1
        · exact .inr ⟨List.mem_append_left _ e1, e2⟩
        · rw [List.mem_singleton] at e1; subst e1; exact .inl (hself.mono e2)
  · rcases List.mem_append.1 hq with e | e
    · exact h.st q (List.mem_append_left _ e)
    · exact ⟨.step (h.st i (by simp)).1 e, hv i bg fn q e⟩
  · rcases h.at_ with e | e
    · exact .inl (hcov _ _ e)
    · rcases List.mem_append.1 e with e | e
      · exact .inr (List.mem_append_left _ e)
      · rw [List.mem_singleton] at e; subst e; exact .inl hself
  · rw [cov_self, hg]
    by_cases e : p = i
    · subst e
      rw [if_pos rfl]
      refine ⟨fun _ => ⟨s, rfl, hs⟩, fun _ => ?_⟩
      split
      · rename_i hge
        rw [h.oi, cov_self]
        exact ⟨_, List.getElem?_eq_getElem hil, by rw [← hgd]; exact hge⟩
      · simp
    · rw [if_neg e, ← cov_self, ← h.oi]
      split
      · exact Iff.rfl
      · simp [e]
  · split
    · exact h.nd
    · rename_i hge
      rw [List.nodup_append]
      refine ⟨h.nd, by simp, fun a ha b hb e => ?_⟩
      rw [List.mem_singleton] at hb
      subst hb
      subst e
      rw [h.oi, cov_self] at ha
      obtain ⟨v, h1, h2⟩ := ha
      rw [List.getElem?_eq_getElem hil] at h1
      injection h1 with h1
      rw [hgd] at hge
      omega
/-- How many are to be put at most. -/
def lackN (fr : List Int) (s : Int) : Nat := (fr.filter fun v => !(decide (0 ≤ v) && decide (v ≤ s))).length
theorem lack_set {s : Int} (hs : 0 ≤ s) : ∀ {fr : List Int} {i : Nat} (hi : i < fr.length), ¬ (0 ≤ fr[i] ∧ fr[i] ≤ s) → lackN (fr.set i s) s + 1 = lackN fr s
  | v :: fr, 0, hi, h => by
    unfold lackN
    simp only [List.set_cons_zero, List.filter_cons]
    rw [if_neg (by simp [hs]), if_pos (by
      have h : ¬ (0 ≤ v ∧ v ≤ s) := h
      simp only [Bool.not_eq_true', Bool.and_eq_false_iff, decide_eq_false_iff_not]
      omega)]
    rfl
  | v :: fr, i + 1, hi, h => by
    have ih := lack_set hs (fr := fr) (i := i) (by simpa using hi) (by simpa using h)
    unfold lackN at ih ⊢
    simp only [List.set_cons_succ, List.filter_cons]
    split
    · rw [List.length_cons, List.length_cons]; omega
    · exact ih
theorem lack_le (fr : List Int) (s : Int) : lackN fr s ≤ fr.length := List.length_filter_le _ _
theorem succs_len (c : List In) (bg fn : Bool) (p : Nat) : (succs c bg fn p).length ≤ 2 := by
  unfold succs
  split
  · simp
  · simp
  · split <;> simp
  · split <;> simp
  · simp
/-- The instructions of an expression stay within it, or go behind it. -/
theorem Impl.within {c : List In} {n : Nd} {f t : Nat} (h : Impl c n f t) : ∀ k, f ≤ k → k < t → (∀ bg fn, ∀ q ∈ succs c bg fn k, f ≤ q ∧ q ≤ t) ∧ c[k]? ≠ some .acc ∧ k < c.length := by
  have one : ∀ {i : In} {k f t : Nat}, c[k]? = some i → i ≠ .acc → (∀ x y, i = .split x y → f ≤ x ∧ x ≤ t ∧ f ≤ y ∧ y ≤ t) → (∀ x, i = .jump x → f ≤ x ∧ x ≤ t) → f ≤ k + 1 → k + 1 ≤ t → (∀ bg fn, ∀ q ∈ succs c bg fn k, f ≤ q ∧ q ≤ t) ∧ c[k]? ≠ some .acc ∧ k < c.length := by
    intro i k f t hc hn hs hj h1 h2
    refine ⟨fun bg fn q hq => ?_, by rw [hc]; intro e; injection e with e; exact hn e, (List.getElem?_eq_some_iff.1 hc).1⟩
    unfold succs at hq
    rw [hc] at hq
    cases i with
    | acc => cases hq
    | take s => cases hq
    | split x y =>
      have := hs x y rfl
      rcases List.mem_cons.1 hq with rfl | hq
      · omega
      · rw [List.mem_singleton] at hq; subst hq; omega
    | jump x =>
      have := hj x rfl
      have hq : q ∈ [x] := hq
      rw [List.mem_singleton] at hq; subst hq; omega
    | beg =>
      have hq : q ∈ (if bg = true then [k + 1] else []) := hq
      split at hq
      · rw [List.mem_singleton] at hq; subst hq; omega
      · cases hq
    | fin =>
      have hq : q ∈ (if fn = true then [k + 1] else []) := hq
      split at hq
      · rw [List.mem_singleton] at hq; subst hq; omega
      · cases hq
  induction h with
  | set h =>
    rename_i s f
    intro k h1 h2
    obtain rfl : k = f := by omega
    exact one h (by simp) (by simp) (by simp) (by omega) (by omega)
  | beg h =>
    rename_i f
    intro k h1 h2
    obtain rfl : k = f := by omega
    exact one h (by simp) (by simp) (by simp) (by omega) (by omega)
  | fin h =>
    rename_i f
    intro k h1 h2
    obtain rfl : k = f := by omega
    exact one h (by simp) (by simp) (by simp) (by omega) (by omega)
  | cat0 => intro k h1 h2; omega
  | catS ha hb i1 i2 =>
    rename_i x xs f m t
    intro k h1 h2
    have l1 := ha.le
    have l2 := hb.le
    by_cases e : k < m
    · obtain ⟨a, b, c⟩ := i1 k h1 e; exact ⟨fun bg fn q hq => by have := a bg fn q hq; omega, b, c⟩
    · obtain ⟨a, b, c⟩ := i2 k (by omega) h2; exact ⟨fun bg fn q hq => by have := a bg fn q hq; omega, b, c⟩
  | alt1 _ ih => exact ih
  | altS hne hs ha hj hb i1 i2 =>
    rename_i x xs f m t
    intro k h1 h2
    have l1 := ha.le
    have l2 := hb.le
    by_cases e0 : k = f
    · subst e0; exact one hs (by simp) (fun x y e => by cases e; omega) (by simp) (by omega) (by omega)
    by_cases e1 : k < m
    · obtain ⟨a, b, c⟩ := i1 k (by omega) e1; exact ⟨fun bg fn q hq => by have := a bg fn q hq; omega, b, c⟩
    by_cases e2 : k = m
    · subst e2; exact one hj (by simp) (by simp) (fun x e => by cases e; omega) (by omega) (by omega)
    · obtain ⟨a, b, c⟩ := i2 k (by omega) h2; exact ⟨fun bg fn q hq => by have := a bg fn q hq; omega, b, c⟩
  | star hs ha hj ih =>
    rename_i x f m
    intro k h1 h2
    have l1 := ha.le
    by_cases e0 : k = f
    · subst e0; exact one hs (by simp) (fun x y e => by cases e; omega) (by simp) (by omega) (by omega)
    by_cases e1 : k < m
    · obtain ⟨a, b, c⟩ := ih k (by omega) e1; exact ⟨fun bg fn q hq => by have := a bg fn q hq; omega, b, c⟩
    · obtain rfl : k = m := by omega
      exact one hj (by simp) (by simp) (fun x e => by cases e; omega) (by omega) (by omega)
  | plus ha hs ih =>
    rename_i x f m
    intro k h1 h2
    have l1 := ha.le
    by_cases e1 : k < m
    · obtain ⟨a, b, c⟩ := ih k (by omega) e1; exact ⟨fun bg fn q hq => by have := a bg fn q hq; omega, b, c⟩
    · obtain rfl : k = m := by omega
      exact one hs (by simp) (fun x y e => by cases e; omega) (by simp) (by omega) (by omega)
  | opt hs ha ih =>
    rename_i x f m
    intro k h1 h2
    have l1 := ha.le
    by_cases e0 : k = f
    · subst e0; exact one hs (by simp) (fun x y e => by cases e; omega) (by simp) (by omega) (by omega)
    · obtain ⟨a, b, c⟩ := ih k (by omega) h2; exact ⟨fun bg fn q hq => by have := a bg fn q hq; omega, b, c⟩
/-- The automaton of an expression. -/
structure Auto (c : List In) (n : Nd) : Prop where
  im : Impl c n 0 (c.length - 1)
  acc : c[c.length - 1]? = some .acc
theorem Auto.pos {c : List In} {n : Nd} (h : Auto c n) : 0 < c.length := by have := (List.getElem?_eq_some_iff.1 h.acc).1; omega
theorem Auto.valid {c : List In} {n : Nd} (h : Auto c n) : Valid c := fun p bg fn q hq => by
  have hp := h.pos
  by_cases e : p < c.length - 1
  · have := (h.im.within p (Nat.zero_le _) e).1 bg fn q hq; omega
  · by_cases e2 : p = c.length - 1
    · unfold succs at hq; rw [e2, h.acc] at hq; cases hq
    · unfold succs at hq; rw [List.getElem?_eq_none (by omega)] at hq; cases hq
theorem Auto.next {c : List In} {n : Nd} (h : Auto c n) {p : Nat} {s : CSet} (hp : c[p]? = some (.take s)) : p + 1 < c.length := by
  have h1 := (List.getElem?_eq_some_iff.1 hp).1
  by_cases e : p = c.length - 1
  · rw [e, h.acc] at hp; cases hp
  · omega
end Go.Proofs.Ytcajnmhbkjngbaa

/- The search of an automaton, in plain Lean. -/
namespace Go.Proofs.Ytcajnmhbkjngbaa

theorem Stp.pos {c : List In} {l : List Int} {p i q j : Nat} (h : Stp c l p i q j) : j = i ∨ (j = i + 1 ∧ q = p + 1 ∧ ∃ s x, c[p]? = some (.take s) ∧ l[i]? = some x ∧ s.has x = true) := by
  cases h with
  | take a b d => exact .inr ⟨rfl, rfl, _, _, a, b, d⟩
  | splitX _ => exact .inl rfl
  | splitY _ => exact .inl rfl
  | jump _ => exact .inl rfl
  | beg _ _ => exact .inl rfl
  | fin _ _ => exact .inl rfl
theorem Run.cross {c : List In} {l : List Int} {k p i q j : Nat} (h : Run c l k p i q j) : ∀ {t : Nat}, i ≤ t → t < j → ∃ k1 q1 q2 k2, Run c l k1 p i q1 t ∧ Stp c l q1 t q2 (t + 1) ∧ Run c l k2 q2 (t + 1) q j := by
  induction h with
  | nil => intro t h1 h2; omega
  | cons s r ih =>
    rename_i k p i p' i' q j
    intro t h1 h2
    rcases s.pos with e | ⟨e, e2, _⟩
    · subst e
      obtain ⟨k1, q1, q2, k2, a, b, d⟩ := ih h1 h2
      exact ⟨_, q1, q2, k2, .cons s a, b, d⟩
    · by_cases h3 : i' ≤ t
      · obtain ⟨k1, q1, q2, k2, a, b, d⟩ := ih h3 h2
        exact ⟨_, q1, q2, k2, .cons s a, b, d⟩
      · obtain rfl : t = i := by omega
        subst e
        exact ⟨0, p, p', k, .nil, s, r⟩
/-- The last step of so many. -/
theorem Run.last {c : List In} {l : List Int} {k p i q j : Nat} (h : Run c l (k + 1) p i q j) : ∃ p' i', Run c l k p i p' i' ∧ Stp c l p' i' q j := by
  generalize hk : k + 1 = m at h
  induction h generalizing k with
  | nil => omega
  | cons s r ih =>
    rename_i m p i p' i' q j
    obtain rfl : k = m := by omega
    cases k with
    | zero => cases r with | nil => exact ⟨p, i, .nil, s⟩
    | succ k =>
      obtain ⟨p2, i2, a, b⟩ := ih rfl
      exact ⟨p2, i2, .cons s a, b⟩
theorem Run.mono {c : List In} {l : List Int} {k p i q j : Nat} (h : Run c l k p i q j) : i ≤ j := by
  induction h with
  | nil => exact Nat.le_refl _
  | cons s' _ ih => rcases s'.pos with e | e <;> omega
/-- Where a match may begin. -/
def From0 (lo : Nat) (here : Bool) (s : Nat) : Prop := lo ≤ s ∧ (here = true → s = lo)
section
variable {c : List In} {l : List Int} {n : Nd} {lo : Nat} {here : Bool} {b : Int} {i : Nat} {ker : List Nat} {st : Nat → Option Int} {m : Option (Nat × Nat)} {fr : List Int} {ord : List Nat}
/-- What is known of a kernel at a place. -/
structure Ker (c : List In) (l : List Int) (lo : Nat) (here : Bool) (b : Int) (i : Nat) (ker : List Nat) (st : Nat → Option Int) : Prop where
  snd : ∀ p ∈ ker, p < c.length ∧ ∃ v : Nat, st p = some (v : Int) ∧ From0 lo here v ∧ v < i ∧ ∃ k, Run c l k 0 v p i
  cpl : ∀ s, From0 lo here s → (b < 0 ∨ (s : Int) ≤ b) → ∀ k q i' p, i' + 1 = i → Run c l k 0 s q i' → Stp c l q i' p i → p ∈ ker ∧ ∃ v : Nat, st p = some (v : Int) ∧ v ≤ s
/-- What is known of the matches that end ahead of a place. -/
structure Bst (l : List Int) (n : Nd) (lo : Nat) (here : Bool) (b : Int) (i : Nat) (m : Option (Nat × Nat)) : Prop where
  no : b < 0 → m = none ∧ ∀ s, From0 lo here s → ∀ j, j < i → ¬ Mt l n s j
  yes : 0 ≤ b → ∃ e, m = some (b.toNat, e) ∧ Mt l n b.toNat e ∧ From0 lo here b.toNat ∧ e < i ∧ (∀ s, From0 lo here s → s < b.toNat → ∀ j, j < i → ¬ Mt l n s j) ∧ ∀ j, j < i → Mt l n b.toNat j → j ≤ e
/-- What is known of threads at a place. -/
structure Thd (c : List In) (l : List Int) (lo : Nat) (here : Bool) (b : Int) (i : Nat) (fr : List Int) : Prop where
  snd : ∀ (p : Nat) (v : Int), fr[p]? = some v → 0 ≤ v → From0 lo here v.toNat ∧ v ≤ i ∧ ∃ k, Run c l k 0 v.toNat p i
  cpl : ∀ s, From0 lo here s → s ≤ i → (b < 0 ∨ (s : Int) ≤ b) → ∀ k p, Run c l k 0 s p i → Cov fr p s
theorem Ker.start : Ker c l lo here b lo [] st := ⟨fun p hp => (by cases hp), fun s hs _ k q i' p hi r _ => by
  have h1 := hs.1
  have h2 := r.mono
  omega⟩
theorem Bst.start : Bst l n lo here (-1) lo none := ⟨fun _ => ⟨rfl, fun s hs j hj hm => by have := hm.le; have := hs.1; omega⟩, fun h => by omega⟩
/-- The threads are those of the kernel, of the beginning if it counts, and what follows. -/
theorem Thd.of (hk : Ker c l lo here b i ker st) (hb : Bst l n lo here b i m) (ht : Thr c (begL l i) (finL l i) fr ord)
    (hnew : ∀ p v, fr[p]? = some v → 0 ≤ v → (∃ q ∈ ker, st q = some v ∧ Eps c (begL l i) (finL l i) q p) ∨ (v = i ∧ b < 0 ∧ From0 lo here i ∧ Eps c (begL l i) (finL l i) 0 p))
    (hker : ∀ q ∈ ker, ∀ v, st q = some v → Cov fr q v) (hst : b < 0 → From0 lo here i → Cov fr 0 i) : Thd c l lo here b i fr where
  snd := fun p v h1 h2 => by
    rcases hnew p v h1 h2 with ⟨q, hq, hs, he⟩ | ⟨rfl, _, hf, he⟩
    · obtain ⟨_, u, hu, hf, hlt, k, r⟩ := hk.snd q hq
      rw [hs] at hu
      injection hu with hu
      subst hu
      obtain ⟨k2, r2⟩ := he.run
      exact ⟨by simpa using hf, by omega, _, by simpa using r.trans r2⟩
    · obtain ⟨k2, r2⟩ := he.run
      exact ⟨by simpa using hf, Int.le_refl _, k2, by simpa using r2⟩
  cpl := fun s hs hsi hbs k => by
    induction k with
    | zero =>
      intro p r
      cases r with
      | nil =>
        refine hst ?_ hs
        rcases hbs with h | h
        · exact h
        · by_cases hb0 : b < 0
          · exact hb0
          · obtain ⟨e, _, hm, _, he, _⟩ := hb.yes (by omega)
            have := hm.le
            omega
    | succ k ih =>
      intro p r
      obtain ⟨p', i', r1, s1⟩ := r.last
      rcases s1.pos with e | ⟨e, _⟩
      · subst e
        obtain ⟨v, h1, h2, h3⟩ := ih p' r1
        exact (ht.cl p' v h1 h2 p (succs_stp.2 s1)).mono h3
      · obtain ⟨hp, v, hv, hvs⟩ := hk.cpl s hs hbs k p' i' p e.symm r1 s1
        exact (hker p hp v hv).mono (by omega)
variable (ha : Auto c n) (hi : i ≤ l.length)
include ha hi
/-- Whether what is accepted is better. -/
theorem Bst.keep (hb : Bst l n lo here b i m) (ht : Thd c l lo here b i fr) {k : Int} (hk : fr[c.length - 1]? = some k) (hn : ¬ (0 ≤ k ∧ (b < 0 ∨ k ≤ b))) : Bst l n lo here b (i + 1) m := by
  have hno : ∀ s, From0 lo here s → (b < 0 ∨ (s : Int) ≤ b) → ¬ Mt l n s i := fun s hs hbs hm => by
    obtain ⟨k', r⟩ := ha.im.run hm
    obtain ⟨v, h1, h2, h3⟩ := ht.cpl s hs hm.le.1 hbs k' _ r
    rw [hk] at h1
    injection h1 with h1
    subst h1
    exact hn ⟨h2, hbs.imp id fun e => by omega⟩
  refine ⟨fun h => ?_, fun h => ?_⟩
  · obtain ⟨h1, h2⟩ := hb.no h
    refine ⟨h1, fun s hs j hj => ?_⟩
    by_cases e : j = i
    · subst e; exact hno s hs (.inl h)
    · exact h2 s hs j (by omega)
  · obtain ⟨e, h1, h2, h3, h4, h5, h6⟩ := hb.yes h
    refine ⟨e, h1, h2, h3, by omega, fun s hs hlt j hj => ?_, fun j hj hm => ?_⟩
    · by_cases e : j = i
      · subst e; exact hno s hs (.inr (by omega))
      · exact h5 s hs hlt j (by omega)
    · by_cases e : j = i
      · subst e; exact absurd hm (hno _ h3 (.inr (by omega)))
      · exact h6 j (by omega) hm
theorem Bst.better (hb : Bst l n lo here b i m) (ht : Thd c l lo here b i fr) {k : Int} (hk : fr[c.length - 1]? = some k) (hy : 0 ≤ k ∧ (b < 0 ∨ k ≤ b)) : Bst l n lo here k (i + 1) (some (k.toNat, i)) := by
  obtain ⟨hf, hki, k', r⟩ := ht.snd _ k hk hy.1
  have hm : Mt l n k.toNat i := (ha.im.iff ha.acc (by omega)).1 ⟨k', r⟩
  refine ⟨fun h => by omega, fun _ => ⟨i, rfl, hm, hf, Nat.lt_succ_self _, fun s hs hlt j hj hmt => ?_, fun j hj _ => by omega⟩⟩
  by_cases e : j = i
  · subst e
    obtain ⟨k2, r2⟩ := ha.im.run hmt
    obtain ⟨v, h1, h2, h3⟩ := ht.cpl s hs hmt.le.1 (hy.2.imp id fun e => by omega) k2 _ r2
    rw [hk] at h1
    injection h1 with h1
    omega
  · by_cases hb0 : b < 0
    · exact (hb.no hb0).2 s hs j (by omega) hmt
    · obtain ⟨e2, _, _, _, _, h5, _⟩ := hb.yes (by omega)
      exact h5 s hs (by omega) j (by omega) hmt
omit ha hi
/-- The kernel behind a character. -/
theorem Thd.kerN (hv : ∀ p s, c[p]? = some (.take s) → p + 1 < c.length) (ht : Thd c l lo here b i fr) {b' : Int} (hb' : b < 0 ∨ b' ≤ b) (hb0 : b' < 0 → b < 0) {x : Int} (hx : l[i]? = some x) {ker' : List Nat} {st' : Nat → Option Int}
    (h1 : ∀ p ∈ ker', ∃ q v s, p = q + 1 ∧ fr[q]? = some v ∧ 0 ≤ v ∧ c[q]? = some (.take s) ∧ s.has x = true ∧ st' p = some v)
    (h2 : ∀ q v s, fr[q]? = some v → 0 ≤ v → c[q]? = some (.take s) → s.has x = true → (b' < 0 ∨ v ≤ b') → q + 1 ∈ ker' ∧ st' (q + 1) = some v) : Ker c l lo here b' (i + 1) ker' st' where
  snd := fun p hp => by
    obtain ⟨q, v, s, rfl, e1, e2, e3, e4, e5⟩ := h1 p hp
    obtain ⟨f1, f2, k, r⟩ := ht.snd q v e1 e2
    exact ⟨hv q s e3, v.toNat, by rw [e5]; congr 1; omega, f1, by omega, _, r.trans (.one (.take e3 hx e4))⟩
  cpl := fun s hs hbs k q i' p hi' r hst => by
    obtain rfl : i' = i := by omega
    rcases hst.pos with e | ⟨_, rfl, sx, y, g1, g2, g3⟩
    · omega
    · rw [hx] at g2
      injection g2 with g2
      subst g2
      have hsi : s ≤ i' := r.mono
      obtain ⟨v, e1, e2, e3⟩ := ht.cpl s hs hsi (by
        rcases hbs with h | h
        · exact .inl (hb0 h)
        · rcases hb' with h' | h'
          · exact .inl h'
          · exact .inr (by omega)) k q r
      obtain ⟨a1, a2⟩ := h2 q v sx e1 e2 g1 g3 (hbs.imp id fun e => by omega)
      exact ⟨a1, v.toNat, by rw [a2]; congr 1; omega, by omega⟩
/-- The outcome of a search. -/
structure Fnd (l : List Int) (n : Nd) (lo : Nat) (here : Bool) (m : Option (Nat × Nat)) : Prop where
  no : m = none → ∀ s, From0 lo here s → ∀ j, ¬ Mt l n s j
  yes : ∀ b e, m = some (b, e) → Mt l n b e ∧ From0 lo here b ∧ (∀ s, From0 lo here s → s < b → ∀ j, ¬ Mt l n s j) ∧ ∀ j, Mt l n b j → j ≤ e
theorem Bst.all (hb : Bst l n lo here b (l.length + 1) m) : Fnd l n lo here m := by
  refine ⟨fun h s hs j hm => ?_, fun b' e h => ?_⟩
  · by_cases h0 : b < 0
    · exact (hb.no h0).2 s hs j (by have := hm.le; omega) hm
    · obtain ⟨e, h1, _⟩ := hb.yes (by omega); rw [h] at h1; cases h1
  · by_cases h0 : b < 0
    · rw [(hb.no h0).1] at h; cases h
    · obtain ⟨e', h1, h2, h3, h4, h5, h6⟩ := hb.yes (by omega)
      rw [h] at h1
      injection h1 with h1
      injection h1 with h1 h7
      subst h1 h7
      exact ⟨h2, h3, fun s hs hlt j hm => h5 s hs hlt j (by have := hm.le; omega) hm, fun j hm => h6 j (by have := hm.le; omega) hm⟩
include ha in
/-- Nothing can come any more. -/
theorem Bst.stop (hb : Bst l n lo here b (i + 1) m) (hk : Ker c l lo here b (i + 1) [] st) (hli : lo ≤ i) (he : 0 ≤ b ∨ here = true) : Fnd l n lo here m := by
  have key : ∀ s, From0 lo here s → (b < 0 ∨ (s : Int) ≤ b) → s ≤ i → ∀ j, Mt l n s j → j < i + 1 := fun s hs hbs hsi j hm => by
    by_cases hj : j < i + 1
    · exact hj
    · obtain ⟨k, r⟩ := ha.im.run hm
      obtain ⟨k1, q1, q2, k2, r1, s1, _⟩ := r.cross hsi (show i < j by omega)
      obtain ⟨hp, _⟩ := hk.cpl s hs hbs k1 q1 i q2 rfl r1 s1
      cases hp
  refine ⟨fun h s hs j hm => ?_, fun b' e h => ?_⟩
  · by_cases h0 : b < 0
    · have hh : here = true := by rcases he with e | e
                                  · omega
                                  · exact e
      have hsl := hs.2 hh
      exact (hb.no h0).2 s hs j (key s hs (.inl h0) (by omega) j hm) hm
    · obtain ⟨e, h1, _⟩ := hb.yes (by omega); rw [h] at h1; cases h1
  · by_cases h0 : b < 0
    · rw [(hb.no h0).1] at h; cases h
    · obtain ⟨e', h1, h2, h3, h4, h5, h6⟩ := hb.yes (by omega)
      rw [h] at h1
      injection h1 with h1
      injection h1 with h1 h7
      subst h1 h7
      have hbi : b.toNat ≤ i := by have := h2.le; omega
      exact ⟨h2, h3, fun s hs hlt j hm => h5 s hs hlt j (key s hs (.inr (by omega)) (by omega) j hm) hm, fun j hm => h6 j (key _ h3 (.inr (by omega)) hbi j hm) hm⟩
end
end Go.Proofs.Ytcajnmhbkjngbaa

/- Tables of matches, in plain Lean. -/
namespace Go.Proofs.Ytcajnmhbkjngbaa

/-- A star's rounds that are not empty. -/
theorem star_iff {l : List Int} {x : Nd} {i j : Nat} : Mt l (.star x) i j ↔ (i = j ∧ i ≤ l.length) ∨ ∃ k, i < k ∧ Mt l x i k ∧ Mt l (.star x) k j := by
  constructor
  · intro h
    refine Mt.star_rec (P := fun i j => (i = j ∧ i ≤ l.length) ∨ ∃ k, i < k ∧ Mt l x i k ∧ Mt l (.star x) k j) (fun i hi => .inl ⟨rfl, hi⟩) (fun i k j hx hr => ?_) h
    have hle := hx.le
    by_cases e : i = k
    · subst e; exact hr
    · refine .inr ⟨k, by omega, hx, ?_⟩
      rcases hr with ⟨rfl, h2⟩ | ⟨k2, _, h3, h4⟩
      · exact .star0 h2
      · exact .starS h3 h4
  · rintro (⟨rfl, h⟩ | ⟨k, _, h1, h2⟩)
    · exact .star0 h
    · exact .starS h1 h2
/-- A table: whether a part from i to j is matched. -/
abbrev Tbl := Nat → Nat → Bool
/-- A table is that of an expression. -/
def IsT (l : List Int) (n : Nd) (t : Tbl) : Prop := ∀ i j, t i j = true ↔ Mt l n i j
theorem isT_set {l : List Int} {s : CSet} {t : Tbl} (h : ∀ i j, t i j = true ↔ j = i + 1 ∧ ∃ c, l[i]? = some c ∧ s.has c = true) : IsT l (.set s) t := fun i j => by
  rw [h]
  constructor
  · rintro ⟨rfl, c, h1, h2⟩; exact .set h1 h2
  · intro h; cases h with | set h1 h2 => exact ⟨rfl, _, h1, h2⟩
theorem isT_beg {l : List Int} {t : Tbl} (h : ∀ i j, t i j = true ↔ j = i ∧ i ≤ l.length ∧ begL l i = true) : IsT l .beg t := fun i j => by
  rw [h]
  constructor
  · rintro ⟨rfl, h1, h2⟩; exact .beg h1 h2
  · intro h; cases h with | beg h1 h2 => exact ⟨rfl, h1, h2⟩
theorem isT_fin {l : List Int} {t : Tbl} (h : ∀ i j, t i j = true ↔ j = i ∧ i ≤ l.length ∧ finL l i = true) : IsT l .fin t := fun i j => by
  rw [h]
  constructor
  · rintro ⟨rfl, h1, h2⟩; exact .fin h1 h2
  · intro h; cases h with | fin h1 h2 => exact ⟨rfl, h1, h2⟩
theorem cat_snoc {l : List Int} {x : Nd} : ∀ {xs : List Nd} {i j : Nat}, Mt l (.cat (xs ++ [x])) i j ↔ ∃ k, Mt l (.cat xs) i k ∧ Mt l x k j
  | [], i, j => by
    constructor
    · intro h; cases h with | catS h1 h2 => cases h2 with | cat0 h3 => exact ⟨i, .cat0 (by have := h1.le; omega), h1⟩
    · rintro ⟨k, h1, h2⟩; cases h1 with | cat0 h3 => exact .catS h2 (.cat0 h2.le.2)
  | y :: xs, i, j => by
    constructor
    · intro h
      cases h with
      | catS h1 h2 =>
        obtain ⟨k, h3, h4⟩ := cat_snoc.1 h2
        exact ⟨k, .catS h1 h3, h4⟩
    · rintro ⟨k, h1, h2⟩
      cases h1 with
      | catS h3 h4 => exact .catS h3 (cat_snoc.2 ⟨k, h4, h2⟩)
theorem alt_iff {l : List Int} : ∀ {xs : List Nd} {i j : Nat}, Mt l (.alt xs) i j ↔ ∃ x ∈ xs, Mt l x i j
  | [], i, j => by
    constructor
    · intro h; cases h
    · rintro ⟨x, h, _⟩; cases h
  | y :: xs, i, j => by
    constructor
    · intro h
      cases h with
      | altH h => exact ⟨y, List.mem_cons_self, h⟩
      | altT h => obtain ⟨x, h1, h2⟩ := alt_iff.1 h; exact ⟨x, List.mem_cons_of_mem _ h1, h2⟩
    · rintro ⟨x, h1, h2⟩
      rcases List.mem_cons.1 h1 with rfl | h1
      · exact .altH h2
      · exact .altT (alt_iff.2 ⟨x, h1, h2⟩)
theorem plus_iff {l : List Int} {x : Nd} {i j : Nat} : Mt l (.plus x) i j ↔ ∃ k, Mt l x i k ∧ Mt l (.star x) k j := by
  constructor
  · intro h; cases h with | plus h1 h2 => exact ⟨_, h1, h2⟩
  · rintro ⟨k, h1, h2⟩; exact .plus h1 h2
theorem opt_iff {l : List Int} {x : Nd} {i j : Nat} : Mt l (.opt x) i j ↔ (i = j ∧ i ≤ l.length) ∨ Mt l x i j := by
  constructor
  · intro h; cases h with
    | opt0 h => exact .inl ⟨rfl, h⟩
    | optS h => exact .inr h
  · rintro (⟨rfl, h⟩ | h)
    · exact .opt0 h
    · exact .optS h
/-- One table, then another one. -/
def thenT (N : Nat) (a b : Tbl) : Tbl := fun i j => (List.range (N + 1)).any fun k => a i k && b k j
theorem isT_then {l : List Int} {p : Nat → Nat → Prop} {x : Nd} {a b t : Tbl} (ha : ∀ i j, a i j = true ↔ p i j) (hb : IsT l x b) (ht : ∀ i j, t i j = true ↔ ∃ k, a i k = true ∧ b k j = true) : ∀ i j, t i j = true ↔ ∃ k, p i k ∧ Mt l x k j := fun i j => by
  rw [ht]
  exact ⟨fun ⟨k, h1, h2⟩ => ⟨k, (ha i k).1 h1, (hb k j).1 h2⟩, fun ⟨k, h1, h2⟩ => ⟨k, (ha i k).2 h1, (hb k j).2 h2⟩⟩
/-- Any number of parts: from the last place back. -/
theorem isT_many {l : List Int} {x : Nd} {a t : Tbl} (ha : IsT l x a) (ht : ∀ i j, t i j = true ↔ (i = j ∧ i ≤ l.length) ∨ ∃ k, i < k ∧ a i k = true ∧ t k j = true) : IsT l (.star x) t := by
  have key : ∀ d i j, l.length + 1 - i ≤ d → (t i j = true ↔ Mt l (.star x) i j) := by
    intro d
    induction d with
    | zero =>
      intro i j hd
      rw [ht, star_iff]
      constructor
      · rintro (h | ⟨k, h1, h2, _⟩)
        · exact .inl h
        · have := ((ha i k).1 h2).le; omega
      · rintro (h | ⟨k, h1, h2, _⟩)
        · exact .inl h
        · have := h2.le; omega
    | succ d ih =>
      intro i j hd
      rw [ht, star_iff]
      constructor
      · rintro (h | ⟨k, h1, h2, h3⟩)
        · exact .inl h
        · exact .inr ⟨k, h1, (ha i k).1 h2, (ih k j (by omega)).1 h3⟩
      · rintro (h | ⟨k, h1, h2, h3⟩)
        · exact .inl h
        · exact .inr ⟨k, h1, (ha i k).2 h2, (ih k j (by omega)).2 h3⟩
  exact fun i j => key _ i j (Nat.le_refl _)
/-- The first match from a place on, as the definition has it. -/
structure First (l : List Int) (n : Nd) (lo : Nat) (m : Option (Nat × Nat)) : Prop where
  no : m = none → ∀ s, lo ≤ s → ∀ j, ¬ Mt l n s j
  yes : ∀ b e, m = some (b, e) → Mt l n b e ∧ lo ≤ b ∧ (∀ s, lo ≤ s → s < b → ∀ j, ¬ Mt l n s j) ∧ ∀ j, Mt l n b j → j ≤ e
theorem First.unique {l : List Int} {n : Nd} {lo : Nat} {m m' : Option (Nat × Nat)} (h : First l n lo m) (h' : First l n lo m') : m = m' := by
  match m, m' with
  | none, none => rfl
  | none, some (b, e) => obtain ⟨h1, h2, _⟩ := h'.yes b e rfl; exact absurd h1 (h.no rfl b h2 e)
  | some (b, e), none => obtain ⟨h1, h2, _⟩ := h.yes b e rfl; exact absurd h1 (h'.no rfl b h2 e)
  | some (b, e), some (b', e') =>
    obtain ⟨h1, h2, h3, h4⟩ := h.yes b e rfl
    obtain ⟨g1, g2, g3, g4⟩ := h'.yes b' e' rfl
    have hb : b = b' := by
      rcases Nat.lt_trichotomy b b' with q | q | q
      · exact absurd h1 (g3 b h2 q e)
      · exact q
      · exact absurd g1 (h3 b' g2 q e')
    subst hb
    have := h4 e' g1
    have := g4 e h1
    obtain rfl : e = e' := by omega
    rfl
theorem Fnd.first {l : List Int} {n : Nd} {lo : Nat} {m : Option (Nat × Nat)} (h : Fnd l n lo false m) : First l n lo m :=
  ⟨fun e s hs j => h.no e s ⟨hs, fun h => by cases h⟩ j, fun b e he => by
    obtain ⟨h1, h2, h3, h4⟩ := h.yes b e he
    exact ⟨h1, h2.1, fun s hs hlt j => h3 s ⟨hs, fun h => by cases h⟩ hlt j, h4⟩⟩
theorem Fnd.whole {l : List Int} {n : Nd} {m : Option (Nat × Nat)} (h : Fnd l n 0 true m) : (∃ b, m = some (b, l.length)) ↔ Mt l n 0 l.length := by
  constructor
  · rintro ⟨b, hb⟩
    obtain ⟨h1, h2, _⟩ := h.yes b _ hb
    rw [h2.2 rfl] at h1
    exact h1
  · intro hm
    cases m with
    | none => exact absurd hm (h.no rfl 0 ⟨Nat.le_refl _, fun _ => rfl⟩ _)
    | some p =>
      obtain ⟨b, e⟩ := p
      obtain ⟨h1, h2, _, h4⟩ := h.yes b e rfl
      have hb := h2.2 rfl
      subst hb
      have := h4 _ hm
      have := h1.le
      obtain rfl : e = l.length := by omega
      exact ⟨0, rfl⟩
end Go.Proofs.Ytcajnmhbkjngbaa

/- Expressions without anchors, in plain Lean: a part of a string is matched as it is alone. -/
namespace Go.Proofs.Ytcajnmhbkjngbaa

inductive Un : Nd → Prop
  | set {s : CSet} : Un (.set s)
  | cat {l : List Nd} : (∀ x ∈ l, Un x) → Un (.cat l)
  | alt {l : List Nd} : (∀ x ∈ l, Un x) → Un (.alt l)
  | star {x : Nd} : Un x → Un (.star x)
  | plus {x : Nd} : Un x → Un (.plus x)
  | opt {x : Nd} : Un x → Un (.opt x)
def partL (l : List Int) (a b : Nat) : List Int := (l.drop a).take (b - a)
theorem len_partL {l : List Int} {a b : Nat} (hb : b ≤ l.length) : (partL l a b).length = b - a := by
  unfold partL; rw [List.length_take, List.length_drop]; omega
theorem partL_get {l : List Int} {a b i : Nat} (h1 : a ≤ i) (h2 : i < b) : (partL l a b)[i - a]? = l[i]? := by
  unfold partL
  rw [List.getElem?_take_of_lt (by omega), List.getElem?_drop, show a + (i - a) = i by omega]
theorem Mt.inPart {l : List Int} {n : Nd} {i j : Nat} (h : Mt l n i j) : Un n → ∀ {a b : Nat}, a ≤ i → j ≤ b → b ≤ l.length → Mt (partL l a b) n (i - a) (j - a) := by
  induction h with
  | set h1 h2 =>
    rename_i s i c
    intro _ a b ha hb hl
    rw [show i + 1 - a = i - a + 1 by omega]
    exact .set (by rw [partL_get ha (by omega)]; exact h1) h2
  | beg _ _ => intro h; cases h
  | fin _ _ => intro h; cases h
  | cat0 h => intro _ a b ha hb hl; exact .cat0 (by rw [len_partL hl]; omega)
  | catS h1 h2 i1 i2 =>
    intro h a b ha hb hl
    cases h with
    | cat h =>
      have := h1.le
      have := h2.le
      exact .catS (i1 (h _ List.mem_cons_self) ha (by omega) hl) (i2 (.cat fun x hx => h x (List.mem_cons_of_mem _ hx)) (by omega) hb hl)
  | altH _ ih => intro h a b ha hb hl; cases h with | alt h => exact .altH (ih (h _ List.mem_cons_self) ha hb hl)
  | altT _ ih => intro h a b ha hb hl; cases h with | alt h => exact .altT (ih (.alt fun x hx => h x (List.mem_cons_of_mem _ hx)) ha hb hl)
  | star0 h => intro _ a b ha hb hl; exact .star0 (by rw [len_partL hl]; omega)
  | starS h1 h2 i1 i2 =>
    intro h a b ha hb hl
    have := h1.le
    have := h2.le
    have h' := h
    cases h with | star h => exact .starS (i1 h ha (by omega) hl) (i2 h' (by omega) hb hl)
  | plus h1 h2 i1 i2 =>
    intro h a b ha hb hl
    have := h1.le
    have := h2.le
    cases h with | plus h => exact .plus (i1 h ha (by omega) hl) (i2 (.star h) (by omega) hb hl)
  | opt0 h => intro _ a b ha hb hl; exact .opt0 (by rw [len_partL hl]; omega)
  | optS _ ih => intro h a b ha hb hl; cases h with | opt h => exact .optS (ih h ha hb hl)
theorem Mt.ofPart {l : List Int} {n : Nd} {a b : Nat} (hl : b ≤ l.length) (hab : a ≤ b) {i j : Nat} (h : Mt (partL l a b) n i j) : Un n → Mt l n (i + a) (j + a) := by
  induction h with
  | set h1 h2 =>
    rename_i s i c
    intro _
    have h3 := (List.getElem?_eq_some_iff.1 h1).1
    rw [len_partL hl] at h3
    have h4 := partL_get (l := l) (a := a) (b := b) (i := i + a) (by omega) (by omega)
    rw [Nat.add_sub_cancel, h1] at h4
    rw [show i + 1 + a = i + a + 1 by omega]
    exact .set h4.symm h2
  | beg _ _ => intro h; cases h
  | fin _ _ => intro h; cases h
  | cat0 h => intro _; rw [len_partL hl] at h; exact .cat0 (by omega)
  | catS h1 h2 i1 i2 => intro h; cases h with | cat h => exact .catS (i1 (h _ List.mem_cons_self)) (i2 (.cat fun x hx => h x (List.mem_cons_of_mem _ hx)))
  | altH _ ih => intro h; cases h with | alt h => exact .altH (ih (h _ List.mem_cons_self))
  | altT _ ih => intro h; cases h with | alt h => exact .altT (ih (.alt fun x hx => h x (List.mem_cons_of_mem _ hx)))
  | star0 h => intro _; rw [len_partL hl] at h; exact .star0 (by omega)
  | starS h1 h2 i1 i2 => intro h; have h' := h; cases h with | star h => exact .starS (i1 h) (i2 h')
  | plus h1 h2 i1 i2 => intro h; cases h with | plus h => exact .plus (i1 h) (i2 (.star h))
  | opt0 h => intro _; rw [len_partL hl] at h; exact .opt0 (by omega)
  | optS _ ih => intro h; cases h with | opt h => exact .optS (ih h)
/-- A part is matched as a whole, if and only if the expression matches it there. -/
theorem part_iff {l : List Int} {n : Nd} (hu : Un n) {a b : Nat} (hab : a ≤ b) (hl : b ≤ l.length) : Mt (partL l a b) n 0 (partL l a b).length ↔ Mt l n a b := by
  rw [len_partL hl]
  constructor
  · intro h
    have := h.ofPart hl hab hu
    rwa [Nat.zero_add, show b - a + a = b by omega] at this
  · intro h
    have := h.inPart hu (Nat.le_refl _) (Nat.le_refl _) hl
    rwa [Nat.sub_self] at this
/-- An expression whose text has no ^ and no $ has no anchors. -/
theorem pReps_un {cs : List Int} : ∀ (f i : Nat) (n : Nd), Un n → Un (pReps cs f i n).1
  | 0, _, _, h => h
  | f + 1, i, n, h => by
    unfold pReps
    split
    · exact pReps_un f _ _ (.star h)
    · split
      · exact pReps_un f _ _ (.plus h)
      · split
        · exact pReps_un f _ _ (.opt h)
        · exact h
theorem pChar_un {cs : List Int} {c : Int} {i s j t : Nat} {l : List Nd} (h1 : c ≠ 94) (h2 : c ≠ 36) (h : pChar cs c i s = .ok l j t) : ∀ n ∈ l, Un n := by
  unfold pChar at h
  split at h
  · cases h; intro n hn; rw [List.mem_singleton] at hn; subst hn; exact .set
  · split at h
    · split at h
      · cases h; intro n hn; rw [List.mem_singleton] at hn; subst hn; exact .set
      · cases h
    · split at h
      · split at h
        · cases h
        · cases h; intro n hn; rw [List.mem_singleton] at hn; subst hn; exact .set
      · cases h; intro n hn; rw [List.mem_singleton] at hn; subst hn; exact .set
theorem parse_un {cs : List Int} (hc : ∀ c ∈ cs, c ≠ 94 ∧ c ≠ 36) : ∀ f : Nat,
    (∀ i d s l j t, pAlts cs f i d s = .ok l j t → ∀ n ∈ l, Un n) ∧
    (∀ i d s l j t, pBranch cs f i d s = .ok l j t → ∀ n ∈ l, Un n) ∧
    (∀ i d s l j t, pAtom cs f i d s = .ok l j t → ∀ n ∈ l, Un n)
  | 0 => ⟨fun i d s l j t h => by simp [pAlts] at h, fun i d s l j t h => by simp [pBranch] at h, fun i d s l j t h => by simp [pAtom] at h⟩
  | f + 1 => by
    obtain ⟨h1, h2, h3⟩ := parse_un hc f
    have hp := parse_le cs f
    refine ⟨fun i d s l j t h => ?_, fun i d s l j t h => ?_, fun i d s l j t h => ?_⟩
    · rw [pAlts] at h
      split at h
      · cases h
      · rename_i l' j' t' hb
        have hb2 := h2 _ _ _ _ _ _ hb
        split at h
        · split at h
          · cases h
          · rename_i ms k u ha
            have := h1 _ _ _ _ _ _ ha
            cases h
            intro n hn
            rcases List.mem_cons.1 hn with rfl | hn
            · exact .cat hb2
            · exact this n hn
        · cases h
          intro n hn
          rw [List.mem_singleton] at hn
          subst hn
          exact .cat hb2
    · rw [pBranch] at h
      split at h
      · cases h; intro n hn; cases hn
      · split at h
        · cases h; intro n hn; cases hn
        · split at h
          · split at h
            · cases h
            · cases h; intro n hn; cases hn
          · split at h
            · cases h
            · split at h
              · cases h
              · rename_i l' j' t' ha
                have ha2 := h3 _ _ _ _ _ _ ha
                obtain ⟨_, _, n0, rfl⟩ := hp.2.2 _ _ _ _ _ _ ha
                split at h
                · cases h
                · rename_i ms k u hb
                  have hb2 := h2 _ _ _ _ _ _ hb
                  cases h
                  intro n hn
                  rcases List.mem_cons.1 hn with rfl | hn
                  · exact pReps_un _ _ _ (ha2 _ List.mem_cons_self)
                  · exact hb2 n hn
    · rw [pAtom] at h
      split at h
      · cases h
      · rename_i c hcc
        have hcm := hc c (List.mem_of_getElem? hcc)
        split at h
        · split at h
          · cases h
          · split at h
            · cases h
            · rename_i l' j' t' ha
              have := h1 _ _ _ _ _ _ ha
              split at h
              · cases h
                intro n hn
                rw [List.mem_singleton] at hn
                subst hn
                exact .alt this
              · cases h
        · exact pChar_un hcm.1 hcm.2 h
end Go.Proofs.Ytcajnmhbkjngbaa

