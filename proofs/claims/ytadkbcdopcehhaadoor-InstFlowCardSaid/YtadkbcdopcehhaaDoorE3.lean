/- The plain law: numbers put in one by one (With) are the numbers sorted, each once (set). -/
import Derived.Test.YtadkbcdopcehhaaDoorE2
namespace Go.Proofs.YtadkbcdopcehhaaDoor

theorem sorted_unique : ∀ (a b : List Int), a.Pairwise (· < ·) → b.Pairwise (· < ·) → (∀ x, x ∈ a ↔ x ∈ b) → a = b
  | [], [], _, _, _ => rfl
  | [], y :: ys, _, _, h => absurd ((h y).2 (by simp)) (by simp)
  | x :: xs, [], _, _, h => absurd ((h x).1 (by simp)) (by simp)
  | x :: xs, y :: ys, ha, hb, h => by
    obtain ⟨ha1, ha2⟩ := List.pairwise_cons.1 ha
    obtain ⟨hb1, hb2⟩ := List.pairwise_cons.1 hb
    have e : x = y := by
      rcases List.mem_cons.1 ((h x).1 (by simp)) with h1 | h1
      · exact h1
      · rcases List.mem_cons.1 ((h y).2 (by simp)) with h2 | h2
        · exact h2.symm
        · have := hb1 x h1; have := ha1 y h2; omega
    subst e
    rw [sorted_unique xs ys ha2 hb2 (fun z => ⟨fun hz => ?_, fun hz => ?_⟩)]
    · rcases List.mem_cons.1 ((h z).1 (List.mem_cons_of_mem _ hz)) with h1 | h1
      · have := ha1 z hz; omega
      · exact h1
    · rcases List.mem_cons.1 ((h z).2 (List.mem_cons_of_mem _ hz)) with h1 | h1
      · have := hb1 z hz; omega
      · exact h1

theorem compact_mem (d : Array Int) (m : Nat) : ∀ x, x ∈ Lib.compactUpTo d m ↔ ∃ j, j < m ∧ d[j]! = x := by
  induction m with
  | zero => intro x; simp [Lib.compactUpTo]
  | succ m ih =>
    intro x
    rw [Lib.compactUpTo_succ, List.mem_append, ih]
    constructor
    · rintro (⟨j, hj, h⟩ | h)
      · exact ⟨j, by omega, h⟩
      · split at h
        · exact ⟨m, by omega, (List.mem_singleton.1 h).symm⟩
        · simp at h
    · rintro ⟨j, hj, h⟩
      by_cases e : j = m
      · subst e
        by_cases hk : Lib.keeps d j = true
        · right; rw [if_pos hk]; simp [h]
        · left
          have : j ≠ 0 ∧ d[j]! = d[j - 1]! := by
            unfold Lib.keeps at hk
            simpa using hk
          exact ⟨j - 1, by omega, by rw [← this.2]; exact h⟩
      · exact .inl ⟨j, by omega, h⟩
theorem compact_sorted (d : Array Int) (hd : ∀ i j, i ≤ j → j < d.size → d[i]! ≤ d[j]!) (m : Nat) (hm : m ≤ d.size) : (Lib.compactUpTo d m).Pairwise (· < ·) := by
  induction m with
  | zero => simp [Lib.compactUpTo]
  | succ m ih =>
    rw [Lib.compactUpTo_succ]
    split
    · rename_i hk
      refine List.pairwise_append.2 ⟨ih (by omega), by simp, fun x hx y hy => ?_⟩
      obtain rfl : y = d[m]! := by simpa using hy
      obtain ⟨j, hj, rfl⟩ := (compact_mem d m x).1 hx
      have hne : d[m]! ≠ d[m - 1]! := by
        unfold Lib.keeps at hk
        have : m = 0 ∨ d[m]! ≠ d[m - 1]! := by simpa using hk
        rcases this with h | h
        · omega
        · exact h
      have h1 := hd j (m - 1) (by omega) (by omega)
      have h2 := hd (m - 1) m (by omega) (by omega)
      omega
    · simpa using ih (by omega)

theorem setI_sorted (zs : List Int) : (setI zs).Pairwise (· < ·) := by
  unfold setI Lib.compact
  refine compact_sorted _ (fun i j hij hj => ?_) _ (by simp)
  have hp : (zs.mergeSort fun x y => decide (x ≤ y)).Pairwise (fun x y => decide (x ≤ y) = true) :=
    List.pairwise_mergeSort (fun a b c h1 h2 => by simp at *; omega) (fun a b => by simp; omega) zs
  generalize (zs.mergeSort fun x y => decide (x ≤ y)) = ss at *
  have hj' : j < ss.length := by simpa using hj
  rw [getElem!_pos _ i (by simp; omega), getElem!_pos _ j (by simpa using hj')]
  simp only [List.getElem_toArray]
  by_cases e : i = j
  · subst e; exact Int.le_refl _
  · simpa using List.pairwise_iff_getElem.1 hp i j (by omega) hj' (by omega)
theorem setI_mem (zs : List Int) (x : Int) : x ∈ setI zs ↔ x ∈ zs := by
  unfold setI Lib.compact
  rw [compact_mem]
  rw [← List.mem_mergeSort (le := fun x y => decide (x ≤ y)) (l := zs)]
  generalize (zs.mergeSort fun x y => decide (x ≤ y)) = ss
  constructor
  · rintro ⟨j, hj, rfl⟩
    rw [getElem!_pos _ j (by simpa using hj)]
    simp
  · intro h
    obtain ⟨j, hj, rfl⟩ := List.getElem_of_mem h
    exact ⟨j, hj, by rw [getElem!_pos _ j (by simpa using hj)]; simp⟩

/-- With, in one recursion. -/
def insI (n : Int) : List Int → List Int
  | [] => [n]
  | x :: xs => if x < n then x :: insI n xs else n :: (x :: xs).filter (fun y => decide (y ≠ n))
def stepW (n : Int) (s : List Int × Bool) (x : Int) : List Int × Bool := ((s.1 ++ if !s.2 && decide (n ≤ x) then [n] else []) ++ if x ≠ n then [x] else [], s.2 || decide (n ≤ x))
theorem wA_fold (zs : List Int) (n : Int) (j : Nat) (hj : j ≤ zs.length) : wA zs n j = (zs.take j).foldl (stepW n) ([], false) := by
  induction j with
  | zero => simp [wA]
  | succ j ih =>
    rw [List.take_add_one, List.foldl_append, ← ih (by omega)]
    simp [wA, stepW, List.getD, List.getElem?_eq_getElem (show j < zs.length by omega)]
theorem fold_true (n : Int) (l o : List Int) : l.foldl (stepW n) (o, true) = (o ++ l.filter (fun y => decide (y ≠ n)), true) := by
  induction l generalizing o with
  | nil => simp
  | cons x xs ih =>
    rw [List.foldl_cons, show stepW n (o, true) x = (o ++ if x ≠ n then [x] else [], true) by simp [stepW], ih]
    by_cases h : x = n <;> simp [h]
theorem fold_false (n : Int) (l o : List Int) : ((l.foldl (stepW n) (o, false)).1 ++ if (l.foldl (stepW n) (o, false)).2 then [] else [n]) = o ++ insI n l := by
  induction l generalizing o with
  | nil => simp [insI]
  | cons x xs ih =>
    rw [List.foldl_cons]
    by_cases h : x < n
    · rw [show stepW n (o, false) x = (o ++ [x], false) by
        have h1 : ¬ n ≤ x := by omega
        have h2 : x ≠ n := by omega
        simp [stepW, h1, h2], ih, insI, if_pos h]
      simp
    · rw [show stepW n (o, false) x = ((o ++ [n]) ++ if x ≠ n then [x] else [], true) by
        have h1 : n ≤ x := by omega
        simp [stepW, h1], fold_true, insI, if_neg h]
      by_cases h2 : x = n <;> simp [h2]
theorem withI_ins (zs : List Int) (n : Int) : withI zs n = insI n zs := by
  unfold withI
  rw [wA_fold _ _ _ (Nat.le_refl _), List.take_length, fold_false]
  simp
theorem insI_mem (n : Int) (l : List Int) (y : Int) : y ∈ insI n l ↔ y = n ∨ y ∈ l := by
  induction l with
  | nil => simp [insI]
  | cons x xs ih =>
    unfold insI
    split
    · rw [List.mem_cons, ih, List.mem_cons]
      constructor
      · rintro (h | h | h)
        · exact .inr (.inl h)
        · exact .inl h
        · exact .inr (.inr h)
      · rintro (h | h | h)
        · exact .inr (.inl h)
        · exact .inl h
        · exact .inr (.inr h)
    · rw [List.mem_cons, List.mem_filter]
      constructor
      · rintro (h | h)
        · exact .inl h
        · exact .inr h.1
      · rintro (h | h)
        · exact .inl h
        · by_cases e : y = n
          · exact .inl e
          · exact .inr ⟨h, by simpa using e⟩
theorem insI_sorted (n : Int) (l : List Int) (h : l.Pairwise (· < ·)) : (insI n l).Pairwise (· < ·) := by
  induction l with
  | nil => simp [insI]
  | cons x xs ih =>
    obtain ⟨h1, h2⟩ := List.pairwise_cons.1 h
    unfold insI
    split
    · refine List.pairwise_cons.2 ⟨fun y hy => ?_, ih h2⟩
      rcases (insI_mem n xs y).1 hy with e | e
      · omega
      · exact h1 y e
    · refine List.pairwise_cons.2 ⟨fun y hy => ?_, h.filter _⟩
      obtain ⟨hy1, hy2⟩ := List.mem_filter.1 hy
      have hy3 : y ≠ n := by simpa using hy2
      rcases List.mem_cons.1 hy1 with e | e
      · omega
      · have := h1 y e; omega

/-- Numbers put in one by one. -/
def withs (L : List Int) : List Int := L.foldl withI []
theorem withs_snoc (L : List Int) (n : Int) : withs (L ++ [n]) = withI (withs L) n := by simp [withs]
theorem fold_with (L o : List Int) (ho : o.Pairwise (· < ·)) : (L.foldl withI o).Pairwise (· < ·) ∧ ∀ x, x ∈ L.foldl withI o ↔ x ∈ L ∨ x ∈ o := by
  induction L generalizing o with
  | nil => exact ⟨ho, fun x => by simp⟩
  | cons n L ih =>
    rw [List.foldl_cons, withI_ins]
    obtain ⟨h1, h2⟩ := ih (insI n o) (insI_sorted n o ho)
    refine ⟨h1, fun x => ?_⟩
    rw [h2, insI_mem, List.mem_cons]
    constructor
    · rintro (h | h | h)
      · exact .inl (.inr h)
      · exact .inl (.inl h)
      · exact .inr h
    · rintro ((h | h) | h)
      · exact .inr (.inl h)
      · exact .inl h
      · exact .inr (.inr h)
theorem set_withs (L : List Int) : setI L = withs L := by
  obtain ⟨h1, h2⟩ := fold_with L [] List.Pairwise.nil
  exact sorted_unique _ _ (setI_sorted L) h1 (fun x => by rw [setI_mem]; unfold withs; rw [h2]; simp)
theorem withI_len (l : List Int) (n : Int) : (withI l n).length ≤ l.length + 1 := by
  rw [withI_ins]
  induction l with
  | nil => simp [insI]
  | cons x xs ih =>
    unfold insI
    split
    · simp only [List.length_cons]; omega
    · simp only [List.length_cons]
      have := List.length_filter_le (fun y => decide (y ≠ n)) (x :: xs)
      simp only [List.length_cons] at this
      omega
theorem withs_len (L : List Int) : (withs L).length ≤ L.length := by
  suffices h : ∀ o : List Int, (L.foldl withI o).length ≤ o.length + L.length by simpa [withs] using h []
  induction L with
  | nil => intro o; simp
  | cons n L ih =>
    intro o
    rw [List.foldl_cons]
    have := ih (withI o n)
    have := withI_len o n
    simp only [List.length_cons]; omega
end Go.Proofs.YtadkbcdopcehhaaDoor
