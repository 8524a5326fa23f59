/- Maps with plain keys, read as lists of pairs: what a lookup, a store, a deletion and a length do to the list. -/
import Derived.MapKept
import Derived.WalkKit
set_option linter.unusedSectionVars false
set_option linter.unusedSimpArgs false
namespace Go.Proofs.Ytodfpclekihbhaa.Mp
open Go.MapKept

section
variable {κ α : Type} [DecidableEq κ]
/-- What a list of pairs has at a key. -/
def get (L : List (κ × α)) (x : κ) : Option α := (L.find? (fun p => decide (p.1 = x))).map (·.2)
/-- The list behind a store. -/
def put (L : List (κ × α)) (x : κ) (a : α) : List (κ × α) :=
  if (get L x).isSome then L.map (fun p => if p.1 = x then (x, a) else p) else L ++ [(x, a)]
/-- The list behind a deletion. -/
def del (L : List (κ × α)) (x : κ) : List (κ × α) := L.filter (fun p => decide (p.1 ≠ x))

theorem get_nil (x : κ) : get ([] : List (κ × α)) x = none := rfl
theorem get_none_iff (L : List (κ × α)) (x : κ) : get L x = none ↔ ∀ p ∈ L, p.1 ≠ x := by
  simp [get, List.find?_eq_none]
theorem get_of_mem {L : List (κ × α)} (hn : (L.map (·.1)).Nodup) {x : κ} {a : α} (h : (x, a) ∈ L) : get L x = some a := by
  induction L with
  | nil => cases h
  | cons p L ih =>
    simp only [List.map_cons, List.nodup_cons, List.mem_map, not_exists, not_and] at hn
    by_cases e : p.1 = x
    · rcases List.mem_cons.1 h with rfl | h
      · simp [get]
      · exact absurd e.symm (by intro e'; exact hn.1 _ h e')
    · rcases List.mem_cons.1 h with rfl | h
      · exact absurd rfl e
      · have := ih hn.2 h
        simp only [get, List.find?_cons, e, decide_false] at this ⊢
        exact this
theorem mem_of_get {L : List (κ × α)} {x : κ} {a : α} (h : get L x = some a) : (x, a) ∈ L := by
  simp only [get, Option.map_eq_some_iff] at h
  obtain ⟨⟨y, b⟩, h1, rfl⟩ := h
  have h2 := List.find?_some h1
  simp only [decide_eq_true_eq] at h2
  subst h2
  exact List.mem_of_find?_eq_some h1
theorem get_append (L M : List (κ × α)) (x : κ) : get (L ++ M) x = (get L x).or (get M x) := by
  simp only [get, List.find?_append]
  cases L.find? (fun p => decide (p.1 = x)) <;> simp
theorem get_put (L : List (κ × α)) (x y : κ) (a : α) : get (put L x a) y = if y = x then some a else get L y := by
  unfold put
  by_cases hs : (get L x).isSome
  · rw [if_pos hs]
    induction L with
    | nil => simp [get] at hs
    | cons p L ih =>
      by_cases e : p.1 = x
      · subst e
        by_cases hy : y = p.1
        · subst hy; simp [get]
        · simp only [if_neg hy]
          have : ∀ M : List (κ × α), get (M.map (fun q => if q.1 = p.1 then (p.1, a) else q)) y = get M y := by
            intro M
            induction M with
            | nil => rfl
            | cons q M ihM =>
              by_cases e2 : q.1 = p.1
              · have e3 : ¬ q.1 = y := by rw [e2]; exact fun h => hy h.symm
                have e4 : ¬ p.1 = y := fun h => hy h.symm
                simp only [get, List.map_cons, e2, if_true, List.find?_cons, e4, decide_false] at ihM ⊢
                simpa [e2, e4] using ihM
              · simp only [get, List.map_cons, e2, if_false, List.find?_cons] at ihM ⊢
                by_cases e5 : q.1 = y <;> simp [e5] <;> simpa using ihM
          exact this (p :: L)
      · have hs' : (get L x).isSome := by simpa [get, e] using hs
        have := ih hs'
        by_cases hy : p.1 = y
        · subst hy
          simp [get, e]
        · simp only [get, List.map_cons, e, if_false, List.find?_cons, hy, decide_false] at this ⊢
          exact this
  · rw [if_neg hs, get_append]
    have hn : get L x = none := by simpa using hs
    by_cases hy : y = x
    · subst hy; rw [hn]; simp [get]
    · have : ¬ x = y := fun h => hy h.symm
      simp [get, this, hy]
theorem keys_put (L : List (κ × α)) (x : κ) (a : α) : (put L x a).map (·.1) = if (get L x).isSome then L.map (·.1) else L.map (·.1) ++ [x] := by
  unfold put
  split
  · rw [List.map_map]
    apply List.map_congr_left
    intro p _
    simp only [Function.comp]
    split
    · rename_i e; exact e.symm
    · rfl
  · simp
theorem nodup_put {L : List (κ × α)} (hn : (L.map (·.1)).Nodup) (x : κ) (a : α) : ((put L x a).map (·.1)).Nodup := by
  rw [keys_put]
  split
  · exact hn
  · rename_i hs
    have hg : get L x = none := by simpa using hs
    rw [get_none_iff] at hg
    rw [List.nodup_append]
    refine ⟨hn, by simp, ?_⟩
    intro k hk m hm
    simp only [List.mem_singleton] at hm
    subst hm
    obtain ⟨p, hp, rfl⟩ := List.mem_map.1 hk
    exact hg p hp
theorem nodup_del {L : List (κ × α)} (hn : (L.map (·.1)).Nodup) (x : κ) : ((del L x).map (·.1)).Nodup :=
  ((List.filter_sublist).map _).nodup hn
theorem get_del (L : List (κ × α)) (x y : κ) : get (del L x) y = if y = x then none else get L y := by
  induction L with
  | nil => simp [get, del]
  | cons p L ih =>
    by_cases e : p.1 = x
    · have : del (p :: L) x = del L x := by simp [del, e]
      rw [this, ih]
      by_cases hy : y = x
      · simp [hy]
      · have : ¬ p.1 = y := by rw [e]; exact fun h => hy h.symm
        simp [hy, get, this]
    · have : del (p :: L) x = p :: del L x := by simp [del, e]
      rw [this]
      by_cases hp : p.1 = y
      · subst hp; simp [get, e]
      · simp only [get, List.find?_cons, hp, decide_false] at ih ⊢
        exact ih

/-- Block b holds a map that reads as the list L of keys and values. -/
def MapIs (w : World) (b : Nat) (K : κ → Value) (V : α → Value) (L : List (κ × α)) : Prop :=
  ∃ es clk, w.heap[b]? = some (.map es clk) ∧ Stamped es clk ∧ es.toList.map (fun x => (x.key, x.val)) = L.map (fun p => (K p.1, V p.2))

variable {w : World} {b : Nat} {K : κ → Value} {V : α → Value} {L : List (κ × α)} {P : Program} {t k e : TypeId} {d : TypeDesc}

theorem MapIs.lt (h : MapIs w b K V L) : b < w.heap.size := by
  obtain ⟨es, clk, hb, _⟩ := h
  exact (Array.getElem?_eq_some_iff.1 hb).1
theorem MapIs.of_block {w' : World} (h : MapIs w b K V L) (hb : w'.heap[b]? = w.heap[b]?) : MapIs w' b K V L := by
  obtain ⟨es, clk, h1, h2⟩ := h
  exact ⟨es, clk, hb.trans h1, h2⟩
theorem MapIs.made (w : World) (K : κ → Value) (V : α → Value) : MapIs (w.alloc (.map #[] 0)) w.heap.size K V [] :=
  ⟨#[], 0, (MapKept.heap_alloc w _).1, stamped_empty 0, rfl⟩
theorem MapIs.nodup (h : MapIs w b K V L) : (L.map (·.1)).Nodup := by
  obtain ⟨es, clk, _, hs, hm⟩ := h
  have h3 := ((stamped_iff _ _).1 hs).2.2
  have : (es.toList.map (·.key)).Nodup := by rwa [List.Nodup, List.pairwise_map]
  have e1 : es.toList.map (·.key) = (L.map (·.1)).map K := by
    have := congrArg (List.map (·.1)) hm
    rw [List.map_map, List.map_map] at this
    rw [List.map_map]
    exact this
  rw [e1] at this
  exact List.Pairwise.of_map K (fun a b hne hab => hne (congrArg K hab)) this

theorem MapIs.find (h : MapIs w b K V L) (hK : ∀ x, IsKey d (K x)) (hi : ∀ x y, K x = K y → x = y) (x : κ) :
    ∃ es clk, w.heap[b]? = some (.map es clk) ∧ Stamped es clk ∧ es.toList.map (fun x => (x.key, x.val)) = L.map (fun p => (K p.1, V p.2)) ∧ (∀ x ∈ es.toList, IsKey d x.key) ∧
      ((Instr.findNow d (K x) es.toList 0 = some none ∧ get L x = none ∧ ∀ y ∈ es.toList, y.key ≠ K x) ∨
       ∃ j a, Instr.findNow d (K x) es.toList 0 = some (some (j, V a)) ∧ get L x = some a ∧ L[j]? = some (x, a) ∧ ∃ en, es[j]? = some en ∧ en.key = K x) := by
  have hn := h.nodup
  obtain ⟨es, clk, hb, hs, hm⟩ := h
  have hks : ∀ y ∈ es.toList, IsKey d y.key := by
    intro y hy
    have : (y.key, y.val) ∈ es.toList.map (fun x => (x.key, x.val)) := List.mem_map.2 ⟨y, hy, rfl⟩
    rw [hm] at this
    obtain ⟨p, _, hp⟩ := List.mem_map.1 this
    have := (Prod.mk.inj hp).1
    rw [← this]; exact hK _
  refine ⟨es, clk, hb, hs, hm, hks, ?_⟩
  rcases findNow_spec (hK x) es.toList 0 hks with ⟨h1, h2⟩ | ⟨j, en, h1, h2, h3⟩
  · refine .inl ⟨h1, (get_none_iff L x).2 ?_, h2⟩
    intro p hp hpx
    have : (K p.1, V p.2) ∈ L.map (fun p => (K p.1, V p.2)) := List.mem_map.2 ⟨p, hp, rfl⟩
    rw [← hm] at this
    obtain ⟨y, hy, hyp⟩ := List.mem_map.1 this
    exact h2 y hy ((Prod.mk.inj hyp).1.trans (by rw [hpx]))
  · have hj : (es.toList.map (fun x => (x.key, x.val)))[j]? = some (en.key, en.val) := by rw [List.getElem?_map, h2]; rfl
    rw [hm, List.getElem?_map] at hj
    obtain ⟨⟨y, a⟩, hy, hya⟩ := Option.map_eq_some_iff.1 hj
    have e1 : K y = en.key := (Prod.mk.inj hya).1
    have e2 : V a = en.val := (Prod.mk.inj hya).2
    have : y = x := hi _ _ (e1.trans h3)
    subst this
    refine .inr ⟨j, a, by rw [h1, e2, Nat.zero_add], get_of_mem hn (List.mem_of_getElem? hy), hy, en, by simpa using h2, h3⟩

/-- A lookup with 'ok'. -/
theorem MapIs.lookup_ok (h : MapIs w b K V L) (ht : P.underlying t = some (.map k e)) (hk : P.underlying k = some d) (hK : ∀ x, IsKey d (K x)) (hi : ∀ x y, K x = K y → x = y)
    {z : Value} (hz : (zeroValue e).run P w = .ok z w) (x : κ) :
    (Instr.lookup t (.map (some b)) (K x) true).run P w = .ok (.tuple #[((get L x).map V).getD z, .bool (get L x).isSome]) w := by
  obtain ⟨es, clk, hb, hs, hm, hks, ⟨h1, h2, _⟩ | ⟨j, a, h1, h2, _⟩⟩ := h.find hK hi x
  · simp [Instr.lookup, run_underlying ht, MapKept.run_getObj_map hb, MapKept.run_checkKey hk (hK x), MapKept.run_findKey hk h1, hz, h2, Result.andThen]
  · simp [Instr.lookup, run_underlying ht, MapKept.run_getObj_map hb, MapKept.run_checkKey hk (hK x), MapKept.run_findKey hk h1, h2, Result.andThen]
theorem MapIs.lookup (h : MapIs w b K V L) (ht : P.underlying t = some (.map k e)) (hk : P.underlying k = some d) (hK : ∀ x, IsKey d (K x)) (hi : ∀ x y, K x = K y → x = y)
    {z : Value} (hz : (zeroValue e).run P w = .ok z w) (x : κ) :
    (Instr.lookup t (.map (some b)) (K x) false).run P w = .ok (((get L x).map V).getD z) w := by
  obtain ⟨es, clk, hb, hs, hm, hks, ⟨h1, h2, _⟩ | ⟨j, a, h1, h2, _⟩⟩ := h.find hK hi x
  · simp [Instr.lookup, run_underlying ht, MapKept.run_getObj_map hb, MapKept.run_checkKey hk (hK x), MapKept.run_findKey hk h1, hz, h2, Result.andThen]
  · simp [Instr.lookup, run_underlying ht, MapKept.run_getObj_map hb, MapKept.run_checkKey hk (hK x), MapKept.run_findKey hk h1, h2, Result.andThen]

/-- The world with another object in a block. -/
def setB (w : World) (b : Nat) (o : Obj) : World := { w with heap := w.heap.setIfInBounds b o }
theorem heap_setB_ne (w : World) (b : Nat) (o : Obj) (c : Nat) (h : c ≠ b) : (setB w b o).heap[c]? = w.heap[c]? := by
  simp [setB, Ne.symm h]
theorem size_setB (w : World) (b : Nat) (o : Obj) : (setB w b o).heap.size = w.heap.size := by simp [setB]

/-- A store. -/
theorem MapIs.update (h : MapIs w b K V L) (ht : P.underlying t = some (.map k e)) (hk : P.underlying k = some d) (hK : ∀ x, IsKey d (K x)) (hi : ∀ x y, K x = K y → x = y) (x : κ) (a : α) :
    ∃ o, (Instr.mapUpdate t (.map (some b)) (K x) (V a)).run P w = .ok () (setB w b o) ∧ MapIs (setB w b o) b K V (put L x a) := by
  obtain ⟨es, clk, hb, hs, hm, hks, ⟨h1, h2, h3⟩ | ⟨j, a0, h1, h2, h3, en, h4, h5⟩⟩ := h.find hK hi x
  · refine ⟨.map (es.push ⟨K x, V a, clk⟩) (clk + 1), ?_, _, _, (heap_set hb).1, stamped_push hs h3, ?_⟩
    · simp [Instr.mapUpdate, run_underlying ht, MapKept.run_getObj_map hb, MapKept.run_checkKey hk (hK x), MapKept.run_findKey hk h1, MapKept.run_setObj_map _ hb, Result.andThen, setB]
    · simp [put, h2, hm]
  · have hkey : ∀ e', es[j]? = some e' → ({ e' with key := K x, val := V a } : MapEntry).key = e'.key := fun e' he' => by rw [h4] at he'; cases he'; exact h5.symm
    refine ⟨.map (es.modify j fun e => { e with key := K x, val := V a }) clk, ?_, _, _, (heap_set hb).1, stamped_modify hs _ _ (fun _ _ => rfl) (fun e' _ he' => hkey e' he'), ?_⟩
    · simp [Instr.mapUpdate, run_underlying ht, MapKept.run_getObj_map hb, MapKept.run_checkKey hk (hK x), MapKept.run_findKey hk h1, h4, h5, run_keyThatStays (hK x), MapKept.run_setObj_map _ hb, Result.andThen, setB]
    · have hn := (show MapIs w b K V L from ⟨es, clk, hb, hs, hm⟩).nodup
      rw [put, if_pos (by simp [h2])]
      apply List.ext_getElem?
      intro i
      have hmi := congrArg (fun l => l[i]?) hm
      simp only [List.getElem?_map, Array.getElem?_toList] at hmi
      simp only [List.getElem?_map, Array.getElem?_toList, Array.getElem?_modify, List.map_map]
      by_cases hij : j = i
      · subst hij
        simp [h4, h3]
      · rw [if_neg hij, hmi]
        cases hL : L[i]? with
        | none => simp
        | some p =>
          have hpx : p.1 ≠ x := by
            intro e
            have e1 : (L.map (·.1))[i]? = some x := by rw [List.getElem?_map, hL]; simp [e]
            have e2 : (L.map (·.1))[j]? = some x := by rw [List.getElem?_map, h3]; rfl
            have hlt : j < (L.map (·.1)).length := (List.getElem?_eq_some_iff.1 e2).1
            exact hij ((List.getElem?_inj hlt hn).1 (e2.trans e1.symm))
          simp [hpx]

theorem MapIs.len (h : MapIs w b K V L) : ∃ es clk, w.heap[b]? = some (.map es clk) ∧ es.size = L.length := by
  obtain ⟨es, clk, hb, hs, hm⟩ := h
  exact ⟨es, clk, hb, by have := congrArg List.length hm; simpa using this⟩
end
end Go.Proofs.Ytodfpclekihbhaa.Mp
