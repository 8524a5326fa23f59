/- Texts on the heap, merged: Mp, H0, H1, H2, H3, R0. -/
import Derived.MapKept
import Derived.WalkKit
import Derived.Below
import Derived.BigQuiet
import Derived.Laws.AppendOwn
import Derived.Maps.AppendAt
import Derived.KernelRfl
import Derived.Lib.Hide
import Derived.Deep.RegionHeld3
import Derived.Deep.RegionLaw
import Derived.Deep.AppendLies
import Derived.Deep.Onto
import Derived.Test.YtodfpclekihbhaaProg
import Derived.RangeFuncNested
import Derived.RangeFuncBound
import Derived.RangeFuncCalls
import Derived.RangeFuncLeaves
/- Maps with plain keys, read as lists of pairs: what a lookup, a store, a deletion and a length do to the list. -/
set_option linter.unusedSectionVars false
set_option linter.unusedSimpArgs false
namespace Go.Proofs.Ytodfpclekihbhaa.Mp
open Go.MapKept

section
variable {κ α : Type} [DecidableEq κ]
/-- What a list of pairs has at a key. -/
def get (L : List (κ × α)) (x : κ) : Option α := (L.find? (fun p => decide (p.1 = x))).map (·.2)
/-- The list behind a store. -/
def put (L : List (κ × α)) (x : κ) (a : α) : List (κ × α) :=
  if (get L x).isSome then L.map (fun p => if p.1 = x then (x, a) else p) else L ++ [(x, a)]
/-- The list behind a deletion. -/
def del (L : List (κ × α)) (x : κ) : List (κ × α) := L.filter (fun p => decide (p.1 ≠ x))

theorem get_nil (x : κ) : get ([] : List (κ × α)) x = none := rfl
theorem get_none_iff (L : List (κ × α)) (x : κ) : get L x = none ↔ ∀ p ∈ L, p.1 ≠ x := by
  simp [get, List.find?_eq_none]
theorem get_of_mem {L : List (κ × α)} (hn : (L.map (·.1)).Nodup) {x : κ} {a : α} (h : (x, a) ∈ L) : get L x = some a := by
  induction L with
  | nil => cases h
  | cons p L ih =>
    simp only [List.map_cons, List.nodup_cons, List.mem_map, not_exists, not_and] at hn
    by_cases e : p.1 = x
    · rcases List.mem_cons.1 h with rfl | h
      · simp [get]
      · exact absurd e.symm (by intro e'; exact hn.1 _ h e')
    · rcases List.mem_cons.1 h with rfl | h
      · exact absurd rfl e
      · have := ih hn.2 h
        simp only [get, List.find?_cons, e, decide_false] at this ⊢
        exact this
theorem mem_of_get {L : List (κ × α)} {x : κ} {a : α} (h : get L x = some a) : (x, a) ∈ L := by
  simp only [get, Option.map_eq_some_iff] at h
  obtain ⟨⟨y, b⟩, h1, rfl⟩ := h
  have h2 := List.find?_some h1
  simp only [decide_eq_true_eq] at h2
  subst h2
  exact List.mem_of_find?_eq_some h1
theorem get_append (L M : List (κ × α)) (x : κ) : get (L ++ M) x = (get L x).or (get M x) := by
  simp only [get, List.find?_append]
  cases L.find? (fun p => decide (p.1 = x)) <;> simp
theorem get_put (L : List (κ × α)) (x y : κ) (a : α) : get (put L x a) y = if y = x then some a else get L y := by
  unfold put
  by_cases hs : (get L x).isSome
  · rw [if_pos hs]
    induction L with
    | nil => simp [get] at hs
    | cons p L ih =>
      by_cases e : p.1 = x
      · subst e
        by_cases hy : y = p.1
        · subst hy; simp [get]
        · simp only [if_neg hy]
          have : ∀ M : List (κ × α), get (M.map (fun q => if q.1 = p.1 then (p.1, a) else q)) y = get M y := by
            intro M
            induction M with
            | nil => rfl
            | cons q M ihM =>
              by_cases e2 : q.1 = p.1
              · have e3 : ¬ q.1 = y := by rw [e2]; exact fun h => hy h.symm
                have e4 : ¬ p.1 = y := fun h => hy h.symm
                simp only [get, List.map_cons, e2, if_true, List.find?_cons, e4, decide_false] at ihM ⊢
                simpa [e2, e4] using ihM
              · simp only [get, List.map_cons, e2, if_false, List.find?_cons] at ihM ⊢
                by_cases e5 : q.1 = y <;> simp [e5] <;> simpa using ihM
          exact this (p :: L)
      · have hs' : (get L x).isSome := by simpa [get, e] using hs
        have := ih hs'
        by_cases hy : p.1 = y
        · subst hy
          simp [get, e]
        · simp only [get, List.map_cons, e, if_false, List.find?_cons, hy, decide_false] at this ⊢
          exact this
  · rw [if_neg hs, get_append]
    have hn : get L x = none := by simpa using hs
    by_cases hy : y = x
    · subst hy; rw [hn]; simp [get]
    · have : ¬ x = y := fun h => hy h.symm
      simp [get, this, hy]
theorem keys_put (L : List (κ × α)) (x : κ) (a : α) : (put L x a).map (·.1) = if (get L x).isSome then L.map (·.1) else L.map (·.1) ++ [x] := by
  unfold put
  split
  · rw [List.map_map]
    apply List.map_congr_left
    intro p _
    simp only [Function.comp]
    split
    · rename_i e; exact e.symm
    · rfl
  · simp
theorem nodup_put {L : List (κ × α)} (hn : (L.map (·.1)).Nodup) (x : κ) (a : α) : ((put L x a).map (·.1)).Nodup := by
  rw [keys_put]
  split
  · exact hn
  · rename_i hs
    have hg : get L x = none := by simpa using hs
    rw [get_none_iff] at hg
    rw [List.nodup_append]
    refine ⟨hn, by simp, ?_⟩
    intro k hk m hm
    simp only [List.mem_singleton] at hm
    subst hm
    obtain ⟨p, hp, rfl⟩ := List.mem_map.1 hk
    exact hg p hp
theorem nodup_del {L : List (κ × α)} (hn : (L.map (·.1)).Nodup) (x : κ) : ((del L x).map (·.1)).Nodup :=
  ((List.filter_sublist).map _).nodup hn
theorem get_del (L : List (κ × α)) (x y : κ) : get (del L x) y = if y = x then none else get L y := by
  induction L with
  | nil => simp [get, del]
  | cons p L ih =>
    by_cases e : p.1 = x
    · have : del (p :: L) x = del L x := by simp [del, e]
      rw [this, ih]
      by_cases hy : y = x
      · simp [hy]
      · have : ¬ p.1 = y := by rw [e]; exact fun h => hy h.symm
        simp [hy, get, this]
    · have : del (p :: L) x = p :: del L x := by simp [del, e]
      rw [this]
      by_cases hp : p.1 = y
      · subst hp; simp [get, e]
      · simp only [get, List.find?_cons, hp, decide_false] at ih ⊢
        exact ih

/-- Block b holds a map that reads as the list L of keys and values. -/
def MapIs (w : World) (b : Nat) (K : κ → Value) (V : α → Value) (L : List (κ × α)) : Prop :=
  ∃ es clk, w.heap[b]? = some (.map es clk) ∧ Stamped es clk ∧ es.toList.map (fun x => (x.key, x.val)) = L.map (fun p => (K p.1, V p.2))

variable {w : World} {b : Nat} {K : κ → Value} {V : α → Value} {L : List (κ × α)} {P : Program} {t k e : TypeId} {d : TypeDesc}

theorem MapIs.lt (h : MapIs w b K V L) : b < w.heap.size := by
  obtain ⟨es, clk, hb, _⟩ := h
  exact (Array.getElem?_eq_some_iff.1 hb).1
theorem MapIs.of_block {w' : World} (h : MapIs w b K V L) (hb : w'.heap[b]? = w.heap[b]?) : MapIs w' b K V L := by
  obtain ⟨es, clk, h1, h2⟩ := h
  exact ⟨es, clk, hb.trans h1, h2⟩
theorem MapIs.made (w : World) (K : κ → Value) (V : α → Value) : MapIs (w.alloc (.map #[] 0)) w.heap.size K V [] :=
  ⟨#[], 0, (MapKept.heap_alloc w _).1, stamped_empty 0, rfl⟩
theorem MapIs.nodup (h : MapIs w b K V L) : (L.map (·.1)).Nodup := by
  obtain ⟨es, clk, _, hs, hm⟩ := h
  have h3 := ((stamped_iff _ _).1 hs).2.2
  have : (es.toList.map (·.key)).Nodup := by rwa [List.Nodup, List.pairwise_map]
  have e1 : es.toList.map (·.key) = (L.map (·.1)).map K := by
    have := congrArg (List.map (·.1)) hm
    rw [List.map_map, List.map_map] at this
    rw [List.map_map]
    exact this
  rw [e1] at this
  exact List.Pairwise.of_map K (fun a b hne hab => hne (congrArg K hab)) this

theorem MapIs.find (h : MapIs w b K V L) (hK : ∀ x, IsKey d (K x)) (hi : ∀ x y, K x = K y → x = y) (x : κ) :
    ∃ es clk, w.heap[b]? = some (.map es clk) ∧ Stamped es clk ∧ es.toList.map (fun x => (x.key, x.val)) = L.map (fun p => (K p.1, V p.2)) ∧ (∀ x ∈ es.toList, IsKey d x.key) ∧
      ((Instr.findNow d (K x) es.toList 0 = some none ∧ get L x = none ∧ ∀ y ∈ es.toList, y.key ≠ K x) ∨
       ∃ j a, Instr.findNow d (K x) es.toList 0 = some (some (j, V a)) ∧ get L x = some a ∧ L[j]? = some (x, a) ∧ ∃ en, es[j]? = some en ∧ en.key = K x) := by
  have hn := h.nodup
  obtain ⟨es, clk, hb, hs, hm⟩ := h
  have hks : ∀ y ∈ es.toList, IsKey d y.key := by
    intro y hy
    have : (y.key, y.val) ∈ es.toList.map (fun x => (x.key, x.val)) := List.mem_map.2 ⟨y, hy, rfl⟩
    rw [hm] at this
    obtain ⟨p, _, hp⟩ := List.mem_map.1 this
    have := (Prod.mk.inj hp).1
    rw [← this]; exact hK _
  refine ⟨es, clk, hb, hs, hm, hks, ?_⟩
  rcases findNow_spec (hK x) es.toList 0 hks with ⟨h1, h2⟩ | ⟨j, en, h1, h2, h3⟩
  · refine .inl ⟨h1, (get_none_iff L x).2 ?_, h2⟩
    intro p hp hpx
    have : (K p.1, V p.2) ∈ L.map (fun p => (K p.1, V p.2)) := List.mem_map.2 ⟨p, hp, rfl⟩
    rw [← hm] at this
    obtain ⟨y, hy, hyp⟩ := List.mem_map.1 this
    exact h2 y hy ((Prod.mk.inj hyp).1.trans (by rw [hpx]))
  · have hj : (es.toList.map (fun x => (x.key, x.val)))[j]? = some (en.key, en.val) := by rw [List.getElem?_map, h2]; rfl
    rw [hm, List.getElem?_map] at hj
    obtain ⟨⟨y, a⟩, hy, hya⟩ := Option.map_eq_some_iff.1 hj
    have e1 : K y = en.key := (Prod.mk.inj hya).1
    have e2 : V a = en.val := (Prod.mk.inj hya).2
    have : y = x := hi _ _ (e1.trans h3)
    subst this
    refine .inr ⟨j, a, by rw [h1, e2, Nat.zero_add], get_of_mem hn (List.mem_of_getElem? hy), hy, en, by simpa using h2, h3⟩

/-- A lookup with 'ok'. -/
theorem MapIs.lookup_ok (h : MapIs w b K V L) (ht : P.underlying t = some (.map k e)) (hk : P.underlying k = some d) (hK : ∀ x, IsKey d (K x)) (hi : ∀ x y, K x = K y → x = y)
    {z : Value} (hz : (zeroValue e).run P w = .ok z w) (x : κ) :
    (Instr.lookup t (.map (some b)) (K x) true).run P w = .ok (.tuple #[((get L x).map V).getD z, .bool (get L x).isSome]) w := by
  obtain ⟨es, clk, hb, hs, hm, hks, ⟨h1, h2, _⟩ | ⟨j, a, h1, h2, _⟩⟩ := h.find hK hi x
  · simp [Instr.lookup, run_underlying ht, MapKept.run_getObj_map hb, MapKept.run_checkKey hk (hK x), MapKept.run_findKey hk h1, hz, h2, Result.andThen]
  · simp [Instr.lookup, run_underlying ht, MapKept.run_getObj_map hb, MapKept.run_checkKey hk (hK x), MapKept.run_findKey hk h1, h2, Result.andThen]
theorem MapIs.lookup (h : MapIs w b K V L) (ht : P.underlying t = some (.map k e)) (hk : P.underlying k = some d) (hK : ∀ x, IsKey d (K x)) (hi : ∀ x y, K x = K y → x = y)
    {z : Value} (hz : (zeroValue e).run P w = .ok z w) (x : κ) :
    (Instr.lookup t (.map (some b)) (K x) false).run P w = .ok (((get L x).map V).getD z) w := by
  obtain ⟨es, clk, hb, hs, hm, hks, ⟨h1, h2, _⟩ | ⟨j, a, h1, h2, _⟩⟩ := h.find hK hi x
  · simp [Instr.lookup, run_underlying ht, MapKept.run_getObj_map hb, MapKept.run_checkKey hk (hK x), MapKept.run_findKey hk h1, hz, h2, Result.andThen]
  · simp [Instr.lookup, run_underlying ht, MapKept.run_getObj_map hb, MapKept.run_checkKey hk (hK x), MapKept.run_findKey hk h1, h2, Result.andThen]

/-- The world with another object in a block. -/
def setB (w : World) (b : Nat) (o : Obj) : World := { w with heap := w.heap.setIfInBounds b o }
theorem heap_setB_ne (w : World) (b : Nat) (o : Obj) (c : Nat) (h : c ≠ b) : (setB w b o).heap[c]? = w.heap[c]? := by
  simp [setB, Ne.symm h]
theorem size_setB (w : World) (b : Nat) (o : Obj) : (setB w b o).heap.size = w.heap.size := by simp [setB]

/-- A store. -/
theorem MapIs.update (h : MapIs w b K V L) (ht : P.underlying t = some (.map k e)) (hk : P.underlying k = some d) (hK : ∀ x, IsKey d (K x)) (hi : ∀ x y, K x = K y → x = y) (x : κ) (a : α) :
    ∃ o, (Instr.mapUpdate t (.map (some b)) (K x) (V a)).run P w = .ok () (setB w b o) ∧ MapIs (setB w b o) b K V (put L x a) := by
  obtain ⟨es, clk, hb, hs, hm, hks, ⟨h1, h2, h3⟩ | ⟨j, a0, h1, h2, h3, en, h4, h5⟩⟩ := h.find hK hi x
  · refine ⟨.map (es.push ⟨K x, V a, clk⟩) (clk + 1), ?_, _, _, (heap_set hb).1, stamped_push hs h3, ?_⟩
    · simp [Instr.mapUpdate, run_underlying ht, MapKept.run_getObj_map hb, MapKept.run_checkKey hk (hK x), MapKept.run_findKey hk h1, MapKept.run_setObj_map _ hb, Result.andThen, setB]
    · simp [put, h2, hm]
  · have hkey : ∀ e', es[j]? = some e' → ({ e' with key := K x, val := V a } : MapEntry).key = e'.key := fun e' he' => by rw [h4] at he'; cases he'; exact h5.symm
    refine ⟨.map (es.modify j fun e => { e with key := K x, val := V a }) clk, ?_, _, _, (heap_set hb).1, stamped_modify hs _ _ (fun _ _ => rfl) (fun e' _ he' => hkey e' he'), ?_⟩
    · simp [Instr.mapUpdate, run_underlying ht, MapKept.run_getObj_map hb, MapKept.run_checkKey hk (hK x), MapKept.run_findKey hk h1, h4, h5, run_keyThatStays (hK x), MapKept.run_setObj_map _ hb, Result.andThen, setB]
    · have hn := (show MapIs w b K V L from ⟨es, clk, hb, hs, hm⟩).nodup
      rw [put, if_pos (by simp [h2])]
      apply List.ext_getElem?
      intro i
      have hmi := congrArg (fun l => l[i]?) hm
      simp only [List.getElem?_map, Array.getElem?_toList] at hmi
      simp only [List.getElem?_map, Array.getElem?_toList, Array.getElem?_modify, List.map_map]
      by_cases hij : j = i
      · subst hij
        simp [h4, h3]
      · rw [if_neg hij, hmi]
        cases hL : L[i]? with
        | none => simp
        | some p =>
          have hpx : p.1 ≠ x := by
            intro e
            have e1 : (L.map (·.1))[i]? = some x := by rw [List.getElem?_map, hL]; simp [e]
            have e2 : (L.map (·.1))[j]? = some x := by rw [List.getElem?_map, h3]; rfl
            have hlt : j < (L.map (·.1)).length := (List.getElem?_eq_some_iff.1 e2).1
            exact hij ((List.getElem?_inj hlt hn).1 (e2.trans e1.symm))
          simp [hpx]

theorem MapIs.len (h : MapIs w b K V L) : ∃ es clk, w.heap[b]? = some (.map es clk) ∧ es.size = L.length := by
  obtain ⟨es, clk, hb, hs, hm⟩ := h
  exact ⟨es, clk, hb, by have := congrArg List.length hm; simpa using this⟩
end
end Go.Proofs.Ytodfpclekihbhaa.Mp

/- Worlds that differ in named blocks alone. -/
namespace Go.Proofs.Ytodfpclekihbhaa
open Go.RowKit

/-- Of the blocks that lay in w only those of S may have turned. -/
structure Mut (S : Nat → Prop) (w w' : World) : Prop where
  os : w'.os = w.os
  tape : w'.tape = w.tape
  output : w'.output = w.output
  size : w.heap.size ≤ w'.heap.size
  block : ∀ k, k < w.heap.size → ¬ S k → w'.heap[k]? = w.heap[k]?
theorem Mut.refl (S : Nat → Prop) (w : World) : Mut S w w := ⟨rfl, rfl, rfl, Nat.le_refl _, fun _ _ _ => rfl⟩
theorem Mut.trans {S S' : Nat → Prop} {a b c : World} (h : Mut S a b) (k : Mut S' b c) (hs : ∀ i, S' i → S i ∨ a.heap.size ≤ i) : Mut S a c :=
  ⟨k.os.trans h.os, k.tape.trans h.tape, k.output.trans h.output, Nat.le_trans h.size k.size, fun i hi hn =>
    (k.block i (Nat.lt_of_lt_of_le hi h.size) (fun h2 => (hs i h2).elim hn (fun h3 => absurd hi (Nat.not_lt.2 h3)))).trans (h.block i hi hn)⟩
theorem Mut.then {S : Nat → Prop} {a b c : World} (h : Mut S a b) (k : Mut S b c) : Mut S a c := h.trans k fun _ => .inl
theorem Mut.mono {S S' : Nat → Prop} {a b : World} (h : Mut S a b) (hs : ∀ i, S i → S' i ∨ a.heap.size ≤ i) : Mut S' a b :=
  (Mut.refl S' a).trans h hs
theorem Mut.of_below {S : Nat → Prop} {w w' : World} (h : Below w.heap.size w w') : Mut S w w' := ⟨h.os, h.tape, h.output, h.size, fun k hk _ => h.block k hk⟩
theorem Mut.to_below {S : Nat → Prop} {B : Nat} {w w' : World} (h : Mut S w w') (hB : B ≤ w.heap.size) (hs : ∀ k, S k → B ≤ k) : Below B w w' :=
  ⟨h.os, h.tape, h.output, h.size, fun k hk => h.block k (Nat.lt_of_lt_of_le hk hB) (fun h2 => absurd hk (Nat.not_lt.2 (hs k h2)))⟩
theorem Mut.of_grown {S : Nat → Prop} {w w' : World} {r : Option Nat} (h : w.grownBy w' r) (hr : ∀ k, r = some k → S k ∨ w.heap.size ≤ k) : Mut S w w' :=
  ⟨h.os, h.tape, h.output, h.size, fun k hk hn => h.block k hk (fun e => (hr k e.symm).elim hn (fun h3 => absurd hk (Nat.not_lt.2 h3)))⟩
theorem Mut.setCell {S : Nat → Prop} (w : World) (b i : Nat) (v : Value) (hb : S b) : Mut S w (w.setCell ⟨b, i, none⟩ v) :=
  ⟨by simp [World.setCell], by simp [World.setCell], by simp [World.setCell], by simp, fun k _ hn => heap_setCell_other w ⟨b, i, none⟩ k v (fun e => hn (e ▸ hb))⟩
theorem Mut.setB {S : Nat → Prop} (w : World) (b : Nat) (o : Obj) (hb : S b) : Mut S w (Mp.setB w b o) :=
  ⟨rfl, rfl, rfl, by rw [Mp.size_setB]; exact Nat.le_refl _, fun k _ hn => Mp.heap_setB_ne w b o k (fun e => hn (e ▸ hb))⟩
theorem Mut.drewN {S : Nat → Prop} {w w' : World} (h : Mut S w w') (n : Nat) : Mut S w (w'.drewN n) := h.then ⟨rfl, rfl, rfl, Nat.le_refl _, fun _ _ _ => rfl⟩
theorem Mut.alloc {S : Nat → Prop} {w w' : World} (h : Mut S w w') (o : Obj) : Mut S w (w'.alloc o) := h.then (.of_below ((Below.refl _ _).alloc (Nat.le_refl _) o))
theorem Mut.cell {S : Nat → Prop} {w w' : World} (h : Mut S w w') {b i : Nat} (hb : b < w.heap.size) (hn : ¬ S b) : w'.cell? ⟨b, i, none⟩ = w.cell? ⟨b, i, none⟩ := World.cell?_of_block (h.block b hb hn)
theorem own_mut {S : Nat → Prop} {w w' : World} {base n size : Nat} {e : TypeId} {v : Value} {xs : List Value} (h : w.ownsRow base e size v n xs) (hm : Mut S w w') (hn : ∀ k, v.ownBlock = some k → ¬ S k) : w'.ownsRow base e size v n xs := by
  refine ⟨h.1, ?_⟩
  rcases h.2 with h1 | ⟨g, cap, cur, h1, h2, h3, h4⟩
  · exact .inl h1
  · exact .inr ⟨g, cap, cur, h1, h2, (hm.block g (Array.getElem?_eq_some_iff.1 h3).1 (hn g (by rw [h1]; rfl))).trans h3, h4⟩
end Go.Proofs.Ytodfpclekihbhaa

/- The heap in plain Lean: what each call answers and leaves. -/
namespace Go.Proofs.Ytodfpclekihbhaa

/-- A word: a number or a reference. -/
structure Wd where
  num : Int
  ref : Int
/-- An object, as a struct of the program's has it; row names its row of words. -/
structure Ob where
  kind : Int
  cls : Int
  refs : List Bool
  chars : ByteArray
  wide : Bool
  tail : Int
  row : Int
  lo : Nat
  hi : Nat
  holds : Int
  rc : Int
def Ob.dec (o : Ob) : Ob := { o with rc := o.rc - 1 }
def Ob.inc (o : Ob) : Ob := { o with rc := o.rc + 1 }
/-- A row of words: of one object, or of the arrays that share it. -/
structure Rw where
  words : List Wd
  arr : Int
  isA : Bool
def Rw.dec (x : Rw) : Rw := { x with arr := x.arr - 1 }
/-- A heap. -/
structure Hp where
  objs : List (Int × Ob)
  rows : List (Int × Rw)
  last : Nat
  watched : Bool
  seen : List (Int × Bool)

def emptyH : Hp := ⟨[], [], 0, false, []⟩
def Hp.get (H : Hp) (r : Int) : Option Ob := Mp.get H.objs r
def Hp.rowOf (H : Hp) (k : Int) : List Wd := ((Mp.get H.rows k).map (·.words)).getD []
/-- An entry of a list of pairs is turned. -/
def mapAt {α : Type} (L : List (Int × α)) (r : Int) (f : α → α) : List (Int × α) := L.map fun p => if p.1 = r then (p.1, f p.2) else p
def Hp.upd (H : Hp) (r : Int) (f : Ob → Ob) : Hp := { H with objs := mapAt H.objs r f }
def Hp.updR (H : Hp) (k : Int) (f : Rw → Rw) : Hp := { H with rows := mapAt H.rows k f }
def refsOf (l : List Wd) : List Int := (l.map (·.ref)).filter fun x => decide (x ≠ 0)
def tailOf (o : Ob) : List Int := if o.tail = 0 then [] else [o.tail]
/-- The references of an object. -/
def targetsH (H : Hp) (o : Ob) : List Int := refsOf (H.rowOf o.row) ++ tailOf o
def seeH (H : Hp) (r : Int) : Hp := if H.watched = true ∧ r ≠ 0 then { H with seen := Mp.put H.seen r true } else H
def seeAll (H : Hp) (l : List Int) : Hp := l.foldl seeH H
def referH (H : Hp) (r : Int) : Hp := if r = 0 then H else H.upd r Ob.inc
/-- free: the heap without the object, and what is to be released. -/
def freeH (H : Hp) (r : Int) (o : Ob) : Hp × List Int :=
  match Mp.get H.rows o.row with
  | none => ({ H with objs := Mp.del H.objs r }, [])
  | some rw => if rw.isA = true ∧ 0 < rw.arr - 1 then ({ H with objs := Mp.del H.objs r, rows := mapAt H.rows o.row Rw.dec }, [])
    else ({ H with objs := Mp.del H.objs r, rows := Mp.del H.rows o.row }, targetsH H o)
theorem len_mapAt {α : Type} (L : List (Int × α)) (r : Int) (f : α → α) : (mapAt L r f).length = L.length := by simp [mapAt]
theorem len_del_lt {α : Type} {L : List (Int × α)} {r : Int} {o : α} (h : Mp.get L r = some o) : (Mp.del L r).length < L.length := by
  have hm := Mp.mem_of_get h
  unfold Mp.del
  rcases Nat.lt_or_ge (L.filter fun p => decide (p.1 ≠ r)).length L.length with h1 | h1
  · exact h1
  · have h2 := List.filter_eq_self.1 (List.Sublist.eq_of_length_le (List.filter_sublist (l := L) (p := fun p => decide (p.1 ≠ r))) h1) _ hm
    simp at h2
theorem freeH_objs (H : Hp) (r : Int) (o : Ob) : (freeH H r o).1.objs = Mp.del H.objs r := by
  unfold freeH
  split
  · rfl
  · split <;> rfl
theorem get_mapAt {α : Type} (L : List (Int × α)) (r x : Int) (f : α → α) : Mp.get (mapAt L r f) x = if x = r then (Mp.get L x).map f else Mp.get L x := by
  induction L with
  | nil => simp [mapAt, Mp.get]
  | cons p L ih =>
    obtain ⟨k, o⟩ := p
    have e1 : mapAt ((k, o) :: L) r f = (if k = r then (k, f o) else (k, o)) :: mapAt L r f := rfl
    have e2 : ∀ (a : α) (M : List (Int × α)), Mp.get ((k, a) :: M) x = if k = x then some a else Mp.get M x := fun a M => by
      by_cases h : k = x <;> simp [Mp.get, h]
    rw [e1, e2]
    by_cases h1 : k = r
    · rw [if_pos h1, e2, ih]
      by_cases h2 : k = x
      · rw [if_pos h2, if_pos h2, if_pos (h2.symm.trans h1)]; rfl
      · rw [if_neg h2, if_neg h2]
    · rw [if_neg h1, e2, ih]
      by_cases h2 : k = x
      · rw [if_pos h2, if_pos h2, if_neg (fun e => h1 (h2.trans e))]
      · rw [if_neg h2, if_neg h2]
theorem keys_mapAt {α : Type} (L : List (Int × α)) (r : Int) (f : α → α) : (mapAt L r f).map (·.1) = L.map (·.1) := by
  unfold mapAt
  rw [List.map_map]
  apply List.map_congr_left
  intro p _
  simp only [Function.comp]
  split <;> rfl
def wsum (L : List (Int × Rw)) : Nat := (L.map fun p => p.2.words.length).sum
theorem wsum_mapAt (L : List (Int × Rw)) (k : Int) (f : Rw → Rw) (h : ∀ x, (f x).words.length = x.words.length) : wsum (mapAt L k f) = wsum L := by
  unfold wsum mapAt
  rw [List.map_map]
  congr 1
  apply List.map_congr_left
  intro p _
  simp only [Function.comp]
  split
  · exact h _
  · rfl
theorem wsum_del {L : List (Int × Rw)} {k : Int} {rw : Rw} (h : Mp.get L k = some rw) : wsum (Mp.del L k) + rw.words.length ≤ wsum L := by
  induction L with
  | nil => cases h
  | cons p L ih =>
    obtain ⟨q, a⟩ := p
    have e : wsum ((q, a) :: L) = a.words.length + wsum L := by simp [wsum]
    have mono : wsum (Mp.del L k) ≤ wsum L := by
      clear ih h e
      induction L with
      | nil => exact Nat.le_refl _
      | cons p L ih =>
        by_cases h1 : p.1 = k
        · have : Mp.del (p :: L) k = Mp.del L k := by simp [Mp.del, h1]
          rw [this]; simp only [wsum, List.map_cons, List.sum_cons] at ih ⊢; omega
        · have : Mp.del (p :: L) k = p :: Mp.del L k := by simp [Mp.del, h1]
          rw [this]; simp only [wsum, List.map_cons, List.sum_cons] at ih ⊢; omega
    by_cases h1 : q = k
    · have e1 : Mp.del ((q, a) :: L) k = Mp.del L k := by simp [Mp.del, h1]
      have e2 : a = rw := by simp [Mp.get, h1] at h; exact h
      rw [e1, e, ← e2]; omega
    · have e1 : Mp.del ((q, a) :: L) k = (q, a) :: Mp.del L k := by simp [Mp.del, h1]
      have e2 : Mp.get L k = some rw := by simpa [Mp.get, h1] using h
      have := ih e2
      rw [e1, e]
      have : wsum ((q, a) :: Mp.del L k) = a.words.length + wsum (Mp.del L k) := by simp [wsum]
      omega
/-- How much there is to release at most. -/
def muH (H : Hp) : Nat := wsum H.rows + 2 * H.objs.length
theorem mu_upd (H : Hp) (r : Int) (f : Ob → Ob) : muH (H.upd r f) = muH H := by simp [muH, Hp.upd, len_mapAt]
theorem len_refsOf (l : List Wd) : (refsOf l).length ≤ l.length := by
  unfold refsOf
  exact Nat.le_trans (List.length_filter_le _ _) (by simp)
theorem mu_free (H : Hp) (r : Int) (o o' : Ob) (h : Mp.get H.objs r = some o') : muH (freeH H r o).1 + (freeH H r o).2.length < muH H := by
  have h1 := len_del_lt h
  unfold freeH
  split
  · simp only [muH, List.length_nil]; omega
  · rename_i rw hr
    split
    · simp only [muH, List.length_nil]
      rw [wsum_mapAt _ _ Rw.dec (fun _ => rfl)]
      omega
    · have h2 := wsum_del hr
      have h3 : (targetsH H o).length ≤ rw.words.length + 1 := by
        unfold targetsH Hp.rowOf
        rw [hr]
        have := len_refsOf rw.words
        simp only [Option.map_some, Option.getD_some, List.length_append]
        unfold tailOf
        split <;> simp <;> omega
      simp only [muH]
      omega
/-- release, with a stack: its first is taken next. -/
def relH (H : Hp) (st : List Int) : Hp :=
  match st with
  | [] => H
  | r :: st =>
    if r = 0 then relH H st
    else match h : Mp.get H.objs r with
      | none => relH H st
      | some o =>
        if o.holds + (o.rc - 1) = 0 then relH (freeH (H.upd r Ob.dec) r o).1 ((freeH (H.upd r Ob.dec) r o).2.reverse ++ st)
        else relH (H.upd r Ob.dec) st
termination_by muH H + st.length
decreasing_by
  · simp_wf
  · simp_wf
  · simp_wf
    have h1 : Mp.get (H.upd r Ob.dec).objs r = some o.dec := by
      show Mp.get (mapAt H.objs r Ob.dec) r = _
      rw [get_mapAt, if_pos rfl, h]; rfl
    have := mu_free _ r o _ h1
    rw [mu_upd] at this
    omega
  · simp_wf
    rw [mu_upd]
    omega
theorem relH_nil (H : Hp) : relH H [] = H := by rw [relH]
theorem relH_zero (H : Hp) (st : List Int) : relH H (0 :: st) = relH H st := by rw [relH]; simp
theorem relH_keep {H : Hp} {r : Int} {o : Ob} (st : List Int) (hr : r ≠ 0) (h : Mp.get H.objs r = some o) (hc : o.holds + (o.rc - 1) ≠ 0) : relH H (r :: st) = relH (H.upd r Ob.dec) st := by
  rw [relH]
  rw [if_neg hr]
  split
  · rename_i h2; rw [h] at h2; cases h2
  · rename_i o2 h2
    rw [h] at h2
    cases h2
    rw [if_neg hc]
theorem relH_free {H : Hp} {r : Int} {o : Ob} (st : List Int) (hr : r ≠ 0) (h : Mp.get H.objs r = some o) (hc : o.holds + (o.rc - 1) = 0) :
    relH H (r :: st) = relH (freeH (H.upd r Ob.dec) r o).1 ((freeH (H.upd r Ob.dec) r o).2.reverse ++ st) := by
  rw [relH]
  rw [if_neg hr]
  split
  · rename_i h2; rw [h] at h2; cases h2
  · rename_i o2 h2
    rw [h] at h2
    cases h2
    rw [if_pos hc]
end Go.Proofs.Ytodfpclekihbhaa

/- The heap in memory. -/
namespace Go.Proofs.Ytodfpclekihbhaa
open Go.RowKit

theorem cell_of_heap {w : World} {b j : Nat} {cs : Array Value} {t : TypeId} {fr : Nat × Nat} {v : Value} (h : w.heap[b]? = some (.cells cs t fr)) (hv : cs[j]? = some v) : w.cell? ⟨b, j, none⟩ = some v := by
  unfold World.cell?
  rw [h]
  simpa using hv
theorem frozen_of_heap {w : World} {b : Nat} {cs : Array Value} {t : TypeId} (h : w.heap[b]? = some (.cells cs t (0, 0))) (i : Nat) : w.frozen? ⟨b, i, none⟩ = false := by simp [World.frozen?, h]
theorem lt_of_heap {w : World} {b : Nat} {o : Obj} (h : w.heap[b]? = some o) : b < w.heap.size := (Array.getElem?_eq_some_iff.1 h).1
theorem _root_.Go.RowKit.Below.step2 {a b c : World} (h : Below a.heap.size a b) (k : Below b.heap.size b c) : Below a.heap.size a c := h.trans (k.mono h.size)
theorem _root_.Go.RowKit.Below.dn {B : Nat} {a w : World} (h : Below B a w) (n : Nat) : Below B a (w.drewN n) := h.trans ⟨rfl, rfl, rfl, Nat.le_refl _, fun _ _ => rfl⟩
def kV (i : Int) : Value := .int .i64 i
def ptrV (n : Nat) : Value := .pointer (some ⟨n, 0, none⟩)
def ints (zs : List Int) : List Value := zs.map (Value.int .i64)
/-- The cells of words. -/
def wcs : List Wd → List Value
  | [] => []
  | x :: l => .int .i64 x.num :: .int .i64 x.ref :: wcs l
theorem len_wcs (l : List Wd) : (wcs l).length = l.length * 2 := by
  induction l with
  | nil => rfl
  | cons x l ih => simp only [wcs, List.length_cons, ih]; omega
theorem wcs_get0 (l : List Wd) (j : Nat) (h : j < l.length) : (wcs l)[j * 2]? = some (.int .i64 (l[j]'h).num) := by
  induction l generalizing j with
  | nil => exact absurd h (Nat.not_lt_zero _)
  | cons x l ih =>
    cases j with
    | zero => rfl
    | succ j =>
      rw [show (j + 1) * 2 = j * 2 + 1 + 1 by omega]
      simp only [wcs, List.getElem?_cons_succ, List.getElem_cons_succ]
      exact ih j (by simpa using h)
theorem wcs_get1 (l : List Wd) (j : Nat) (h : j < l.length) : (wcs l)[j * 2 + 1]? = some (.int .i64 (l[j]'h).ref) := by
  induction l generalizing j with
  | nil => exact absurd h (Nat.not_lt_zero _)
  | cons x l ih =>
    cases j with
    | zero => rfl
    | succ j =>
      rw [show (j + 1) * 2 + 1 = (j * 2 + 1) + 1 + 1 by omega]
      simp only [wcs, List.getElem?_cons_succ, List.getElem_cons_succ]
      exact ih j (by simpa using h)
theorem wcs_set0 (l : List Wd) (j : Nat) (n : Int) : (wcs l).set (j * 2) (.int .i64 n) = wcs (l.modify j fun x => { x with num := n }) := by
  induction l generalizing j with
  | nil => simp [wcs]
  | cons x l ih =>
    cases j with
    | zero => rfl
    | succ j =>
      rw [show (j + 1) * 2 = j * 2 + 1 + 1 by omega]
      simp only [wcs, List.set_cons_succ, List.modify_succ_cons]
      rw [ih j]
theorem wcs_set1 (l : List Wd) (j : Nat) (n : Int) : (wcs l).set (j * 2 + 1) (.int .i64 n) = wcs (l.modify j fun x => { x with ref := n }) := by
  induction l generalizing j with
  | nil => simp [wcs]
  | cons x l ih =>
    cases j with
    | zero => rfl
    | succ j =>
      rw [show (j + 1) * 2 + 1 = (j * 2 + 1) + 1 + 1 by omega]
      simp only [wcs, List.set_cons_succ, List.modify_succ_cons]
      rw [ih j]
/-- A row of words in memory. -/
def WordsAt (w : World) (A : Option Addr) (C : Nat) (l : List Wd) : Prop := w.ownsRow 0 42 2 (.slice A l.length C) l.length (wcs l)
/-- A list of booleans that can be read. -/
def BoolsAt (w : World) (A : Option Addr) (l : List Bool) : Prop := ∀ j (h : j < l.length), ∃ g o, A = some ⟨g, o, none⟩ ∧ g < w.heap.size ∧ w.cell? ⟨g, o + j, none⟩ = some (.bool (l[j]'h))
theorem own_blk {w : World} {base n C size : Nat} {e : TypeId} {A : Option Addr} {xs : List Value} (h : w.ownsRow base e size (.slice A n C) n xs) (a : Addr) (ha : A = some a) : base ≤ a.block ∧ a.block < w.heap.size := h.lt a.block (by rw [ha]; rfl)
theorem ownB {A : Option Addr} {n C k : Nat} (h : (Value.slice A n C).ownBlock = some k) : ∃ a, A = some a ∧ a.block = k := by
  cases A with
  | none => cases h
  | some a => exact ⟨a, rfl, by injection h⟩
theorem own_mut2 {S : Nat → Prop} {w w' : World} {base n C size : Nat} {e : TypeId} {A : Option Addr} {xs : List Value} (h : w.ownsRow base e size (.slice A n C) n xs) (hm : Mut S w w') (hn : ∀ a, A = some a → ¬ S a.block) : w'.ownsRow base e size (.slice A n C) n xs :=
  own_mut h hm fun k hk => by
    obtain ⟨a, ha, rfl⟩ := ownB hk
    exact hn a ha
/-- One cell of a row is written. -/
theorem own_put {w : World} {base n C size g i : Nat} {e : TypeId} {xs : List Value} (h : w.ownsRow base e size (.slice (some ⟨g, 0, none⟩) n C) n xs) (v : Value) : (w.setCell ⟨g, i, none⟩ v).ownsRow base e size (.slice (some ⟨g, 0, none⟩) n C) n (xs.set i v) := by
  refine ⟨by rw [List.length_set]; exact h.1, ?_⟩
  rcases h.2 with ⟨h1, h2⟩ | ⟨g', cap, cur, h1, h2, h3, h4, h5, h6, h7⟩
  · injection h1 with h1; cases h1
  · injection h1 with e1 e2 e3
    injection e1 with e1
    injection e1 with e1
    subst e1 e3
    exact .inr ⟨g, C, cur.setIfInBounds i v, rfl, h2, heap_setCell_same w g i _ _ v h3, h4, h5, by simpa using h6, by rw [Array.toList_setIfInBounds, List.take_set, h7]⟩
/-- The cells of a word, for a walk. -/
theorem WordsAt.cell {w : World} {A : Option Addr} {C : Nat} {l : List Wd} (h : WordsAt w A C l) (j : Nat) (hj : j < l.length) : ∃ g, A = some ⟨g, 0, none⟩ ∧ g < w.heap.size ∧ l.length ≤ C ∧ (∀ i, w.frozen? ⟨g, i, none⟩ = false) ∧
    w.cell? ⟨g, j * 2, none⟩ = some (.int .i64 (l[j]'hj).num) ∧ w.cell? ⟨g, j * 2 + 1, none⟩ = some (.int .i64 (l[j]'hj).ref) := by
  rcases h.2 with ⟨h1, h2⟩ | ⟨g, cap, cur, h1, h2, h3, h4, h5, h6, h7⟩
  · omega
  · injection h1 with e1 e2 e3
    have key : ∀ i, i < l.length * 2 → w.cell? ⟨g, i, none⟩ = (wcs l)[i]? := fun i hi => by
      rw [← h7, List.getElem?_take_of_lt hi]
      unfold World.cell?
      rw [h3]
      simp
    exact ⟨g, e1, lt_of_heap h3, e3 ▸ h4, fun i => frozen_of_heap h3 i, by rw [key _ (by omega), wcs_get0 l j hj], by rw [key _ (by omega), wcs_get1 l j hj]⟩
theorem BoolsAt.mut {S : Nat → Prop} {w w' : World} {A : Option Addr} {l : List Bool} (h : BoolsAt w A l) (hm : Mut S w w') (hn : l ≠ [] → ∀ a, A = some a → ¬ S a.block) : BoolsAt w' A l := fun j hj => by
  obtain ⟨g, o, h1, h2, h3⟩ := h j hj
  exact ⟨g, o, h1, Nat.lt_of_lt_of_le h2 hm.size, (hm.cell h2 (hn (fun e => by subst e; exact absurd hj (Nat.not_lt_zero _)) _ h1)).trans h3⟩
/-- Where a heap's parts lie. -/
structure HA where
  mb : Nat
  sb : Option Nat
  ob : Int → Nat
  wA : Int → Option Addr
  wC : Int → Nat
  st : Int → Nat
  sA : Int → Option Addr
  sC : Int → Nat
def HA.wF (A : HA) (o : Ob) (n : Nat) : Value := if o.kind = 2 then .slice none 0 0 else .slice (A.wA o.row) n (A.wC o.row)
def HA.pF (A : HA) (o : Ob) : Value := .pointer (if o.kind = 2 then some ⟨A.st o.row, 0, none⟩ else none)
def obC (A : HA) (r : Int) (o : Ob) (n : Nat) : Array Value := #[.int .i64 o.kind, .int .i64 o.cls, .slice (A.sA r) o.refs.length (A.sC r), A.wF o n, .string o.chars, .bool o.wide, .int .i64 o.tail, A.pF o, .int .i64 (o.lo : Int), .int .i64 (o.hi : Int), .int .i64 o.holds, .int .i64 o.rc]
def hpC (A : HA) (H : Hp) : Array Value := #[.map (some A.mb), .int .i64 (H.last : Int), .bool H.watched, .map A.sb]
def stC (A : HA) (k : Int) (x : Rw) : Array Value := #[.int .i64 k, .slice (A.wA k) x.words.length (A.wC k), .int .i64 x.arr]
def obAdr (A : HA) (L : List (Int × Ob)) : List (Int × Nat) := L.map fun p => (p.1, A.ob p.1)
structure HpAt (w : World) (hb : Nat) (A : HA) (H : Hp) (S : Nat → Prop) : Prop where
  blk : w.heap[hb]? = some (.cells (hpC A H) 95 (0, 0))
  omap : Mp.MapIs w A.mb kV ptrV (obAdr A H.objs)
  smap : ∀ b, A.sb = some b → Mp.MapIs w b kV Value.bool H.seen
  snil : A.sb = none → H.watched = false ∧ H.seen = []
  obj : ∀ r o, Mp.get H.objs r = some o → w.heap[A.ob r]? = some (.cells (obC A r o (H.rowOf o.row).length) 104 (0, 0))
  row : ∀ k x, Mp.get H.rows k = some x → WordsAt w (A.wA k) (A.wC k) x.words
  sto : ∀ k x, Mp.get H.rows k = some x → x.isA = true → w.heap[A.st k]? = some (.cells (stC A k x) 99 (0, 0))
  shp : ∀ r o, Mp.get H.objs r = some o → BoolsAt w (A.sA r) o.refs
  oinj : ∀ r r' o o', Mp.get H.objs r = some o → Mp.get H.objs r' = some o' → A.ob r = A.ob r' → r = r'
  winj : ∀ k k' x x' a b, Mp.get H.rows k = some x → Mp.get H.rows k' = some x' → A.wA k = some a → A.wA k' = some b → a.block = b.block → k = k'
  sinj : ∀ k k' x x', Mp.get H.rows k = some x → Mp.get H.rows k' = some x' → x.isA = true → x'.isA = true → A.st k = A.st k' → k = k'
  mne : A.sb ≠ some A.mb
  Sh : S hb
  Sm : S A.mb
  Ss : ∀ b, A.sb = some b → S b
  So : ∀ r o, Mp.get H.objs r = some o → S (A.ob r)
  Sw : ∀ k x a, Mp.get H.rows k = some x → A.wA k = some a → S a.block
  St : ∀ k x, Mp.get H.rows k = some x → x.isA = true → S (A.st k)
  Sp : ∀ r o a, Mp.get H.objs r = some o → o.refs ≠ [] → A.sA r = some a → S a.block ∧ ∃ cs fr, w.heap[a.block]? = some (.cells cs 4 fr)
  Slt : ∀ k, S k → k < w.heap.size
theorem HpAt.mut {T S : Nat → Prop} {w w' : World} {hb : Nat} {A : HA} {H : Hp} (h : HpAt w hb A H S) (hm : Mut T w w') (hd : ∀ k, S k → ¬ T k) : HpAt w' hb A H S where
  blk := (hm.block _ (lt_of_heap h.blk) (hd _ h.Sh)).trans h.blk
  omap := h.omap.of_block (hm.block _ h.omap.lt (hd _ h.Sm))
  smap := fun b e => (h.smap b e).of_block (hm.block _ (h.smap b e).lt (hd _ (h.Ss b e)))
  snil := h.snil
  obj := fun r o ho => (hm.block _ (lt_of_heap (h.obj r o ho)) (hd _ (h.So r o ho))).trans (h.obj r o ho)
  row := fun k x hx => own_mut2 (h.row k x hx) hm fun a ha => hd _ (h.Sw k x a hx ha)
  sto := fun k x hx hi => (hm.block _ (lt_of_heap (h.sto k x hx hi)) (hd _ (h.St k x hx hi))).trans (h.sto k x hx hi)
  shp := fun r o ho => (h.shp r o ho).mut hm fun he a ha => hd _ (h.Sp r o a ho he ha).1
  oinj := h.oinj
  winj := h.winj
  sinj := h.sinj
  mne := h.mne
  Sh := h.Sh
  Sm := h.Sm
  Ss := h.Ss
  So := h.So
  Sw := h.Sw
  St := h.St
  Sp := fun r o a ho he ha => by
    obtain ⟨h1, cs, fr, h2⟩ := h.Sp r o a ho he ha
    exact ⟨h1, cs, fr, (hm.block _ (lt_of_heap h2) (hd _ h1)).trans h2⟩
  Slt := fun k hk => Nat.lt_of_lt_of_le (h.Slt k hk) hm.size
theorem HpAt.below {S : Nat → Prop} {w w' : World} {hb : Nat} {A : HA} {H : Hp} (h : HpAt w hb A H S) (hb' : Below w.heap.size w w') : HpAt w' hb A H S :=
  h.mut (T := fun _ => False) (Mut.of_below hb') fun _ _ h => h
/-- The set of blocks may be taken greater. -/
theorem HpAt.grow {S S' : Nat → Prop} {w : World} {hb : Nat} {A : HA} {H : Hp} (h : HpAt w hb A H S) (hs : ∀ k, S k → S' k) (hl : ∀ k, S' k → k < w.heap.size) : HpAt w hb A H S' :=
  { h with Sh := hs _ h.Sh, Sm := hs _ h.Sm, Ss := fun b e => hs _ (h.Ss b e), So := fun r o ho => hs _ (h.So r o ho), Sw := fun k x a hx ha => hs _ (h.Sw k x a hx ha), St := fun k x hx hi => hs _ (h.St k x hx hi), Sp := fun r o a ho he ha => ⟨hs _ (h.Sp r o a ho he ha).1, (h.Sp r o a ho he ha).2⟩, Slt := hl }
end Go.Proofs.Ytodfpclekihbhaa

/- The heap in memory: what a store into a cell, or a map, makes of it. -/
namespace Go.Proofs.Ytodfpclekihbhaa
open Go.RowKit

variable {w : World} {hb : Nat} {A : HA} {H : Hp} {S : Nat → Prop}
theorem ne_ty {w : World} {b c : Nat} {cs ds : Array Value} {t u : TypeId} {fr gr : Nat × Nat} (h : w.heap[b]? = some (.cells cs t fr)) (k : w.heap[c]? = some (.cells ds u gr)) (hn : t ≠ u) : b ≠ c := fun e => by
  subst e
  rw [h] at k
  injection k with k
  injection k with _ k2
  exact hn k2
theorem ne_map {w : World} {b c : Nat} {cs : Array Value} {t : TypeId} {fr : Nat × Nat} {α : Type} {K : Int → Value} {V : α → Value} {L : List (Int × α)} (h : w.heap[b]? = some (.cells cs t fr)) (k : Mp.MapIs w c K V L) : c ≠ b := fun e => by
  subst e
  obtain ⟨es, clk, h1, _⟩ := k
  rw [h] at h1
  cases h1
theorem row_blk {w : World} {A : Option Addr} {C : Nat} {l : List Wd} (h : WordsAt w A C l) (a : Addr) (ha : A = some a) : ∃ cs, w.heap[a.block]? = some (.cells cs 42 (0, 0)) ∧ a = ⟨a.block, 0, none⟩ := by
  rcases h.2 with ⟨h1, h2⟩ | ⟨g, cap, cur, h1, h2, h3, h4, h5, h6, h7⟩
  · injection h1 with h1; rw [ha] at h1; cases h1
  · injection h1 with e1
    rw [ha] at e1
    injection e1 with e1
    subst e1
    exact ⟨cur, h3, rfl⟩
theorem HpAt.row_of (h : HpAt w hb A H S) {o : Ob} {k : Int} {x : Rw} (hx : Mp.get H.rows k = some x) (hk : o.row = k) : H.rowOf o.row = x.words := by
  unfold Hp.rowOf
  rw [hk, hx]; rfl
/-- A cell of an object is written. -/
theorem HpAt.setOb (h : HpAt w hb A H S) (r : Int) (o : Ob) (ho : Mp.get H.objs r = some o) (i : Nat) (v : Value) (f : Ob → Ob) (hc : (obC A r o (H.rowOf o.row).length).setIfInBounds i v = obC A r (f o) (H.rowOf (f o).row).length) (hr : ∀ x, (f x).refs = x.refs) :
    HpAt (w.setCell ⟨A.ob r, i, none⟩ v) hb A (H.upd r f) S := by
  have hB := h.obj r o ho
  have hm : Mut (· = A.ob r) w (w.setCell ⟨A.ob r, i, none⟩ v) := Mut.setCell w _ i v rfl
  have hg : ∀ x y, Mp.get (H.upd r f).objs x = some y → ∃ y0, Mp.get H.objs x = some y0 ∧ (x = r → y0 = o ∧ y = f o) ∧ (x ≠ r → y = y0) := fun x y hy => by
    have : Mp.get (mapAt H.objs r f) x = some y := hy
    rw [get_mapAt] at this
    by_cases e : x = r
    · subst e
      rw [if_pos rfl, ho] at this
      injection this with this
      exact ⟨o, ho, fun _ => ⟨rfl, this.symm⟩, fun h => absurd rfl h⟩
    · rw [if_neg e] at this
      exact ⟨y, this, fun h => absurd h e, fun _ => rfl⟩
  refine { blk := ?_, omap := ?_, smap := ?_, snil := h.snil, obj := ?_, row := ?_, sto := ?_, shp := ?_, oinj := ?_, winj := h.winj, sinj := h.sinj, mne := h.mne, Sh := h.Sh, Sm := h.Sm, Ss := h.Ss, So := ?_, Sw := h.Sw, St := h.St, Sp := ?_, Slt := fun k hk => Nat.lt_of_lt_of_le (h.Slt k hk) hm.size }
  · exact (hm.block _ (lt_of_heap h.blk) (ne_ty h.blk hB (by decide))).trans h.blk
  · have e1 : obAdr A (H.upd r f).objs = obAdr A H.objs := by
      unfold obAdr Hp.upd mapAt
      rw [List.map_map]
      apply List.map_congr_left
      intro p _
      simp only [Function.comp]
      split <;> rfl
    rw [e1]
    exact h.omap.of_block (hm.block _ h.omap.lt (ne_map hB h.omap))
  · exact fun b e => (h.smap b e).of_block (hm.block _ (h.smap b e).lt (ne_map hB (h.smap b e)))
  · intro x y hy
    obtain ⟨y0, h1, h2, h3⟩ := hg x y hy
    by_cases e : x = r
    · subst e
      obtain ⟨rfl, rfl⟩ := h2 rfl
      rw [heap_setCell_same w _ i _ _ v hB, hc]
      rfl
    · rw [h3 e]
      exact (hm.block _ (lt_of_heap (h.obj x y0 h1)) (fun e2 => e (h.oinj _ _ _ _ h1 ho e2))).trans (h.obj x y0 h1)
  · exact fun k x hx => own_mut2 (h.row k x hx) hm fun a ha e => by
      obtain ⟨cs, hcs, _⟩ := row_blk (h.row k x hx) a ha
      exact ne_ty hcs hB (by decide) e
  · exact fun k x hx hi => (hm.block _ (lt_of_heap (h.sto k x hx hi)) (ne_ty (h.sto k x hx hi) hB (by decide))).trans (h.sto k x hx hi)
  · intro x y hy
    obtain ⟨y0, h1, h2, h3⟩ := hg x y hy
    have e : y.refs = y0.refs := by
      by_cases e : x = r
      · obtain ⟨e1, e2⟩ := h2 e
        rw [e2, hr, e1]
      · rw [h3 e]
    rw [e]
    exact (h.shp x y0 h1).mut hm fun he a ha e2 => by
      obtain ⟨_, cs, fr, hcs⟩ := h.Sp x y0 a h1 he ha
      exact ne_ty hcs hB (by decide) e2
  · intro x x' y y' hy hy' e
    obtain ⟨y0, h1, _⟩ := hg x y hy
    obtain ⟨y1, h2, _⟩ := hg x' y' hy'
    exact h.oinj _ _ _ _ h1 h2 e
  · intro x y hy
    obtain ⟨y0, h1, _⟩ := hg x y hy
    exact h.So x y0 h1
  · intro x y a hy he ha
    obtain ⟨y0, h1, h2, h3⟩ := hg x y hy
    have e : y.refs = y0.refs := by
      by_cases e : x = r
      · obtain ⟨e1, e2⟩ := h2 e
        rw [e2, hr, e1]
      · rw [h3 e]
    rw [e] at he
    obtain ⟨g1, cs, fr, g2⟩ := h.Sp x y0 a h1 he ha
    exact ⟨g1, cs, fr, (hm.block _ (lt_of_heap g2) (ne_ty g2 hB (by decide))).trans g2⟩
/-- The count of a store is written. -/
theorem HpAt.setArr (h : HpAt w hb A H S) (k : Int) (x : Rw) (hx : Mp.get H.rows k = some x) (hi : x.isA = true) (v : Int) (f : Rw → Rw) (hf : f x = { x with arr := v }) (hw : ∀ y, (f y).words = y.words) (hA : ∀ y, (f y).isA = y.isA) :
    HpAt (w.setCell ⟨A.st k, 2, none⟩ (.int .i64 v)) hb A (H.updR k f) S := by
  have hB := h.sto k x hx hi
  have hm : Mut (· = A.st k) w (w.setCell ⟨A.st k, 2, none⟩ (.int .i64 v)) := Mut.setCell w _ 2 _ rfl
  have hg : ∀ j y, Mp.get (H.updR k f).rows j = some y → ∃ y0, Mp.get H.rows j = some y0 ∧ (j = k → y0 = x ∧ y = f x) ∧ (j ≠ k → y = y0) ∧ y.words = y0.words ∧ y.isA = y0.isA := fun j y hy => by
    have : Mp.get (mapAt H.rows k f) j = some y := hy
    rw [get_mapAt] at this
    by_cases e : j = k
    · subst e
      rw [if_pos rfl, hx] at this
      injection this with this
      exact ⟨x, hx, fun _ => ⟨rfl, this.symm⟩, fun h => absurd rfl h, by rw [← this, hw], by rw [← this, hA]⟩
    · rw [if_neg e] at this
      exact ⟨y, this, fun h => absurd h e, fun _ => rfl, rfl, rfl⟩
  have hrow : ∀ j, (H.updR k f).rowOf j = H.rowOf j := fun j => by
    show ((Mp.get (mapAt H.rows k f) j).map (·.words)).getD [] = ((Mp.get H.rows j).map (·.words)).getD []
    rw [get_mapAt]
    split
    · cases Mp.get H.rows j with
      | none => rfl
      | some y => simp [hw]
    · rfl
  refine { blk := ?_, omap := ?_, smap := ?_, snil := h.snil, obj := ?_, row := ?_, sto := ?_, shp := ?_, oinj := h.oinj, winj := ?_, sinj := ?_, mne := h.mne, Sh := h.Sh, Sm := h.Sm, Ss := h.Ss, So := h.So, Sw := ?_, St := ?_, Sp := ?_, Slt := fun k hk => Nat.lt_of_lt_of_le (h.Slt k hk) hm.size }
  · exact (hm.block _ (lt_of_heap h.blk) (ne_ty h.blk hB (by decide))).trans h.blk
  · exact h.omap.of_block (hm.block _ h.omap.lt (ne_map hB h.omap))
  · exact fun b e => (h.smap b e).of_block (hm.block _ (h.smap b e).lt (ne_map hB (h.smap b e)))
  · intro r o ho
    rw [hrow]
    exact (hm.block _ (lt_of_heap (h.obj r o ho)) (ne_ty (h.obj r o ho) hB (by decide))).trans (h.obj r o ho)
  · intro j y hy
    obtain ⟨y0, h1, h2, h3, h4, h5⟩ := hg j y hy
    rw [h4]
    exact own_mut2 (h.row j y0 h1) hm fun a ha e => by
      obtain ⟨cs, hcs, _⟩ := row_blk (h.row j y0 h1) a ha
      exact ne_ty hcs hB (by decide) e
  · intro j y hy hyi
    obtain ⟨y0, h1, h2, h3, h4, h5⟩ := hg j y hy
    by_cases e : j = k
    · subst e
      obtain ⟨rfl, rfl⟩ := h2 rfl
      rw [heap_setCell_same w _ 2 _ _ _ hB, hf]
      rfl
    · rw [h3 e] at hyi ⊢
      exact (hm.block _ (lt_of_heap (h.sto j y0 h1 hyi)) (fun e2 => e (h.sinj _ _ _ _ h1 hx hyi hi e2))).trans (h.sto j y0 h1 hyi)
  · exact fun r o ho => (h.shp r o ho).mut hm fun he a ha e2 => by
      obtain ⟨_, cs, fr, hcs⟩ := h.Sp r o a ho he ha
      exact ne_ty hcs hB (by decide) e2
  · intro j j' y y' a b hy hy' ha hb' e
    obtain ⟨y0, h1, _⟩ := hg j y hy
    obtain ⟨y1, h2, _⟩ := hg j' y' hy'
    exact h.winj _ _ _ _ a b h1 h2 ha hb' e
  · intro j j' y y' hy hy' hi1 hi2 e
    obtain ⟨y0, h1, _, _, _, g1⟩ := hg j y hy
    obtain ⟨y1, h2, _, _, _, g2⟩ := hg j' y' hy'
    exact h.sinj _ _ _ _ h1 h2 (g1 ▸ hi1) (g2 ▸ hi2) e
  · intro j y a hy ha
    obtain ⟨y0, h1, _⟩ := hg j y hy
    exact h.Sw j y0 a h1 ha
  · intro j y hy hyi
    obtain ⟨y0, h1, _, _, _, g1⟩ := hg j y hy
    exact h.St j y0 h1 (g1 ▸ hyi)
  · intro r o a ho he ha
    obtain ⟨g1, cs, fr, g2⟩ := h.Sp r o a ho he ha
    exact ⟨g1, cs, fr, (hm.block _ (lt_of_heap g2) (ne_ty g2 hB (by decide))).trans g2⟩
/-- A cell of a word is written. -/
theorem HpAt.setWd (h : HpAt w hb A H S) (k : Int) (x : Rw) (hx : Mp.get H.rows k = some x) (g i : Nat) (hA : A.wA k = some ⟨g, 0, none⟩) (v : Value) (ws : List Wd) (hl : ws.length = x.words.length) (hw : (wcs x.words).set i v = wcs ws) (f : Rw → Rw) (hf : f x = { x with words := ws }) :
    HpAt (w.setCell ⟨g, i, none⟩ v) hb A (H.updR k f) S := by
  obtain ⟨cs0, hB, _⟩ := row_blk (h.row k x hx) _ hA
  simp only at hB
  have hm : Mut (· = g) w (w.setCell ⟨g, i, none⟩ v) := Mut.setCell w _ i _ rfl
  have hg : ∀ j y, Mp.get (H.updR k f).rows j = some y → ∃ y0, Mp.get H.rows j = some y0 ∧ (j = k → y0 = x ∧ y = f x) ∧ (j ≠ k → y = y0) ∧ y.words.length = y0.words.length ∧ y.isA = y0.isA ∧ y.arr = y0.arr := fun j y hy => by
    have : Mp.get (mapAt H.rows k f) j = some y := hy
    rw [get_mapAt] at this
    by_cases e : j = k
    · subst e
      rw [if_pos rfl, hx] at this
      injection this with this
      exact ⟨x, hx, fun _ => ⟨rfl, this.symm⟩, fun h => absurd rfl h, by rw [← this, hf]; exact hl, by rw [← this, hf], by rw [← this, hf]⟩
    · rw [if_neg e] at this
      exact ⟨y, this, fun h => absurd h e, fun _ => rfl, rfl, rfl, rfl⟩
  have hrow : ∀ j, ((H.updR k f).rowOf j).length = (H.rowOf j).length := fun j => by
    show (((Mp.get (mapAt H.rows k f) j).map (·.words)).getD []).length = (((Mp.get H.rows j).map (·.words)).getD []).length
    rw [get_mapAt]
    by_cases e : j = k
    · subst e; rw [if_pos rfl, hx]; simp [hf, hl]
    · rw [if_neg e]
  refine { blk := ?_, omap := ?_, smap := ?_, snil := h.snil, obj := ?_, row := ?_, sto := ?_, shp := ?_, oinj := h.oinj, winj := ?_, sinj := ?_, mne := h.mne, Sh := h.Sh, Sm := h.Sm, Ss := h.Ss, So := h.So, Sw := ?_, St := ?_, Sp := ?_, Slt := fun k hk => Nat.lt_of_lt_of_le (h.Slt k hk) hm.size }
  · exact (hm.block _ (lt_of_heap h.blk) (ne_ty h.blk hB (by decide))).trans h.blk
  · exact h.omap.of_block (hm.block _ h.omap.lt (ne_map hB h.omap))
  · exact fun b e => (h.smap b e).of_block (hm.block _ (h.smap b e).lt (ne_map hB (h.smap b e)))
  · intro r o ho
    rw [hrow]
    exact (hm.block _ (lt_of_heap (h.obj r o ho)) (ne_ty (h.obj r o ho) hB (by decide))).trans (h.obj r o ho)
  · intro j y hy
    obtain ⟨y0, h1, h2, h3, h4, h5⟩ := hg j y hy
    by_cases e : j = k
    · subst e
      obtain ⟨rfl, rfl⟩ := h2 rfl
      rw [hf, hA]
      show World.ownsRow _ 0 42 2 (.slice _ ws.length _) ws.length (wcs ws)
      rw [hl, ← hw]
      have h6 := h.row j y0 hx
      unfold WordsAt at h6
      rw [hA] at h6
      exact own_put h6 v
    · rw [h3 e]
      exact own_mut2 (h.row j y0 h1) hm fun a ha e2 => e (h.winj _ _ _ _ _ _ h1 hx ha hA e2)
  · intro j y hy hyi
    obtain ⟨y0, h1, h2, h3, h4, h5, h6⟩ := hg j y hy
    have h7 : stC A j y = stC A j y0 := by unfold stC; rw [h4, h6]
    rw [h7]
    have hi0 : y0.isA = true := h5 ▸ hyi
    exact (hm.block _ (lt_of_heap (h.sto j y0 h1 hi0)) (ne_ty (h.sto j y0 h1 hi0) hB (by decide))).trans (h.sto j y0 h1 hi0)
  · exact fun r o ho => (h.shp r o ho).mut hm fun he a ha e2 => by
      obtain ⟨_, cs, fr, hcs⟩ := h.Sp r o a ho he ha
      exact ne_ty hcs hB (by decide) e2
  · intro j j' y y' a b hy hy' ha hb' e
    obtain ⟨y0, h1, _⟩ := hg j y hy
    obtain ⟨y1, h2, _⟩ := hg j' y' hy'
    exact h.winj _ _ _ _ a b h1 h2 ha hb' e
  · intro j j' y y' hy hy' hi1 hi2 e
    obtain ⟨y0, h1, _, _, _, g1, _⟩ := hg j y hy
    obtain ⟨y1, h2, _, _, _, g2, _⟩ := hg j' y' hy'
    exact h.sinj _ _ _ _ h1 h2 (g1 ▸ hi1) (g2 ▸ hi2) e
  · intro j y a hy ha
    obtain ⟨y0, h1, _⟩ := hg j y hy
    exact h.Sw j y0 a h1 ha
  · intro j y hy hyi
    obtain ⟨y0, h1, _, _, _, g1, _⟩ := hg j y hy
    exact h.St j y0 h1 (g1 ▸ hyi)
  · intro r o a ho he ha
    obtain ⟨g1, cs, fr, g2⟩ := h.Sp r o a ho he ha
    exact ⟨g1, cs, fr, (hm.block _ (lt_of_heap g2) (ne_ty g2 hB (by decide))).trans g2⟩
/-- A cell of the heap's struct is written. -/
theorem HpAt.setHp (h : HpAt w hb A H S) (i : Nat) (v : Value) (last : Nat) (watched : Bool) (hc : (hpC A H).setIfInBounds i v = hpC A { H with last := last, watched := watched }) (hn : A.sb = none → watched = false) :
    HpAt (w.setCell ⟨hb, i, none⟩ v) hb A { H with last := last, watched := watched } S := by
  have hB := h.blk
  have hm : Mut (· = hb) w (w.setCell ⟨hb, i, none⟩ v) := Mut.setCell w _ i v rfl
  refine { blk := ?_, omap := ?_, smap := ?_, snil := ?_, obj := ?_, row := ?_, sto := ?_, shp := ?_, oinj := h.oinj, winj := h.winj, sinj := h.sinj, mne := h.mne, Sh := h.Sh, Sm := h.Sm, Ss := h.Ss, So := h.So, Sw := h.Sw, St := h.St, Sp := ?_, Slt := fun k hk => Nat.lt_of_lt_of_le (h.Slt k hk) hm.size }
  · rw [heap_setCell_same w _ i _ _ v hB, hc]
  · exact h.omap.of_block (hm.block _ h.omap.lt (ne_map hB h.omap))
  · exact fun b e => (h.smap b e).of_block (hm.block _ (h.smap b e).lt (ne_map hB (h.smap b e)))
  · exact fun e => ⟨hn e, (h.snil e).2⟩
  · exact fun r o ho => (hm.block _ (lt_of_heap (h.obj r o ho)) (ne_ty (h.obj r o ho) hB (by decide))).trans (h.obj r o ho)
  · exact fun k x hx => own_mut2 (h.row k x hx) hm fun a ha e => by
      obtain ⟨cs, hcs, _⟩ := row_blk (h.row k x hx) a ha
      exact ne_ty hcs hB (by decide) e
  · exact fun k x hx hi => (hm.block _ (lt_of_heap (h.sto k x hx hi)) (ne_ty (h.sto k x hx hi) hB (by decide))).trans (h.sto k x hx hi)
  · exact fun r o ho => (h.shp r o ho).mut hm fun he a ha e2 => by
      obtain ⟨_, cs, fr, hcs⟩ := h.Sp r o a ho he ha
      exact ne_ty hcs hB (by decide) e2
  · intro r o a ho he ha
    obtain ⟨g1, cs, fr, g2⟩ := h.Sp r o a ho he ha
    exact ⟨g1, cs, fr, (hm.block _ (lt_of_heap g2) (ne_ty g2 hB (by decide))).trans g2⟩
theorem not_map_of_cells {w : World} {b c : Nat} {cs : Array Value} {t : TypeId} {fr : Nat × Nat} {es : Array MapEntry} {clk : Nat} (h : w.heap[b]? = some (.cells cs t fr)) (k : w.heap[c]? = some (.map es clk)) : b ≠ c := fun e => by
  subst e
  rw [h] at k
  cases k
/-- The map of what was seen is another one. -/
theorem HpAt.seenMap {w' : World} (h : HpAt w hb A H S) (b : Nat) (hb' : A.sb = some b) (L : List (Int × Bool)) (hm : Mut (· = b) w w') (hL : Mp.MapIs w' b kV Value.bool L) : HpAt w' hb A { H with seen := L } S := by
  obtain ⟨es, clk, hB, _⟩ := h.smap b hb'
  refine { blk := ?_, omap := ?_, smap := ?_, snil := ?_, obj := ?_, row := ?_, sto := ?_, shp := ?_, oinj := h.oinj, winj := h.winj, sinj := h.sinj, mne := h.mne, Sh := h.Sh, Sm := h.Sm, Ss := h.Ss, So := h.So, Sw := h.Sw, St := h.St, Sp := ?_, Slt := fun k hk => Nat.lt_of_lt_of_le (h.Slt k hk) hm.size }
  · exact (hm.block _ (lt_of_heap h.blk) (not_map_of_cells h.blk hB)).trans h.blk
  · exact h.omap.of_block (hm.block _ h.omap.lt (fun e => h.mne (by rw [hb', e])))
  · intro c hc
    rw [hb'] at hc
    injection hc with hc
    subst hc
    exact hL
  · intro e; rw [hb'] at e; cases e
  · exact fun r o ho => (hm.block _ (lt_of_heap (h.obj r o ho)) (not_map_of_cells (h.obj r o ho) hB)).trans (h.obj r o ho)
  · exact fun k x hx => own_mut2 (h.row k x hx) hm fun a ha e => by
      obtain ⟨cs, hcs, _⟩ := row_blk (h.row k x hx) a ha
      exact not_map_of_cells hcs hB e
  · exact fun k x hx hi => (hm.block _ (lt_of_heap (h.sto k x hx hi)) (not_map_of_cells (h.sto k x hx hi) hB)).trans (h.sto k x hx hi)
  · exact fun r o ho => (h.shp r o ho).mut hm fun he a ha e2 => by
      obtain ⟨_, cs, fr, hcs⟩ := h.Sp r o a ho he ha
      exact not_map_of_cells hcs hB e2
  · intro r o a ho he ha
    obtain ⟨g1, cs, fr, g2⟩ := h.Sp r o a ho he ha
    exact ⟨g1, cs, fr, (hm.block _ (lt_of_heap g2) (not_map_of_cells g2 hB)).trans g2⟩
/-- An object is deleted, and some rows are forgotten. -/
theorem HpAt.delOb {w' : World} (h : HpAt w hb A H S) (r : Int) (hm : Mut (· = A.mb) w w') (hL : Mp.MapIs w' A.mb kV ptrV (Mp.del (obAdr A H.objs) r)) : HpAt w' hb A { H with objs := Mp.del H.objs r } S := by
  obtain ⟨es, clk, hB, _⟩ := h.omap
  have hg : ∀ x o, Mp.get (Mp.del H.objs r) x = some o → Mp.get H.objs x = some o := fun x o ho => by
    rw [Mp.get_del] at ho
    split at ho
    · cases ho
    · exact ho
  have e1 : obAdr A (Mp.del H.objs r) = Mp.del (obAdr A H.objs) r := by
    unfold obAdr Mp.del
    rw [List.filter_map]
    rfl
  refine { blk := ?_, omap := by rw [e1]; exact hL, smap := ?_, snil := h.snil, obj := ?_, row := ?_, sto := ?_, shp := ?_, oinj := fun x x' o o' ho ho' e => h.oinj x x' o o' (hg _ _ ho) (hg _ _ ho') e, winj := h.winj, sinj := h.sinj, mne := h.mne, Sh := h.Sh, Sm := h.Sm, Ss := h.Ss, So := fun x o ho => h.So x o (hg _ _ ho), Sw := h.Sw, St := h.St, Sp := ?_, Slt := fun k hk => Nat.lt_of_lt_of_le (h.Slt k hk) hm.size }
  · exact (hm.block _ (lt_of_heap h.blk) (not_map_of_cells h.blk hB)).trans h.blk
  · exact fun b e => (h.smap b e).of_block (hm.block _ (h.smap b e).lt (fun e2 => h.mne (by rw [e, e2])))
  · exact fun x o ho => (hm.block _ (lt_of_heap (h.obj x o (hg _ _ ho))) (not_map_of_cells (h.obj x o (hg _ _ ho)) hB)).trans (h.obj x o (hg _ _ ho))
  · exact fun k x hx => own_mut2 (h.row k x hx) hm fun a ha e => by
      obtain ⟨cs, hcs, _⟩ := row_blk (h.row k x hx) a ha
      exact not_map_of_cells hcs hB e
  · exact fun k x hx hi => (hm.block _ (lt_of_heap (h.sto k x hx hi)) (not_map_of_cells (h.sto k x hx hi) hB)).trans (h.sto k x hx hi)
  · exact fun x o ho => (h.shp x o (hg _ _ ho)).mut hm fun he a ha e2 => by
      obtain ⟨_, cs, fr, hcs⟩ := h.Sp x o a (hg _ _ ho) he ha
      exact not_map_of_cells hcs hB e2
  · intro x o a ho he ha
    obtain ⟨g1, cs, fr, g2⟩ := h.Sp x o a (hg _ _ ho) he ha
    exact ⟨g1, cs, fr, (hm.block _ (lt_of_heap g2) (not_map_of_cells g2 hB)).trans g2⟩
/-- A row that no object has is forgotten. -/
theorem HpAt.delRow (h : HpAt w hb A H S) (k : Int) (hk : ∀ r o, Mp.get H.objs r = some o → o.row ≠ k) : HpAt w hb A { H with rows := Mp.del H.rows k } S := by
  have hg : ∀ j x, Mp.get (Mp.del H.rows k) j = some x → Mp.get H.rows j = some x := fun j x hx => by
    rw [Mp.get_del] at hx
    split at hx
    · cases hx
    · exact hx
  refine { h with blk := h.blk, obj := ?_, row := fun j x hx => h.row j x (hg _ _ hx), sto := fun j x hx hi => h.sto j x (hg _ _ hx) hi, winj := fun j j' x x' a b hx hx' => h.winj j j' x x' a b (hg _ _ hx) (hg _ _ hx'), sinj := fun j j' x x' hx hx' => h.sinj j j' x x' (hg _ _ hx) (hg _ _ hx'), Sw := fun j x a hx => h.Sw j x a (hg _ _ hx), St := fun j x hx => h.St j x (hg _ _ hx) }
  intro r o ho
  have : ({ H with rows := Mp.del H.rows k } : Hp).rowOf o.row = H.rowOf o.row := by
    show ((Mp.get (Mp.del H.rows k) o.row).map (·.words)).getD [] = _
    rw [Mp.get_del, if_neg (hk r o ho)]
    rfl
  rw [this]
  exact h.obj r o ho
end Go.Proofs.Ytodfpclekihbhaa

/- A range over a bound method: the law for a caller whose body goes on in every round; an iterator that gives a list. -/
namespace Go.Proofs.Ytodfpclekihbhaa
open Go.RowKit

/-- J abides new blocks. -/
def Stable (J : Nat → World → Prop) : Prop := ∀ j A B, J j A → Below A.heap.size A B → J j B
/-- Called with a yield, a function calls it at each of xs, in order, as long as the rounds keep what it reads. -/
def Gives (F : Fence) (n : Nat) (P : Program) (gf : Nat) (bs : Array Value) (xs : List Value) (Rd : World → Prop) : Prop :=
  ∀ (l : Nat) (J : Nat → World → Prop) (W : World), Stable J → (∀ j W1, J j W1 → Rd W1) →
    (∀ j W1, J j W1 → (h : j < xs.length) → YieldAt F (n - 1) P l #[xs[j]'h] W1 fun e W' => e = .returned (.bool true) ∧ J (j + 1) W') →
    J 0 W → CallsIn F n P gf (bs ++ #[.func (.yield l) #[] #[]]) W fun e W' => (∃ v, e = .returned v) ∧ J xs.length W'
/-- The body goes on. -/
def goesOn (B : Nat) (I : World → Prop) (W : World) : Exit → Act → World → Prop
  | .normal, _, W' => KeepsFrom B W W' ∧ I W'
  | _, _, _ => False

theorem wpIn_range_met {F : Fence} {n : Nat} {P : Program} {g : Operand} {p : Tmp} {assign body : Code} {Q : Exit → Act → World → Prop} {a : Act} {w : World}
    (hro : F.round = none) (h1 : 1 ≤ n) {gf : Nat} {bs : Array Value} (hg : a.eval g = .func (.func gf) bs #[]) (hFg : F.fn gf) (eg : ∀ args w, (callFunc gf args).run P w = .ok (.enter gf args) w)
    {xs : List Value} {Rd : World → Prop} (hseq : Gives F (n - 1) P gf bs xs Rd)
    (I : Nat → World → Prop) (hI : Stable I) (hI2 : ∀ j W l o o', I j W → w.heap.size ≤ l → W.heap[l]? = some o → o.isCells = false → I j (W.putObj l o')) (hrd : ∀ j W, I j W → Rd W) (h0 : I 0 w) (a₁ : Value → Act)
    (hassign : ∀ (l : Nat) (x : Value) (W : World) (K : Act → World → Prop), K (a₁ x) W →
      assign.wpIn (F.inRound l) (n - 1 - 1) P (Exit.then K (fun _ _ _ => False)) { tmps := a.tmps.setIfInBounds p x, defers := [] } W)
    (hbody : ∀ (l j : Nat) (h : j < xs.length) (W : World), I j W → body.wpIn (F.inRound l) (n - 1 - 1) P (goesOn w.heap.size (I (j + 1)) W) (a₁ (xs[j]'h)) W)
    (hdone : ∀ (D : Nat) (W : World), w.heap.size ≤ D → I xs.length W → W.heap[D]? = some (.deferred (some [])) → Q .normal { a with defers := { target := .collected D, args := #[] } :: a.defers } W) :
    (Code.rangeFunc g #[p] assign body).wpIn F n P Q a w := by
  refine wpIn_rangeFunc ?_
  intro fn hfn
  rw [hro]
  have hk : ∃ rk : LoopState → Loop, rk = fun st => { state := st, pending := none, fn, tmps := a.tmps, params := #[p], assign, body, defers := w.heap.size } := ⟨_, rfl⟩
  obtain ⟨rk, hrk⟩ := hk
  have hw1 : ∃ V, V = (w.alloc (.deferred (some []))).alloc (.loop (rk .ready)) := ⟨_, rfl⟩
  obtain ⟨V, hV⟩ := hw1
  have s1 : (w.alloc (.deferred (some []))).heap.size = w.heap.size + 1 := World.size_alloc _ _
  have bV : Below w.heap.size w V := by rw [hV]; exact ((Below.refl _ w).alloc (Nat.le_refl _) _).alloc (by rw [s1]; omega) _
  have l1 : V.heap[w.heap.size + 1]? = some (.loop (rk .ready)) := by rw [hV, ← s1]; exact World.alloc_heap_new _ _
  have d1 : V.heap[w.heap.size]? = some (.deferred (some [])) := by rw [hV]; exact (Below.heap_alloc _ _ _ (by rw [s1]; omega)).trans (World.alloc_heap_new w _)
  refine ⟨w.heap.size + 1, [{ target := .collected w.heap.size, args := #[] }], V, { target := .fn (.func gf) #[], args := bs ++ #[.func (.yield (w.heap.size + 1)) #[] #[]] }, V, gf, bs ++ #[.func (.yield (w.heap.size + 1)) #[] #[]], V, ?_, ?_, ?_, ?_, fun _ => h1, ?_⟩
  · rw [hV, hrk]; exact run_enterLoop_outer _ _ _ _ _
  · simp only [resolve, hg]
    simp [go_sem]
  · intro f' hf'; simp [Target.leads] at hf'; subst hf'; exact hFg
  · simp [invoke, go_sem, eg]
  · have hst : Stable fun j W => I j W ∧ W.heap[w.heap.size + 1]? = some (.loop (rk .ready)) ∧ W.heap[w.heap.size]? = some (.deferred (some [])) := fun j A B h hb =>
      ⟨hI j A B h.1 hb, (hb.block _ (Array.getElem?_eq_some_iff.1 h.2.1).1).trans h.2.1, (hb.block _ (Array.getElem?_eq_some_iff.1 h.2.2).1).trans h.2.2⟩
    refine (hseq (w.heap.size + 1) _ V hst (fun j W h => hrd j W h.1) ?_ ⟨hI 0 w V h0 bV, l1, d1⟩).mono ?_
    · rintro j W ⟨hi, hl, hd⟩ hj
      have hlt : w.heap.size + 1 < W.heap.size := (Array.getElem?_eq_some_iff.1 hl).1
      have hy := run_yield (P := P) (args := #[xs[j]'hj]) hl (by rw [hrk]; rfl)
      rw [hrk] at hy
      refine ⟨fn, a.tmps.setIfInBounds p (xs[j]'hj), assign, body, by simpa using hy, roundIn_of_wpIn hfn ?_⟩
      refine hassign _ (xs[j]'hj) W _ ?_
      refine ⟨_, run_beginRound hl (by rw [hrk]), ?_⟩
      have l2 : (W.putObj (w.heap.size + 1) (.loop (rk .busy))).heap[w.heap.size + 1]? = some (.loop (rk .busy)) := World.putObj_heap_same hlt
      have d2 : (W.putObj (w.heap.size + 1) (.loop (rk .busy))).heap[w.heap.size]? = some (.deferred (some [])) := (World.putObj_heap_other (by omega)).trans hd
      have e2 : ({ rk .ready with state := .busy } : Loop) = rk .busy := by rw [hrk]
      rw [e2]
      refine wpIn_mono (hbody _ j hj _ (hI2 j W _ _ _ hi (by omega) hl rfl)) ?_
      intro e a3 W3 hp
      cases e with
      | normal =>
        obtain ⟨hk3, hi3⟩ := hp
        have l3 := hk3.same _ _ (by omega) l2 rfl
        have d3 := hk3.same _ _ (Nat.le_refl _) d2 rfl
        have hr := run_endRound (P := P) none l3
        have e3 : ({ rk .busy with state := if (none : Option Code).isNone then .ready else .done, pending := none } : Loop) = rk .ready := by rw [hrk]; rfl
        rw [e3] at hr
        exact ⟨_, _, hr, rfl, hI2 _ _ _ _ _ hi3 (by omega) l3 rfl, World.putObj_heap_same (Array.getElem?_eq_some_iff.1 l3).1, (World.putObj_heap_other (by omega)).trans d3⟩
      | ret => exact hp.elim
      | exit id => exact hp.elim
      | goto t => exact hp.elim
      | panic ch => exact hp.elim
      | outgrown => exact hp.elim
    · rintro e W2 ⟨⟨v, rfl⟩, hi, hl, hd⟩
      have hend := run_endLoop (P := P) hl (by rw [hrk]; simp)
      have hpn : (rk .ready).pending = none := by rw [hrk]
      refine ⟨none, _, by rw [← hpn]; exact hend, hdone _ _ (Nat.le_refl _) (hI2 _ _ _ _ _ hi (by omega) hl rfl) ((World.putObj_heap_other (by omega)).trans hd)⟩
end Go.Proofs.Ytodfpclekihbhaa

