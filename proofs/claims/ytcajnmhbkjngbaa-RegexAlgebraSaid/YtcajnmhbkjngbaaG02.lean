/- Texts on regular expressions, merged: Mp, H0, X0, X1. -/
import Derived.MapKept
import Derived.WalkKit
import Derived.Below
import Derived.BigQuiet
import Derived.Laws.AppendOwn
import Derived.Maps.AppendAt
import Derived.Test.YtcajnmhbkjngbaaChecked
import Derived.OwnWalk
import Derived.KernelRfl
import Derived.Deep.RegionHeld3
import Derived.Deep.RegionLaw
import Derived.Deep.AppendLies
import Derived.Deep.Onto
import Derived.Deep.CutRange
import Derived.StillTailTactics
import Derived.Lib.Hide
import Derived.IntWalk
import Derived.Shelf.Lays
import Derived.Test.YtcajnmhbkjngbaaG01
import Derived.WalkLawsBesides
/- Maps with plain keys, read as lists of pairs: what a lookup, a store, a deletion and a length do to the list. -/
set_option linter.unusedSectionVars false
set_option linter.unusedSimpArgs false
namespace Go.Proofs.Ytcajnmhbkjngbaa.Mp
open Go.MapKept

section
variable {κ α : Type} [DecidableEq κ]
/-- What a list of pairs has at a key. -/
def get (L : List (κ × α)) (x : κ) : Option α := (L.find? (fun p => decide (p.1 = x))).map (·.2)
/-- The list behind a store. -/
def put (L : List (κ × α)) (x : κ) (a : α) : List (κ × α) :=
  if (get L x).isSome then L.map (fun p => if p.1 = x then (x, a) else p) else L ++ [(x, a)]
/-- The list behind a deletion. -/
def del (L : List (κ × α)) (x : κ) : List (κ × α) := L.filter (fun p => decide (p.1 ≠ x))

theorem get_nil (x : κ) : get ([] : List (κ × α)) x = none := rfl
theorem get_none_iff (L : List (κ × α)) (x : κ) : get L x = none ↔ ∀ p ∈ L, p.1 ≠ x := by
  simp [get, List.find?_eq_none]
theorem get_of_mem {L : List (κ × α)} (hn : (L.map (·.1)).Nodup) {x : κ} {a : α} (h : (x, a) ∈ L) : get L x = some a := by
  induction L with
  | nil => cases h
  | cons p L ih =>
    simp only [List.map_cons, List.nodup_cons, List.mem_map, not_exists, not_and] at hn
    by_cases e : p.1 = x
    · rcases List.mem_cons.1 h with rfl | h
      · simp [get]
      · exact absurd e.symm (by intro e'; exact hn.1 _ h e')
    · rcases List.mem_cons.1 h with rfl | h
      · exact absurd rfl e
      · have := ih hn.2 h
        simp only [get, List.find?_cons, e, decide_false] at this ⊢
        exact this
theorem mem_of_get {L : List (κ × α)} {x : κ} {a : α} (h : get L x = some a) : (x, a) ∈ L := by
  simp only [get, Option.map_eq_some_iff] at h
  obtain ⟨⟨y, b⟩, h1, rfl⟩ := h
  have h2 := List.find?_some h1
  simp only [decide_eq_true_eq] at h2
  subst h2
  exact List.mem_of_find?_eq_some h1
theorem get_append (L M : List (κ × α)) (x : κ) : get (L ++ M) x = (get L x).or (get M x) := by
  simp only [get, List.find?_append]
  cases L.find? (fun p => decide (p.1 = x)) <;> simp
theorem get_put (L : List (κ × α)) (x y : κ) (a : α) : get (put L x a) y = if y = x then some a else get L y := by
  unfold put
  by_cases hs : (get L x).isSome
  · rw [if_pos hs]
    induction L with
    | nil => simp [get] at hs
    | cons p L ih =>
      by_cases e : p.1 = x
      · subst e
        by_cases hy : y = p.1
        · subst hy; simp [get]
        · simp only [if_neg hy]
          have : ∀ M : List (κ × α), get (M.map (fun q => if q.1 = p.1 then (p.1, a) else q)) y = get M y := by
            intro M
            induction M with
            | nil => rfl
            | cons q M ihM =>
              by_cases e2 : q.1 = p.1
              · have e3 : ¬ q.1 = y := by rw [e2]; exact fun h => hy h.symm
                have e4 : ¬ p.1 = y := fun h => hy h.symm
                simp only [get, List.map_cons, e2, if_true, List.find?_cons, e4, decide_false] at ihM ⊢
                simpa [e2, e4] using ihM
              · simp only [get, List.map_cons, e2, if_false, List.find?_cons] at ihM ⊢
                by_cases e5 : q.1 = y <;> simp [e5] <;> simpa using ihM
          exact this (p :: L)
      · have hs' : (get L x).isSome := by simpa [get, e] using hs
        have := ih hs'
        by_cases hy : p.1 = y
        · subst hy
          simp [get, e]
        · simp only [get, List.map_cons, e, if_false, List.find?_cons, hy, decide_false] at this ⊢
          exact this
  · rw [if_neg hs, get_append]
    have hn : get L x = none := by simpa using hs
    by_cases hy : y = x
    · subst hy; rw [hn]; simp [get]
    · have : ¬ x = y := fun h => hy h.symm
      simp [get, this, hy]
theorem keys_put (L : List (κ × α)) (x : κ) (a : α) : (put L x a).map (·.1) = if (get L x).isSome then L.map (·.1) else L.map (·.1) ++ [x] := by
  unfold put
  split
  · rw [List.map_map]
    apply List.map_congr_left
    intro p _
    simp only [Function.comp]
    split
    · rename_i e; exact e.symm
    · rfl
  · simp
theorem nodup_put {L : List (κ × α)} (hn : (L.map (·.1)).Nodup) (x : κ) (a : α) : ((put L x a).map (·.1)).Nodup := by
  rw [keys_put]
  split
  · exact hn
  · rename_i hs
    have hg : get L x = none := by simpa using hs
    rw [get_none_iff] at hg
    rw [List.nodup_append]
    refine ⟨hn, by simp, ?_⟩
    intro k hk m hm
    simp only [List.mem_singleton] at hm
    subst hm
    obtain ⟨p, hp, rfl⟩ := List.mem_map.1 hk
    exact hg p hp
theorem nodup_del {L : List (κ × α)} (hn : (L.map (·.1)).Nodup) (x : κ) : ((del L x).map (·.1)).Nodup :=
  ((List.filter_sublist).map _).nodup hn
theorem get_del (L : List (κ × α)) (x y : κ) : get (del L x) y = if y = x then none else get L y := by
  induction L with
  | nil => simp [get, del]
  | cons p L ih =>
    by_cases e : p.1 = x
    · have : del (p :: L) x = del L x := by simp [del, e]
      rw [this, ih]
      by_cases hy : y = x
      · simp [hy]
      · have : ¬ p.1 = y := by rw [e]; exact fun h => hy h.symm
        simp [hy, get, this]
    · have : del (p :: L) x = p :: del L x := by simp [del, e]
      rw [this]
      by_cases hp : p.1 = y
      · subst hp; simp [get, e]
      · simp only [get, List.find?_cons, hp, decide_false] at ih ⊢
        exact ih

/-- Block b holds a map that reads as the list L of keys and values. -/
def MapIs (w : World) (b : Nat) (K : κ → Value) (V : α → Value) (L : List (κ × α)) : Prop :=
  ∃ es clk, w.heap[b]? = some (.map es clk) ∧ Stamped es clk ∧ es.toList.map (fun x => (x.key, x.val)) = L.map (fun p => (K p.1, V p.2))

variable {w : World} {b : Nat} {K : κ → Value} {V : α → Value} {L : List (κ × α)} {P : Program} {t k e : TypeId} {d : TypeDesc}

theorem MapIs.lt (h : MapIs w b K V L) : b < w.heap.size := by
  obtain ⟨es, clk, hb, _⟩ := h
  exact (Array.getElem?_eq_some_iff.1 hb).1
theorem MapIs.of_block {w' : World} (h : MapIs w b K V L) (hb : w'.heap[b]? = w.heap[b]?) : MapIs w' b K V L := by
  obtain ⟨es, clk, h1, h2⟩ := h
  exact ⟨es, clk, hb.trans h1, h2⟩
theorem MapIs.made (w : World) (K : κ → Value) (V : α → Value) : MapIs (w.alloc (.map #[] 0)) w.heap.size K V [] :=
  ⟨#[], 0, (MapKept.heap_alloc w _).1, stamped_empty 0, rfl⟩
theorem MapIs.nodup (h : MapIs w b K V L) : (L.map (·.1)).Nodup := by
  obtain ⟨es, clk, _, hs, hm⟩ := h
  have h3 := ((stamped_iff _ _).1 hs).2.2
  have : (es.toList.map (·.key)).Nodup := by rwa [List.Nodup, List.pairwise_map]
  have e1 : es.toList.map (·.key) = (L.map (·.1)).map K := by
    have := congrArg (List.map (·.1)) hm
    rw [List.map_map, List.map_map] at this
    rw [List.map_map]
    exact this
  rw [e1] at this
  exact List.Pairwise.of_map K (fun a b hne hab => hne (congrArg K hab)) this

theorem MapIs.find (h : MapIs w b K V L) (hK : ∀ x, IsKey d (K x)) (hi : ∀ x y, K x = K y → x = y) (x : κ) :
    ∃ es clk, w.heap[b]? = some (.map es clk) ∧ Stamped es clk ∧ es.toList.map (fun x => (x.key, x.val)) = L.map (fun p => (K p.1, V p.2)) ∧ (∀ x ∈ es.toList, IsKey d x.key) ∧
      ((Instr.findNow d (K x) es.toList 0 = some none ∧ get L x = none ∧ ∀ y ∈ es.toList, y.key ≠ K x) ∨
       ∃ j a, Instr.findNow d (K x) es.toList 0 = some (some (j, V a)) ∧ get L x = some a ∧ L[j]? = some (x, a) ∧ ∃ en, es[j]? = some en ∧ en.key = K x) := by
  have hn := h.nodup
  obtain ⟨es, clk, hb, hs, hm⟩ := h
  have hks : ∀ y ∈ es.toList, IsKey d y.key := by
    intro y hy
    have : (y.key, y.val) ∈ es.toList.map (fun x => (x.key, x.val)) := List.mem_map.2 ⟨y, hy, rfl⟩
    rw [hm] at this
    obtain ⟨p, _, hp⟩ := List.mem_map.1 this
    have := (Prod.mk.inj hp).1
    rw [← this]; exact hK _
  refine ⟨es, clk, hb, hs, hm, hks, ?_⟩
  rcases findNow_spec (hK x) es.toList 0 hks with ⟨h1, h2⟩ | ⟨j, en, h1, h2, h3⟩
  · refine .inl ⟨h1, (get_none_iff L x).2 ?_, h2⟩
    intro p hp hpx
    have : (K p.1, V p.2) ∈ L.map (fun p => (K p.1, V p.2)) := List.mem_map.2 ⟨p, hp, rfl⟩
    rw [← hm] at this
    obtain ⟨y, hy, hyp⟩ := List.mem_map.1 this
    exact h2 y hy ((Prod.mk.inj hyp).1.trans (by rw [hpx]))
  · have hj : (es.toList.map (fun x => (x.key, x.val)))[j]? = some (en.key, en.val) := by rw [List.getElem?_map, h2]; rfl
    rw [hm, List.getElem?_map] at hj
    obtain ⟨⟨y, a⟩, hy, hya⟩ := Option.map_eq_some_iff.1 hj
    have e1 : K y = en.key := (Prod.mk.inj hya).1
    have e2 : V a = en.val := (Prod.mk.inj hya).2
    have : y = x := hi _ _ (e1.trans h3)
    subst this
    refine .inr ⟨j, a, by rw [h1, e2, Nat.zero_add], get_of_mem hn (List.mem_of_getElem? hy), hy, en, by simpa using h2, h3⟩

/-- A lookup with 'ok'. -/
theorem MapIs.lookup_ok (h : MapIs w b K V L) (ht : P.underlying t = some (.map k e)) (hk : P.underlying k = some d) (hK : ∀ x, IsKey d (K x)) (hi : ∀ x y, K x = K y → x = y)
    {z : Value} (hz : (zeroValue e).run P w = .ok z w) (x : κ) :
    (Instr.lookup t (.map (some b)) (K x) true).run P w = .ok (.tuple #[((get L x).map V).getD z, .bool (get L x).isSome]) w := by
  obtain ⟨es, clk, hb, hs, hm, hks, ⟨h1, h2, _⟩ | ⟨j, a, h1, h2, _⟩⟩ := h.find hK hi x
  · simp [Instr.lookup, run_underlying ht, MapKept.run_getObj_map hb, MapKept.run_checkKey hk (hK x), MapKept.run_findKey hk h1, hz, h2, Result.andThen]
  · simp [Instr.lookup, run_underlying ht, MapKept.run_getObj_map hb, MapKept.run_checkKey hk (hK x), MapKept.run_findKey hk h1, h2, Result.andThen]
theorem MapIs.lookup (h : MapIs w b K V L) (ht : P.underlying t = some (.map k e)) (hk : P.underlying k = some d) (hK : ∀ x, IsKey d (K x)) (hi : ∀ x y, K x = K y → x = y)
    {z : Value} (hz : (zeroValue e).run P w = .ok z w) (x : κ) :
    (Instr.lookup t (.map (some b)) (K x) false).run P w = .ok (((get L x).map V).getD z) w := by
  obtain ⟨es, clk, hb, hs, hm, hks, ⟨h1, h2, _⟩ | ⟨j, a, h1, h2, _⟩⟩ := h.find hK hi x
  · simp [Instr.lookup, run_underlying ht, MapKept.run_getObj_map hb, MapKept.run_checkKey hk (hK x), MapKept.run_findKey hk h1, hz, h2, Result.andThen]
  · simp [Instr.lookup, run_underlying ht, MapKept.run_getObj_map hb, MapKept.run_checkKey hk (hK x), MapKept.run_findKey hk h1, h2, Result.andThen]

/-- The world with another object in a block. -/
def setB (w : World) (b : Nat) (o : Obj) : World := { w with heap := w.heap.setIfInBounds b o }
theorem heap_setB_ne (w : World) (b : Nat) (o : Obj) (c : Nat) (h : c ≠ b) : (setB w b o).heap[c]? = w.heap[c]? := by
  simp [setB, Ne.symm h]
theorem size_setB (w : World) (b : Nat) (o : Obj) : (setB w b o).heap.size = w.heap.size := by simp [setB]

/-- A store. -/
theorem MapIs.update (h : MapIs w b K V L) (ht : P.underlying t = some (.map k e)) (hk : P.underlying k = some d) (hK : ∀ x, IsKey d (K x)) (hi : ∀ x y, K x = K y → x = y) (x : κ) (a : α) :
    ∃ o, (Instr.mapUpdate t (.map (some b)) (K x) (V a)).run P w = .ok () (setB w b o) ∧ MapIs (setB w b o) b K V (put L x a) := by
  obtain ⟨es, clk, hb, hs, hm, hks, ⟨h1, h2, h3⟩ | ⟨j, a0, h1, h2, h3, en, h4, h5⟩⟩ := h.find hK hi x
  · refine ⟨.map (es.push ⟨K x, V a, clk⟩) (clk + 1), ?_, _, _, (heap_set hb).1, stamped_push hs h3, ?_⟩
    · simp [Instr.mapUpdate, run_underlying ht, MapKept.run_getObj_map hb, MapKept.run_checkKey hk (hK x), MapKept.run_findKey hk h1, MapKept.run_setObj_map _ hb, Result.andThen, setB]
    · simp [put, h2, hm]
  · have hkey : ∀ e', es[j]? = some e' → ({ e' with key := K x, val := V a } : MapEntry).key = e'.key := fun e' he' => by rw [h4] at he'; cases he'; exact h5.symm
    refine ⟨.map (es.modify j fun e => { e with key := K x, val := V a }) clk, ?_, _, _, (heap_set hb).1, stamped_modify hs _ _ (fun _ _ => rfl) (fun e' _ he' => hkey e' he'), ?_⟩
    · simp [Instr.mapUpdate, run_underlying ht, MapKept.run_getObj_map hb, MapKept.run_checkKey hk (hK x), MapKept.run_findKey hk h1, h4, h5, run_keyThatStays (hK x), MapKept.run_setObj_map _ hb, Result.andThen, setB]
    · have hn := (show MapIs w b K V L from ⟨es, clk, hb, hs, hm⟩).nodup
      rw [put, if_pos (by simp [h2])]
      apply List.ext_getElem?
      intro i
      have hmi := congrArg (fun l => l[i]?) hm
      simp only [List.getElem?_map, Array.getElem?_toList] at hmi
      simp only [List.getElem?_map, Array.getElem?_toList, Array.getElem?_modify, List.map_map]
      by_cases hij : j = i
      · subst hij
        simp [h4, h3]
      · rw [if_neg hij, hmi]
        cases hL : L[i]? with
        | none => simp
        | some p =>
          have hpx : p.1 ≠ x := by
            intro e
            have e1 : (L.map (·.1))[i]? = some x := by rw [List.getElem?_map, hL]; simp [e]
            have e2 : (L.map (·.1))[j]? = some x := by rw [List.getElem?_map, h3]; rfl
            have hlt : j < (L.map (·.1)).length := (List.getElem?_eq_some_iff.1 e2).1
            exact hij ((List.getElem?_inj hlt hn).1 (e2.trans e1.symm))
          simp [hpx]

theorem MapIs.len (h : MapIs w b K V L) : ∃ es clk, w.heap[b]? = some (.map es clk) ∧ es.size = L.length := by
  obtain ⟨es, clk, hb, hs, hm⟩ := h
  exact ⟨es, clk, hb, by have := congrArg List.length hm; simpa using this⟩
end
end Go.Proofs.Ytcajnmhbkjngbaa.Mp

/- Worlds that differ in named blocks alone. -/
namespace Go.Proofs.Ytcajnmhbkjngbaa
open Go.RowKit

/-- Of the blocks that lay in w only those of S may have turned. -/
structure Mut (S : Nat → Prop) (w w' : World) : Prop where
  os : w'.os = w.os
  tape : w'.tape = w.tape
  output : w'.output = w.output
  size : w.heap.size ≤ w'.heap.size
  block : ∀ k, k < w.heap.size → ¬ S k → w'.heap[k]? = w.heap[k]?
theorem Mut.refl (S : Nat → Prop) (w : World) : Mut S w w := ⟨rfl, rfl, rfl, Nat.le_refl _, fun _ _ _ => rfl⟩
theorem Mut.trans {S S' : Nat → Prop} {a b c : World} (h : Mut S a b) (k : Mut S' b c) (hs : ∀ i, S' i → S i ∨ a.heap.size ≤ i) : Mut S a c :=
  ⟨k.os.trans h.os, k.tape.trans h.tape, k.output.trans h.output, Nat.le_trans h.size k.size, fun i hi hn =>
    (k.block i (Nat.lt_of_lt_of_le hi h.size) (fun h2 => (hs i h2).elim hn (fun h3 => absurd hi (Nat.not_lt.2 h3)))).trans (h.block i hi hn)⟩
theorem Mut.then {S : Nat → Prop} {a b c : World} (h : Mut S a b) (k : Mut S b c) : Mut S a c := h.trans k fun _ => .inl
theorem Mut.mono {S S' : Nat → Prop} {a b : World} (h : Mut S a b) (hs : ∀ i, S i → S' i ∨ a.heap.size ≤ i) : Mut S' a b :=
  (Mut.refl S' a).trans h hs
theorem Mut.of_below {S : Nat → Prop} {w w' : World} (h : Below w.heap.size w w') : Mut S w w' := ⟨h.os, h.tape, h.output, h.size, fun k hk _ => h.block k hk⟩
theorem Mut.to_below {S : Nat → Prop} {B : Nat} {w w' : World} (h : Mut S w w') (hB : B ≤ w.heap.size) (hs : ∀ k, S k → B ≤ k) : Below B w w' :=
  ⟨h.os, h.tape, h.output, h.size, fun k hk => h.block k (Nat.lt_of_lt_of_le hk hB) (fun h2 => absurd hk (Nat.not_lt.2 (hs k h2)))⟩
theorem Mut.of_grown {S : Nat → Prop} {w w' : World} {r : Option Nat} (h : w.grownBy w' r) (hr : ∀ k, r = some k → S k ∨ w.heap.size ≤ k) : Mut S w w' :=
  ⟨h.os, h.tape, h.output, h.size, fun k hk hn => h.block k hk (fun e => (hr k e.symm).elim hn (fun h3 => absurd hk (Nat.not_lt.2 h3)))⟩
theorem Mut.setCell {S : Nat → Prop} (w : World) (b i : Nat) (v : Value) (hb : S b) : Mut S w (w.setCell ⟨b, i, none⟩ v) :=
  ⟨by simp [World.setCell], by simp [World.setCell], by simp [World.setCell], by simp, fun k _ hn => heap_setCell_other w ⟨b, i, none⟩ k v (fun e => hn (e ▸ hb))⟩
theorem Mut.setB {S : Nat → Prop} (w : World) (b : Nat) (o : Obj) (hb : S b) : Mut S w (Mp.setB w b o) :=
  ⟨rfl, rfl, rfl, by rw [Mp.size_setB]; exact Nat.le_refl _, fun k _ hn => Mp.heap_setB_ne w b o k (fun e => hn (e ▸ hb))⟩
theorem Mut.drewN {S : Nat → Prop} {w w' : World} (h : Mut S w w') (n : Nat) : Mut S w (w'.drewN n) := h.then ⟨rfl, rfl, rfl, Nat.le_refl _, fun _ _ _ => rfl⟩
theorem Mut.alloc {S : Nat → Prop} {w w' : World} (h : Mut S w w') (o : Obj) : Mut S w (w'.alloc o) := h.then (.of_below ((Below.refl _ _).alloc (Nat.le_refl _) o))
theorem Mut.cell {S : Nat → Prop} {w w' : World} (h : Mut S w w') {b i : Nat} (hb : b < w.heap.size) (hn : ¬ S b) : w'.cell? ⟨b, i, none⟩ = w.cell? ⟨b, i, none⟩ := World.cell?_of_block (h.block b hb hn)
theorem own_mut {S : Nat → Prop} {w w' : World} {base n size : Nat} {e : TypeId} {v : Value} {xs : List Value} (h : w.ownsRow base e size v n xs) (hm : Mut S w w') (hn : ∀ k, v.ownBlock = some k → ¬ S k) : w'.ownsRow base e size v n xs := by
  refine ⟨h.1, ?_⟩
  rcases h.2 with h1 | ⟨g, cap, cur, h1, h2, h3, h4⟩
  · exact .inl h1
  · exact .inr ⟨g, cap, cur, h1, h2, (hm.block g (Array.getElem?_eq_some_iff.1 h3).1 (hn g (by rw [h1]; rfl))).trans h3, h4⟩
end Go.Proofs.Ytcajnmhbkjngbaa

/- Worlds, rows of the call's own, reading: what the walks of regex, text and the law go by. -/
namespace Go.Proofs.Ytcajnmhbkjngbaa
open Go.RowKit Go.Shelf

theorem cell_of_heap {w : World} {b j : Nat} {cs : Array Value} {t : TypeId} {fr : Nat × Nat} {v : Value} (h : w.heap[b]? = some (.cells cs t fr)) (hv : cs[j]? = some v) : w.cell? ⟨b, j, none⟩ = some v := by
  unfold World.cell?
  rw [h]
  simpa using hv
theorem frozen_of_heap {w : World} {b : Nat} {cs : Array Value} {t : TypeId} (h : w.heap[b]? = some (.cells cs t (0, 0))) (i : Nat) : w.frozen? ⟨b, i, none⟩ = false := by simp [World.frozen?, h]
theorem lt_of_heap {w : World} {b : Nat} {o : Obj} (h : w.heap[b]? = some o) : b < w.heap.size := (Array.getElem?_eq_some_iff.1 h).1
theorem ne_ty {w : World} {b c : Nat} {cs ds : Array Value} {t u : TypeId} {fr gr : Nat × Nat} (h : w.heap[b]? = some (.cells cs t fr)) (k : w.heap[c]? = some (.cells ds u gr)) (hn : t ≠ u) : b ≠ c := fun e => by
  subst e
  rw [h] at k
  injection k with k
  injection k with _ k2
  exact hn k2
def ints (zs : List Int) : List Value := zs.map (Value.int .i64)
def i32s (zs : List Int) : List Value := zs.map (Value.int .i32)
theorem ownB {A : Option Addr} {n C k : Nat} (h : (Value.slice A n C).ownBlock = some k) : ∃ a, A = some a ∧ a.block = k := by
  cases A with
  | none => cases h
  | some a => exact ⟨a, rfl, by injection h⟩
theorem own_mut2 {S : Nat → Prop} {w w' : World} {base n C size : Nat} {e : TypeId} {A : Option Addr} {xs : List Value} (h : w.ownsRow base e size (.slice A n C) n xs) (hm : Mut S w w') (hn : ∀ a, A = some a → ¬ S a.block) : w'.ownsRow base e size (.slice A n C) n xs :=
  own_mut h hm fun k hk => by
    obtain ⟨a, ha, rfl⟩ := ownB hk
    exact hn a ha
theorem own_below {W W' : World} {base n C size : Nat} {e : TypeId} {A : Option Addr} {xs : List Value} (h : W.ownsRow base e size (.slice A n C) n xs) (hb : Below W.heap.size W W') : W'.ownsRow base e size (.slice A n C) n xs :=
  own_mut2 (S := fun _ => False) h (Mut.of_below hb) fun _ _ h => h
theorem own_slice {w : World} {b n size : Nat} {e : TypeId} {v : Value} {xs : List Value} (h : w.ownsRow b e size v n xs) : ∃ A C, v = .slice A n C := by
  rcases h.2 with ⟨h1, h2⟩ | ⟨g, cap, cur, h1, _⟩
  · exact ⟨none, 0, by rw [h1, h2]⟩
  · exact ⟨_, _, h1⟩
theorem bcell {W w1 : World} (hb : Below W.heap.size W w1) : (∀ b o, b < W.heap.size → w1.cell? ⟨b, o, none⟩ = W.cell? ⟨b, o, none⟩) ∧ (∀ b o, b < W.heap.size → w1.frozen? ⟨b, o, none⟩ = W.frozen? ⟨b, o, none⟩) :=
  ⟨fun b o h => hb.cell (p := ⟨b, o, none⟩) h, fun b o h => hb.frozen (p := ⟨b, o, none⟩) h⟩
theorem keep3 {W w1 : World} {b o : Nat} {v : Value} (hb : Below W.heap.size W w1) (h : W.cell? ⟨b, o, none⟩ = some v) : w1.cell? ⟨b, o, none⟩ = some v :=
  (hb.cell (p := ⟨b, o, none⟩) (World.block_lt_of_cell? W ⟨b, o, none⟩ h)).trans h
theorem keepf {W w1 : World} {b o : Nat} {v : Value} (hb : Below W.heap.size W w1) (h : W.cell? ⟨b, o, none⟩ = some v) (hf : W.frozen? ⟨b, o, none⟩ = false) : w1.frozen? ⟨b, o, none⟩ = false :=
  (hb.frozen (p := ⟨b, o, none⟩) (World.block_lt_of_cell? W ⟨b, o, none⟩ h)).trans hf
theorem heap2 (w : World) (o1 o2 : Obj) : ((w.alloc o1).alloc o2).heap[w.heap.size]? = some o1 ∧ ((w.alloc o1).alloc o2).heap[w.heap.size + 1]? = some o2 :=
  ⟨(Below.heap_alloc _ _ _ (by simp)).trans (heap_alloc_new w _), by have := heap_alloc_new (w.alloc o1) o2; rwa [World.size_alloc] at this⟩
theorem fin2 {w W : World} {B : Nat} (hb : Below B w W) (hB : w.heap.size ≤ B) (a b : Value) : Below w.heap.size w ((W.setCell ⟨w.heap.size, 0, none⟩ a).setCell ⟨w.heap.size, 1, none⟩ b) :=
  (hb.mono hB).trans (((Mut.setCell (S := (· = w.heap.size)) _ _ _ _ rfl).then (Mut.setCell (S := (· = w.heap.size)) _ _ _ _ rfl)).to_below hb.size fun k hk => by omega)
theorem below_dn {B : Nat} {a w : World} (h : Below B a w) (n : Nat) : Below B a (w.drewN n) := h.trans ⟨rfl, rfl, rfl, Nat.le_refl _, fun _ _ => rfl⟩
/-- A list of whole numbers that can be read. -/
def RdI (w : World) (A : Option Addr) (l : List Int) : Prop := ∀ j (h : j < l.length), ∃ g o, A = some ⟨g, o, none⟩ ∧ g < w.heap.size ∧ w.cell? ⟨g, o + j, none⟩ = some (.int .i64 (l[j]'h))
theorem RdI.mut {T : Nat → Prop} {w w' : World} {A : Option Addr} {l : List Int} (h : RdI w A l) (hm : Mut T w w') (hn : ∀ a, A = some a → ¬ T a.block) : RdI w' A l := fun j hj => by
  obtain ⟨g, o, h1, h2, h3⟩ := h j hj
  exact ⟨g, o, h1, Nat.lt_of_lt_of_le h2 hm.size, (hm.cell h2 (hn _ h1)).trans h3⟩
theorem RdI.below {w w' : World} {A : Option Addr} {l : List Int} (h : RdI w A l) (hb : Below w.heap.size w w') : RdI w' A l := h.mut (T := fun _ => False) (Mut.of_below hb) fun _ _ h => h
/-- A list of characters that can be read. -/
def RdR (w : World) (A : Option Addr) (l : List Int) : Prop := ∀ j (h : j < l.length), ∃ g, A = some ⟨g, 0, none⟩ ∧ g < w.heap.size ∧ w.cell? ⟨g, j, none⟩ = some (.int .i32 (l[j]'h))
theorem RdR.mut {T : Nat → Prop} {w w' : World} {A : Option Addr} {l : List Int} (h : RdR w A l) (hm : Mut T w w') (hn : ∀ a, A = some a → ¬ T a.block) : RdR w' A l := fun j hj => by
  obtain ⟨g, h1, h2, h3⟩ := h j hj
  exact ⟨g, h1, Nat.lt_of_lt_of_le h2 hm.size, (hm.cell h2 (hn _ h1)).trans h3⟩
theorem RdR.below {w w' : World} {A : Option Addr} {l : List Int} (h : RdR w A l) (hb : Below w.heap.size w w') : RdR w' A l := h.mut (T := fun _ => False) (Mut.of_below hb) fun _ _ h => h
/-- A cell of a row of the call's own. -/
theorem own_cell {w : World} {base n C size : Nat} {e : TypeId} {A : Option Addr} {xs : List Value} (h : w.ownsRow base e size (.slice A n C) n xs) (j : Nat) (hj : j < n * size) :
    ∃ g, A = some ⟨g, 0, none⟩ ∧ base ≤ g ∧ g < w.heap.size ∧ w.cell? ⟨g, j, none⟩ = xs[j]? ∧ w.frozen? ⟨g, j, none⟩ = false := by
  rcases h.2 with ⟨h1, h2⟩ | ⟨g, cap, cur, h1, h2, h3, h4, h5, h6, h7⟩
  · subst h2; rw [Nat.zero_mul] at hj; omega
  · injection h1 with e1 e2 e3
    refine ⟨g, e1, h2, lt_of_heap h3, ?_, frozen_of_heap h3 j⟩
    rw [← h7, List.getElem?_take_of_lt hj]
    unfold World.cell?
    rw [h3]
    simp
theorem RdI.of_own {w : World} {B n C : Nat} {A : Option Addr} {l : List Int} (h : w.ownsRow B 3 1 (.slice A n C) n (ints l)) : RdI w A l := fun j hj => by
  have hn : n = l.length := by have := h.1; simp [ints] at this; omega
  subst hn
  obtain ⟨g, h1, h2, h3, h4, _⟩ := own_cell h j (by omega)
  exact ⟨g, 0, h1, h3, by rw [Nat.zero_add, h4]; simp [ints, List.getElem?_eq_getElem hj]⟩
theorem RdR.of_own {w : World} {B n C : Nat} {A : Option Addr} {l : List Int} (h : w.ownsRow B 21 1 (.slice A n C) n (i32s l)) : RdR w A l := fun j hj => by
  have hn : n = l.length := by have := h.1; simp [i32s] at this; omega
  subst hn
  obtain ⟨g, h1, h2, h3, h4, _⟩ := own_cell h j (by omega)
  exact ⟨g, h1, h3, by rw [h4]; simp [i32s, List.getElem?_eq_getElem hj]⟩
/-- One element, laid in a block of its own, is appended to a row of the call's own. -/
theorem app_gen {t e : TypeId} {z : Value} {size bytes : Nat} (ht : Try.prog.underlying t = some (.slice e)) (hi : (Try.prog.info? e).map (fun i => (i.zero, i.size, i.bytes)) = some (some z, size, bytes)) (hzs : z.cells.size = size) (hsz : 0 < size) (hb100 : bytes ≤ 1000)
    {ops : Array Oper} {rest : List Oper} {o : Oper} {a : Act} {Q : Exit → Act → World → Prop} (hgd : o.guard = none) (s x : Operand)
    (ho : o.op = .call { callee := .builtin .append, args := #[s, x], argTypes := #[t, t] }) {w : World} (B : Nat) (A : Option Addr) (C n : Nat) (xs : List Value) (vs : Array Value)
    (hs : a.eval s = .slice A n C) (hown : w.ownsRow B e size (.slice A n C) n xs) {p : Nat} (hx : a.eval x = .slice (some ⟨p, 0, none⟩) 1 1) (hp : p = w.heap.size)
    (hv : vs.size = size) (h1 : ∀ u ∈ vs.toList, u.oneCell' = true) (hn : n ≤ 100000000) (hB : B ≤ w.heap.size)
    (h : ∀ A1 C1 w', w'.ownsRow B e size (.slice A1 (n + 1) C1) (n + 1) (xs ++ vs.toList) → Mut (fun k => ∃ a, A = some a ∧ a.block = k) w w' → (∀ a1, A1 = some a1 → (∃ a, A = some a ∧ a.block = a1.block) ∨ w.heap.size ≤ a1.block) → wpList Try.prog ops Q rest (a.put o.dst (.slice A1 (n + 1) C1)) w') :
    wpList Try.prog ops Q (o :: rest) a (w.alloc (.cells vs e)) := by
  subst hp
  obtain ⟨i0, hi0, hz0, hz1, hz2⟩ := info_parts hi
  have ba : Below w.heap.size w (w.alloc (.cells vs e)) := (Below.refl _ _).alloc (Nat.le_refl _) _
  refine wpList_append_own_at _ hgd s x t ho B e i0 z size bytes ht hi0 hz0 hz1 hz2 hzs hsz (.slice A n C) n xs hs (own_below hown ba) ⟨w.heap.size, 0, none⟩ 1 1 vs.toList hx (by simp [hv]) ?c1 h1 ?c2 ?c3 (Nat.le_trans hB ba.size) ?_
  case c1 => exact World.news_of_block (cs := vs) (t := e) (fr := (0, 0)) (heap_alloc_new w _)
  case c2 => simp only [maxLen]; omega
  case c3 => have := Nat.mul_le_mul (show n + 1 ≤ 100000001 by omega) hb100; omega
  intro v1 w1 hown1 hgrow _ hat
  obtain ⟨A1, C1, rfl⟩ := own_slice hown1
  refine h A1 C1 w1 hown1 ((Mut.of_below ba).then (Mut.of_grown hgrow fun k hk => .inl (ownB hk))) fun a1 ha1 => ?_
  subst ha1
  rcases hat with h5 | h5
  · exact .inl (ownB (h5.symm.trans rfl))
  · right
    have h5 : some a1.block = some (w.alloc (.cells vs e)).heap.size := h5
    injection h5 with h5
    rw [h5]
    exact ba.size
/-- One element, laid in a block of its own, is appended to a row of the call's own, in a region that draws. -/
theorem step_gen {t e : TypeId} {z : Value} {size bytes : Nat} (ht : Try.prog.underlying t = some (.slice e)) (hi : (Try.prog.info? e).map (fun i => (i.zero, i.size, i.bytes)) = some (some z, size, bytes)) (hzs : z.cells.size = size) (hsz : 0 < size) (hb100 : bytes ≤ 1000)
    {ops : Array Oper} {o : Oper} {a : Act} {K : Act → World → Prop} {Q : Exit → Act → World → Prop} {E : Prop} {w : World} (hgd : o.guard = none) (s x : Operand)
    (ho : o.op = .call { callee := .builtin .append, args := #[s, x], argTypes := #[t, t] }) (A : Option Addr) (C n : Nat) (xs : List Value) (vs : Array Value)
    (hs : a.eval s = .slice A n C) (hown : w.ownsRow 0 e size (.slice A n C) n xs) (q : Nat) (hx : a.eval x = .slice (some ⟨q, 0, none⟩) 1 1) (hq : w.heap[q]? = some (.cells vs e (0, 0)))
    (hv : vs.size = size) (h1 : ∀ u ∈ vs.toList, u.oneCell' = true) (hn : n ≤ 100000000)
    (h : ∀ A1 C1 w', Hid (w'.ownsRow 0 e size (.slice A1 (n + 1) C1) (n + 1) (xs ++ vs.toList)) → Hid (Mut (fun k => ∃ a, A = some a ∧ a.block = k) w w') → Hid (∀ a1, A1 = some a1 → (∃ a, A = some a ∧ a.block = a1.block) ∨ w.heap.size ≤ a1.block) → K (a.put o.dst (.slice A1 (n + 1) C1)) w') :
    if Region.wanted o (yielded ops a.tmps) = true then Oper.wp Try.prog o a w K Q else E := by
  obtain ⟨i0, hi0, hz0, hz1, hz2⟩ := info_parts hi
  refine step_append_lies w hgd s x t ho 0 e i0 z size bytes ht hi0 hz0 hz1 hz2 hzs hsz (.slice A n C) n xs hs hown ⟨q, 0, none⟩ 1 1 vs.toList hx (by simp [hv]) (World.news_of_block hq) h1 (by decide) ?c3 ?c4 (Nat.zero_le _) _ rfl ?_
  case c3 => simp only [maxLen]; omega
  case c4 => have := Nat.mul_le_mul (show n + 1 ≤ 100000001 by omega) hb100; omega
  intro g cap w' h2 h3 h4 _
  refine h _ cap w' (Lib.hid h2) (Lib.hid (Mut.of_grown h3 fun k hk => .inl (ownB hk))) (Lib.hid fun a1 ha1 => ?_)
  injection ha1 with ha1
  subst ha1
  rcases h4 with h5 | h5
  · exact .inl (ownB h5)
  · exact .inr (by simp [h5])
/-- The last of a row of the call's own is taken away; the first k are left. -/
theorem own_take {w : World} {B C n size k : Nat} {e : TypeId} {A : Option Addr} {xs : List Value} (h : w.ownsRow B e size (.slice A n C) n xs) (hk : k ≤ n) (h0 : 0 < n) : w.ownsRow B e size (.slice A k C) k (xs.take (k * size)) := by
  have hle : k * size ≤ n * size := Nat.mul_le_mul_right _ hk
  rcases h.2 with ⟨h1, h2⟩ | ⟨g, cap, cur, h1, h2, h3, h4, h5, h6, h7⟩
  · omega
  · injection h1 with e1 e2 e3
    subst e3
    refine ⟨by rw [List.length_take, h.1]; omega, .inr ⟨g, C, cur, by rw [e1], h2, h3, by omega, h5, h6, ?_⟩⟩
    rw [← h7, List.take_take, Nat.min_eq_left hle]
end Go.Proofs.Ytcajnmhbkjngbaa

/- The compiler in memory; its small methods. -/
namespace Go.Proofs.Ytcajnmhbkjngbaa
open Go.RowKit Go.Shelf

/-- An instruction in memory: with the address of its spans. -/
structure CI where
  r : RI
  sa : Option Addr
  sc : Nat
def CI.cells (x : CI) : List Value := [.int .i64 x.r.op, .int .i64 x.r.x, .int .i64 x.r.y, .slice x.sa x.r.spans.length x.sc, .bool x.r.inv]
def cellsL (c : List CI) : List Value := c.flatMap CI.cells
def riL (c : List CI) : List RI := c.map CI.r
theorem cellsL_len (c : List CI) : (cellsL c).length = c.length * 5 := by
  induction c with
  | nil => rfl
  | cons x c ih => simp only [cellsL, List.flatMap_cons, List.length_append, List.length_cons] at ih ⊢; rw [ih]; simp [CI.cells]; omega
theorem cellsL_append (a b : List CI) : cellsL (a ++ b) = cellsL a ++ cellsL b := by simp [cellsL]
theorem cellsL_get {c : List CI} {k : Nat} {x : CI} (h : c[k]? = some x) (j : Nat) (hj : j < 5) : (cellsL c)[k * 5 + j]? = x.cells[j]? := by
  induction c generalizing k with
  | nil => simp at h
  | cons y c ih =>
    have e : cellsL (y :: c) = y.cells ++ cellsL c := by simp [cellsL]
    have l5 : y.cells.length = 5 := rfl
    rw [e]
    cases k with
    | zero =>
      simp at h; subst h
      rw [List.getElem?_append_left (by omega)]; simp
    | succ k =>
      rw [List.getElem?_append_right (by omega), l5, show (k + 1) * 5 + j - 5 = k * 5 + j by omega]
      exact ih (by simpa using h)
theorem cellsL_take (c : List CI) (k : Nat) : (cellsL c).take (k * 5) = cellsL (c.take k) := by
  induction c generalizing k with
  | nil => simp [cellsL]
  | cons x c ih =>
    cases k with
    | zero => simp [cellsL]
    | succ k =>
      have e : cellsL (x :: c) = x.cells ++ cellsL c := by simp [cellsL]
      have e2 : cellsL ((x :: c).take (k + 1)) = x.cells ++ cellsL (c.take k) := by simp [cellsL]
      rw [e, e2, ← ih k, show (k + 1) * 5 = x.cells.length + k * 5 by simp [CI.cells]; omega, List.take_length_add_append]
/-- Spans that can be read. -/
structure RdP (w : World) (A : Option Addr) (l : List (Int × Int)) : Prop where
  rd : ∀ j (h : j < l.length), ∃ g, A = some ⟨g, 0, none⟩ ∧ g < w.heap.size ∧ w.cell? ⟨g, 2 * j, none⟩ = some (.int .i32 (l[j]'h).1) ∧ w.cell? ⟨g, 2 * j + 1, none⟩ = some (.int .i32 (l[j]'h).2)
  ty : ∀ a, A = some a → ∃ cur fr, w.heap[a.block]? = some (.cells cur 151 fr)
theorem RdP.mut {T : Nat → Prop} {w w' : World} {A : Option Addr} {l : List (Int × Int)} (h : RdP w A l) (hm : Mut T w w') (hn : ∀ a, A = some a → ¬ T a.block) : RdP w' A l := ⟨fun j hj => by
  obtain ⟨g, h1, h2, h3, h4⟩ := h.rd j hj
  exact ⟨g, h1, Nat.lt_of_lt_of_le h2 hm.size, (hm.cell h2 (hn _ h1)).trans h3, (hm.cell h2 (hn _ h1)).trans h4⟩, fun a ha => by
  obtain ⟨cur, fr, hc⟩ := h.ty a ha
  exact ⟨cur, fr, (hm.block _ (lt_of_heap hc) (hn a ha)).trans hc⟩⟩
theorem RdP.below {w w' : World} {A : Option Addr} {l : List (Int × Int)} (h : RdP w A l) (hb : Below w.heap.size w w') : RdP w' A l := h.mut (T := fun _ => False) (Mut.of_below hb) fun _ _ h => h
theorem RdP.nil (w : World) : RdP w none [] := ⟨fun _ h => absurd h (Nat.not_lt_zero _), fun a ha => by cases ha⟩
/-- What the compiler has: its place, depth and size, and the code. -/
structure CS where
  i : Nat
  d : Nat
  s : Nat
  code : List CI
/-- The compiler's text: where its characters and their places lie, and the places. -/
structure AT where
  l : List Int
  ch : Option Addr
  chC : Nat
  at_ : Option Addr
  atC : Nat
structure CA where
  cd : Option Addr
  cdC : Nat
def CA.cells (A : CA) (n : Nat) (ats : AT) (K : CS) : Array Value := #[.slice ats.ch n ats.chC, .slice ats.at_ ats.l.length ats.atC, .int .i64 (K.i : Nat), .int .i64 (K.d : Nat), .int .i64 (K.s : Nat), .slice A.cd K.code.length A.cdC]
/-- The compiler lies at cb; S: the blocks that it may change. -/
structure CpAt (w : World) (cb : Nat) (A : CA) (S : Nat → Prop) (cs : List Int) (ats : AT) (K : CS) : Prop where
  blk : w.heap[cb]? = some (.cells (A.cells cs.length ats K) 93 (0, 0))
  chs : RdR w ats.ch cs
  plc : RdI w ats.at_ ats.l
  own : w.ownsRow 0 99 5 (.slice A.cd K.code.length A.cdC) K.code.length (cellsL K.code)
  sp : ∀ x ∈ K.code, RdP w x.sa x.r.spans
  Sb : S cb
  Sc : ∀ a, A.cd = some a → S a.block
  Slt : ∀ k, S k → k < w.heap.size
  nch : ∀ a, ats.ch = some a → a.block < w.heap.size ∧ ¬ S a.block
  nat : ∀ a, ats.at_ = some a → a.block < w.heap.size ∧ ¬ S a.block
  nsp : ∀ x ∈ K.code, ∀ a, x.sa = some a → a.block < w.heap.size ∧ ¬ S a.block
variable {w w' : World} {cb : Nat} {A : CA} {S : Nat → Prop} {cs : List Int} {ats : AT} {K : CS}
/-- Where the code's row lies. -/
theorem CpAt.row (h : CpAt w cb A S cs ats K) (a : Addr) (ha : A.cd = some a) : ∃ cur, w.heap[a.block]? = some (.cells cur 99 (0, 0)) ∧ a = ⟨a.block, 0, none⟩ := by
  rcases h.own.2 with ⟨h1, h2⟩ | ⟨g, cap, cur, h1, h2, h3, _⟩
  · injection h1 with h1; rw [ha] at h1; cases h1
  · injection h1 with e1
    rw [ha] at e1
    injection e1 with e1
    subst e1
    exact ⟨cur, h3, rfl⟩
theorem CpAt.mut {T : Nat → Prop} (h : CpAt w cb A S cs ats K) (hm : Mut T w w') (hT : ∀ k, k < w.heap.size → T k → S k → False) (hch : ∀ a, ats.ch = some a → ¬ T a.block) (hat : ∀ a, ats.at_ = some a → ¬ T a.block) (hsp : ∀ x ∈ K.code, ∀ a, x.sa = some a → ¬ T a.block) : CpAt w' cb A S cs ats K where
  blk := (hm.block _ (lt_of_heap h.blk) fun e => hT _ (lt_of_heap h.blk) e h.Sb).trans h.blk
  chs := h.chs.mut hm hch
  plc := h.plc.mut hm hat
  own := own_mut2 h.own hm fun a ha e => hT _ (h.Slt _ (h.Sc a ha)) e (h.Sc a ha)
  sp := fun x hx => (h.sp x hx).mut hm (hsp x hx)
  Sb := h.Sb
  Sc := h.Sc
  Slt := fun k hk => Nat.lt_of_lt_of_le (h.Slt k hk) hm.size
  nch := fun a ha => ⟨Nat.lt_of_lt_of_le (h.nch a ha).1 hm.size, (h.nch a ha).2⟩
  nat := fun a ha => ⟨Nat.lt_of_lt_of_le (h.nat a ha).1 hm.size, (h.nat a ha).2⟩
  nsp := fun x hx a ha => ⟨Nat.lt_of_lt_of_le (h.nsp x hx a ha).1 hm.size, (h.nsp x hx a ha).2⟩
theorem CpAt.below (h : CpAt w cb A S cs ats K) (hb : Below w.heap.size w w') : CpAt w' cb A S cs ats K :=
  h.mut (T := fun _ => False) (Mut.of_below hb) (fun _ _ e _ => e) (fun _ _ e => e) (fun _ _ e => e) fun _ _ _ _ e => e
/-- Of the blocks that a call may change, some have turned: what the compiler does not own is as it was. -/
structure CpOld (w w' : World) (A : CA) (S : Nat → Prop) (cs : List Int) (ats : AT) (code : List CI) : Prop where
  chs : RdR w' ats.ch cs
  plc : RdI w' ats.at_ ats.l
  sp : ∀ x ∈ code, RdP w' x.sa x.r.spans
  nch : ∀ a, ats.ch = some a → a.block < w.heap.size ∧ ¬ S a.block
  nat : ∀ a, ats.at_ = some a → a.block < w.heap.size ∧ ¬ S a.block
  nsp : ∀ x ∈ code, ∀ a, x.sa = some a → a.block < w.heap.size ∧ ¬ S a.block
theorem CpAt.old (h : CpAt w cb A S cs ats K) (hm : Mut S w w') : CpOld w w' A S cs ats K.code where
  chs := h.chs.mut hm fun a ha => (h.nch a ha).2
  plc := h.plc.mut hm fun a ha => (h.nat a ha).2
  sp := fun x hx => (h.sp x hx).mut hm fun a ha => (h.nsp x hx a ha).2
  nch := h.nch
  nat := h.nat
  nsp := h.nsp
/-- A number of the compiler's is written. -/
theorem CpAt.set (h : CpAt w cb A S cs ats K) (j : Nat) (v : Value) (K' : CS) (hK : K'.code = K.code) (hc : (A.cells cs.length ats K).setIfInBounds j v = A.cells cs.length ats K') : CpAt (w.setCell ⟨cb, j, none⟩ v) cb A S cs ats K' := by
  have hm : Mut (· = cb) w (w.setCell ⟨cb, j, none⟩ v) := Mut.setCell w _ j v rfl
  have ho := h.old (hm.mono fun k hk => .inl (hk ▸ h.Sb))
  refine { blk := ?_, chs := ho.chs, plc := ho.plc, own := ?_, sp := by rw [hK]; exact ho.sp, Sb := h.Sb, Sc := h.Sc, Slt := fun k hk => Nat.lt_of_lt_of_le (h.Slt k hk) hm.size, nch := fun a ha => ⟨Nat.lt_of_lt_of_le (h.nch a ha).1 hm.size, (h.nch a ha).2⟩, nat := fun a ha => ⟨Nat.lt_of_lt_of_le (h.nat a ha).1 hm.size, (h.nat a ha).2⟩, nsp := by rw [hK]; exact fun x hx a ha => ⟨Nat.lt_of_lt_of_le (h.nsp x hx a ha).1 hm.size, (h.nsp x hx a ha).2⟩ }
  · rw [heap_setCell_same w cb j _ _ v h.blk, hc]
  · rw [hK]
    exact own_mut2 h.own hm fun a ha e => by
      obtain ⟨cur, hc, _⟩ := h.row a ha
      exact ne_ty hc h.blk (by decide) e
/-- The code has become another row, and its address is written into the compiler. -/
theorem CpAt.recode (h : CpAt w cb A S cs ats K) {w2 : World} {A1 : Option Addr} {C1 : Nat} {code : List CI} (hm : Mut (fun k => ∃ a, A.cd = some a ∧ a.block = k) w w2) (ho : w2.ownsRow 0 99 5 (.slice A1 code.length C1) code.length (cellsL code))
    (hl : ∀ a1, A1 = some a1 → (∃ a, A.cd = some a ∧ a.block = a1.block) ∨ w.heap.size ≤ a1.block) (hsp : ∀ x ∈ code, RdP w x.sa x.r.spans ∧ ∀ a, x.sa = some a → a.block < w.heap.size ∧ ¬ S a.block) :
    CpAt (w2.setCell ⟨cb, 5, none⟩ (.slice A1 code.length C1)) cb { A with cd := A1, cdC := C1 } (fun k => S k ∨ (k < w2.heap.size ∧ ∃ a, A1 = some a ∧ a.block = k)) cs ats { K with code := code } := by
  have hmS : Mut S w w2 := hm.mono fun k hk => by obtain ⟨a, ha, rfl⟩ := hk; exact .inl (h.Sc a ha)
  have hb2 : w2.heap[cb]? = some (.cells (A.cells cs.length ats K) 93 (0, 0)) := (hm.block cb (lt_of_heap h.blk) fun ⟨a, ha, e⟩ => by
    obtain ⟨cur, hc, _⟩ := h.row a ha
    exact ne_ty hc h.blk (by decide) e).trans h.blk
  have hs : Mut (· = cb) w2 (w2.setCell ⟨cb, 5, none⟩ (.slice A1 code.length C1)) := Mut.setCell _ _ _ _ rfl
  have hmm : Mut S w (w2.setCell ⟨cb, 5, none⟩ (.slice A1 code.length C1)) := hmS.then (hs.mono fun k hk => .inl (hk ▸ h.Sb))
  have hold := h.old hmm
  have hA1 : ∀ a, A1 = some a → a.block < w2.heap.size := fun a ha => by
    rcases ho.2 with ⟨h1, _⟩ | ⟨g, cap, cur, h1, _, h3, _⟩
    · injection h1 with h1; rw [ha] at h1; cases h1
    · injection h1 with h1; rw [ha] at h1; injection h1 with h1; rw [h1]; exact lt_of_heap h3
  have hfar : ∀ k, k < w.heap.size → ¬ S k → ¬ (S k ∨ (k < w2.heap.size ∧ ∃ a, A1 = some a ∧ a.block = k)) := fun k hk hn e => by
    rcases e with e | ⟨_, a, ha, e⟩
    · exact hn e
    · rcases hl a ha with ⟨b, hb, e2⟩ | e2
      · exact hn (by rw [← e, ← e2]; exact h.Sc b hb)
      · omega
  have hsz : w.heap.size ≤ (w2.setCell ⟨cb, 5, none⟩ (.slice A1 code.length C1)).heap.size := hmm.size
  refine { blk := ?_, chs := hold.chs, plc := hold.plc, own := ?_, sp := ?_, Sb := .inl h.Sb, Sc := fun a ha => .inr ⟨hA1 a ha, a, ha, rfl⟩, Slt := ?_, nch := fun a ha => ⟨Nat.lt_of_lt_of_le (h.nch a ha).1 hsz, hfar _ (h.nch a ha).1 (h.nch a ha).2⟩, nat := fun a ha => ⟨Nat.lt_of_lt_of_le (h.nat a ha).1 hsz, hfar _ (h.nat a ha).1 (h.nat a ha).2⟩, nsp := fun x hx a ha => ⟨Nat.lt_of_lt_of_le ((hsp x hx).2 a ha).1 hsz, hfar _ ((hsp x hx).2 a ha).1 ((hsp x hx).2 a ha).2⟩ }
  · rw [heap_setCell_same w2 cb 5 _ _ _ hb2]
    rfl
  · exact own_mut2 ho hs fun a ha e => by
      have ha : A1 = some a := ha
      rcases ho.2 with ⟨h1, _⟩ | ⟨g, cap, cur, h1, _, h3, _⟩
      · injection h1 with h1; rw [ha] at h1; cases h1
      · injection h1 with h1
        rw [ha] at h1
        injection h1 with h1
        subst h1
        exact ne_ty h3 hb2 (by decide) e
  · exact fun x hx => ((hsp x hx).1).mut hmm fun a ha => ((hsp x hx).2 a ha).2
  · rintro k (hk | ⟨hk, _⟩)
    · exact Nat.lt_of_lt_of_le (h.Slt k hk) hsz
    · exact Nat.lt_of_lt_of_le hk hs.size
/-- An instruction of the code is written in place. -/
theorem CpAt.upd (h : CpAt w cb A S cs ats K) {k j : Nat} {v : Value} {x : CI} (y : CI) (hk : K.code[k]? = some x) (hj : j < 5) (hy : x.cells.set j v = y.cells) (hs : y.sa = x.sa) (hs2 : y.r.spans = x.r.spans) :
    ∃ g, A.cd = some ⟨g, 0, none⟩ ∧ g < w.heap.size ∧ w.cell? ⟨g, k * 5 + j, none⟩ = x.cells[j]? ∧ w.frozen? ⟨g, k * 5 + j, none⟩ = false ∧ CpAt (w.setCell ⟨g, k * 5 + j, none⟩ v) cb A S cs ats { K with code := K.code.set k y } := by
  have hlt := (List.getElem?_eq_some_iff.1 hk).1
  obtain ⟨g, hA, _, hg, hcell, hfz⟩ := own_cell h.own (k * 5 + j) (by omega)
  rw [cellsL_get hk j hj] at hcell
  refine ⟨g, hA, hg, hcell, hfz, ?_⟩
  have hm : Mut (· = g) w (w.setCell ⟨g, k * 5 + j, none⟩ v) := Mut.setCell w _ _ v rfl
  have hmS : Mut S w (w.setCell ⟨g, k * 5 + j, none⟩ v) := hm.mono fun q hq => .inl (hq ▸ h.Sc _ hA)
  have ho := h.old hmS
  have hmem : ∀ z ∈ K.code.set k y, z ∈ K.code ∨ z = y := fun z hz => List.mem_or_eq_of_mem_set hz
  have hx : x ∈ K.code := List.mem_of_getElem? hk
  have hlen : (K.code.set k y).length = K.code.length := List.length_set
  obtain ⟨cur, hcur, _⟩ := h.row _ hA
  simp only at hcur
  refine { blk := ?_, chs := ho.chs, plc := ho.plc, own := ?_, sp := fun z hz => ?_, Sb := h.Sb, Sc := h.Sc, Slt := fun q hq => Nat.lt_of_lt_of_le (h.Slt q hq) hm.size, nch := fun a ha => ⟨Nat.lt_of_lt_of_le (h.nch a ha).1 hm.size, (h.nch a ha).2⟩, nat := fun a ha => ⟨Nat.lt_of_lt_of_le (h.nat a ha).1 hm.size, (h.nat a ha).2⟩, nsp := fun z hz a ha => ?_ }
  · have e : A.cells cs.length ats { K with code := K.code.set k y } = A.cells cs.length ats K := by unfold CA.cells; simp only [hlen]
    rw [e]
    exact (hm.block _ (lt_of_heap h.blk) fun e => ne_ty hcur h.blk (by decide) e.symm).trans h.blk
  · show World.ownsRow _ 0 99 5 (.slice A.cd (K.code.set k y).length A.cdC) (K.code.set k y).length (cellsL (K.code.set k y))
    rw [hlen]
    have e : cellsL (K.code.set k y) = (cellsL K.code).set (k * 5 + j) v := by
      apply List.ext_getElem?
      intro q
      rw [List.getElem?_set]
      have hq5 : q = q / 5 * 5 + q % 5 := by omega
      by_cases hql : q / 5 < K.code.length
      · have h1 : K.code[q / 5]? = some (K.code[q / 5]'hql) := List.getElem?_eq_getElem hql
        have h2 : (cellsL K.code)[q]? = (K.code[q / 5]'hql).cells[q % 5]? := by have := cellsL_get h1 (q % 5) (by omega); rwa [← hq5] at this
        by_cases e1 : q / 5 = k
        · have h3 : (K.code.set k y)[q / 5]? = some y := by rw [e1, List.getElem?_set, if_pos rfl, if_pos hlt]
          have h4 : (cellsL (K.code.set k y))[q]? = y.cells[q % 5]? := by have := cellsL_get h3 (q % 5) (by omega); rwa [← hq5] at this
          rw [h4, ← hy, List.getElem?_set, h2]
          have ex : K.code[q / 5]'hql = x := by rw [← e1] at hk; rw [h1] at hk; injection hk
          rw [ex]
          have l5 : x.cells.length = 5 := rfl
          have lc := cellsL_len K.code
          by_cases e2 : j = q % 5
          · rw [if_pos e2, if_pos (by omega), if_pos (by omega), if_pos (by omega)]
          · rw [if_neg e2, if_neg (by omega)]
        · have h3 : (K.code.set k y)[q / 5]? = some (K.code[q / 5]'hql) := by rw [List.getElem?_set, if_neg (fun e => e1 e.symm)]; exact h1
          have h4 : (cellsL (K.code.set k y))[q]? = (K.code[q / 5]'hql).cells[q % 5]? := by have := cellsL_get h3 (q % 5) (by omega); rwa [← hq5] at this
          rw [h4, h2, if_neg (by omega)]
      · have lc := cellsL_len K.code
        have lc2 := cellsL_len (K.code.set k y)
        rw [hlen] at lc2
        rw [List.getElem?_eq_none (by omega), if_neg (by omega), List.getElem?_eq_none (by omega)]
    rw [e]
    rcases h.own.2 with ⟨h1, h2⟩ | ⟨g', cap, cur', h1, h2, h3, h4, h5, h6, h7⟩
    · omega
    · injection h1 with e1 e2 e3
      rw [hA] at e1
      injection e1 with e1
      injection e1 with e1
      subst e1
      refine ⟨by rw [List.length_set]; exact h.own.1, .inr ⟨g, cap, cur'.setIfInBounds (k * 5 + j) v, by rw [hA, e3], h2, heap_setCell_same w g _ _ _ v h3, h4, h5, by rw [Array.size_setIfInBounds]; exact h6, ?_⟩⟩
      rw [Array.toList_setIfInBounds, ← h7, List.take_set]
  · rcases hmem z hz with e | rfl
    · exact ho.sp z e
    · rw [hs, hs2]; exact ho.sp x hx
  · have h1 : a.block < w.heap.size ∧ ¬ S a.block := by
      rcases hmem z hz with e | rfl
      · exact h.nsp z e a ha
      · rw [hs] at ha; exact h.nsp x hx a ha
    exact ⟨Nat.lt_of_lt_of_le h1.1 hm.size, h1.2⟩
/-- What a call leaves: the compiler at the same place. -/
def CPo (w : World) (cb : Nat) (S : Nat → Prop) (cs : List Int) (ats : AT) (K' : CS) (w' : World) : Prop := ∃ A' S', CpAt w' cb A' S' cs ats K' ∧ Mut S w w' ∧ ∀ k, S' k → S k ∨ w.heap.size ≤ k
theorem CPo.same (h : CpAt w' cb A S cs ats K) (hm : Mut S w w') : CPo w cb S cs ats K w' := ⟨A, S, h, hm, fun _ => .inl⟩
theorem CPo.refl (h : CpAt w cb A S cs ats K) : CPo w cb S cs ats K w := .same h (Mut.refl _ _)
/-- The fault on its way. -/
abbrev thrown (a c : Int) : Ending := .panicked [{ v := .iface 30 (.agg #[.int .i64 a, .int .i64 c]), recovered := false }]
/-- The compiler's cells, for a walk. -/
def CCells (w : World) (cb : Nat) (A : CA) (n : Nat) (ats : AT) (K : CS) : Prop := w.cell? ⟨cb, 0, none⟩ = some (.slice ats.ch n ats.chC) ∧ w.cell? ⟨cb, 1, none⟩ = some (.slice ats.at_ ats.l.length ats.atC) ∧ w.cell? ⟨cb, 2, none⟩ = some (.int .i64 (K.i : Nat)) ∧ w.cell? ⟨cb, 3, none⟩ = some (.int .i64 (K.d : Nat)) ∧ w.cell? ⟨cb, 4, none⟩ = some (.int .i64 (K.s : Nat)) ∧ w.cell? ⟨cb, 5, none⟩ = some (.slice A.cd K.code.length A.cdC) ∧ ∀ i, w.frozen? ⟨cb, i, none⟩ = false
theorem CpAt.cells (h : CpAt w cb A S cs ats K) : CCells w cb A cs.length ats K := ⟨cell_of_heap h.blk rfl, cell_of_heap h.blk rfl, cell_of_heap h.blk rfl, cell_of_heap h.blk rfl, cell_of_heap h.blk rfl, cell_of_heap h.blk rfl, fun i => frozen_of_heap h.blk i⟩

theorem more_calls (h : CpAt w cb A S cs ats K) {b : Bool} (hb : decide (K.i < cs.length) = b) : Calls Try.prog 82 #[.pointer (some ⟨cb, 0, none⟩)] w fun e w' => e = .returned (.bool b) ∧ ∃ n, w' = w.drewN n := by
  obtain ⟨c0, c1, c2, c3, c4, c5, hf⟩ := h.cells
  have HB := Lib.hid hb
  clear h hb
  generalize K.i = i at *
  generalize cs.length = n at *
  go_enter Try.func82, Try.ntmps82
  go_wp2
  go_quiet (fail)
  go_wp2
  go_ret
  exact ⟨by rw [← HB.out]; rfl, _, rfl⟩
theorem fail_calls (h : CpAt w cb A S cs ats K) (code : Int) {i : Nat} {p : Int} (hi : ats.l[i]? = some p) : Calls Try.prog 97 #[.pointer (some ⟨cb, 0, none⟩), .int .i64 code, .int .i64 (i : Nat)] w fun e w' => e = thrown p code ∧ w = w' := by
  obtain ⟨c0, c1, c2, c3, c4, c5, hf⟩ := h.cells
  obtain ⟨hlt, rfl⟩ := List.getElem?_eq_some_iff.1 hi
  obtain ⟨g, o, hA, hg, c6⟩ := h.plc i hlt
  rw [hA] at c1
  have q : (i : Int) < (ats.l.length : Int) := by omega
  clear h hi hA c0 c2 c3 c4 c5
  generalize ats.l[i] = p at *
  generalize ats.l.length = n at *
  go_enter Try.func97, Try.ntmps97
  go_wp2
  exact ⟨rfl, rfl, rfl⟩
theorem escaped_calls (c : Int) (w : World) : Calls Try.prog 116 #[.int .i32 c] w fun e w' => e = .returned (.int .i32 (escC c)) ∧ w = w' := by
  unfold escC
  by_cases h1 : c = 110
  · subst h1
    go_enter Try.func116, Try.ntmps116
    go_wp2
    go_ret
    exact ⟨rfl, rfl⟩
  · by_cases h2 : c = 116
    · subst h2
      go_enter Try.func116, Try.ntmps116
      go_wp2
      go_ret
      exact ⟨rfl, rfl⟩
    · rw [if_neg h1, if_neg h2]
      go_enter Try.func116, Try.ntmps116
      go_wp2
      go_ret
      exact ⟨rfl, rfl⟩
theorem next_end (h : CpAt w cb A S cs ats K) {p : Int} (hi : cs.length ≤ K.i) (hp : ats.l[K.i]? = some p) : Calls Try.prog 100 #[.pointer (some ⟨cb, 0, none⟩)] w fun e w' => e = thrown p 16 ∧ Mut S w w' := by
  obtain ⟨c0, c1, c2, c3, c4, c5, hf⟩ := h.cells
  have H1 := Lib.hid (more_calls h (b := false) (decide_eq_false (by omega)))
  have H2 : Hid (∀ n, Calls Try.prog 97 #[.pointer (some ⟨cb, 0, none⟩), .int .i64 16, .int .i64 (K.i : Nat)] (w.drewN n) fun e w' => e = thrown p 16 ∧ w.drewN n = w') := Lib.hid fun n => fail_calls (h.below (below_dn (Below.refl _ _) n)) 16 hp
  clear h hi hp
  go_enter Try.func100, Try.ntmps100
  go_wp2_with (first
    | (go_at_call 82; refine H1.out.mono ?_; rintro e w1 ⟨rfl, n, rfl⟩)
    | (go_at_call 97; refine (H2.out n).mono ?_; rintro e w2 ⟨rfl, rfl⟩))
  exact ⟨rfl, rfl, (Mut.refl _ _).drewN n⟩
theorem next_ok (h : CpAt w cb A S cs ats K) {c : Int} (hi : cs[K.i]? = some c) (hl : cs.length ≤ 100000) : Calls Try.prog 100 #[.pointer (some ⟨cb, 0, none⟩)] w fun e w' => e = .returned (.int .i32 c) ∧ CpAt w' cb A S cs ats { K with i := K.i + 1 } ∧ Mut (· = cb) w w' := by
  obtain ⟨c0, c1, c2, c3, c4, c5, hf⟩ := h.cells
  obtain ⟨hlt, rfl⟩ := List.getElem?_eq_some_iff.1 hi
  have H1 := Lib.hid (more_calls h (b := true) (decide_eq_true hlt))
  have H2 : Hid (∀ n m, CpAt (((w.drewN n).setCell ⟨cb, 2, none⟩ (.int .i64 ((K.i : Int) + 1))).drewN m) cb A S cs ats { K with i := K.i + 1 }) := Lib.hid fun n m => ((h.below (below_dn (Below.refl _ _) n)).set 2 _ { K with i := K.i + 1 } rfl rfl).below (below_dn (Below.refl _ _) m)
  have H3 : Hid (∀ n m, Mut (· = cb) w (((w.drewN n).setCell ⟨cb, 2, none⟩ (.int .i64 ((K.i : Int) + 1))).drewN m)) := Lib.hid fun n m => ((((Mut.refl (· = cb) _).drewN n).then (Mut.setCell _ _ _ _ rfl)).drewN m)
  obtain ⟨g, hA, hg, c6⟩ := h.chs K.i hlt
  have hne : g ≠ cb := fun e => (h.nch _ hA).2 (e ▸ h.Sb)
  rw [hA] at c0
  have q1 : (K.i : Int) < (cs.length : Int) := by omega
  have q2 : (cs.length : Int) ≤ 100000 := by omega
  clear h hi hA c1 c3 c4 c5 hl
  generalize cs[K.i] = c at *
  go_enter Try.func100, Try.ntmps100
  go_wp2_with (first
    | (go_at_call 82; refine H1.out.mono ?_; rintro e w1 ⟨rfl, n, rfl⟩))
  go_quiet (fail)
  go_wp2
  go_ret
  exact ⟨rfl, H2.out n nq, H3.out n nq⟩
end Go.Proofs.Ytcajnmhbkjngbaa

