/- What the calls do to the heap's counts. -/
import Derived.Test.YtodfpclekihbhaaL2
namespace Go.Proofs.Ytodfpclekihbhaa

theorem seeH_objs (H : Hp) (r : Int) : (seeH H r).objs = H.objs := by unfold seeH; split <;> rfl
theorem seeH_rows (H : Hp) (r : Int) : (seeH H r).rows = H.rows := by unfold seeH; split <;> rfl
theorem seeH_last (H : Hp) (r : Int) : (seeH H r).last = H.last := by unfold seeH; split <;> rfl
theorem Inv.same {H G : Hp} {st : List Int} (h : Inv H st) (h1 : G.objs = H.objs) (h2 : G.rows = H.rows) (h3 : G.last = H.last) : Inv G st := by
  have e : inH G = inH H := by funext x; unfold inH; rw [h1, h2]
  refine ⟨?_, ?_, ?_, ?_, ?_, ?_, ?_, ?_⟩
  · rw [h1]; exact h.ndO
  · rw [h2]; exact h.ndR
  · rw [h1, h3]; exact h.rng
  · rw [h1, e]; exact h.cnt
  · rw [h1]; exact h.pos
  · rw [h1, e]; exact h.ref
  · rw [h1, h2]; exact h.row
  · rw [h1, h2]; exact h.arr
theorem Inv.see {H : Hp} {st : List Int} (h : Inv H st) (r : Int) : Inv (seeH H r) st := h.same (seeH_objs H r) (seeH_rows H r) (seeH_last H r)
theorem seeAll_objs (H : Hp) (l : List Int) : (seeAll H l).objs = H.objs := by
  induction l generalizing H with
  | nil => rfl
  | cons x l ih => exact (ih (seeH H x)).trans (seeH_objs H x)
theorem seeAll_rows (H : Hp) (l : List Int) : (seeAll H l).rows = H.rows := by
  induction l generalizing H with
  | nil => rfl
  | cons x l ih => exact (ih (seeH H x)).trans (seeH_rows H x)
theorem seeAll_last (H : Hp) (l : List Int) : (seeAll H l).last = H.last := by
  induction l generalizing H with
  | nil => rfl
  | cons x l ih => exact (ih (seeH H x)).trans (seeH_last H x)
theorem Inv.perm {H : Hp} {st st' : List Int} (h : Inv H st) (hp : ∀ x, x ≠ 0 → st'.count x = st.count x) : Inv H st' :=
  { h with
    cnt := fun r o ho => by
      have := (h.rng r o ho).1
      rw [hp r (by omega)]; exact h.cnt r o ho
    ref := fun r h0 hr => by rw [hp r h0]; exact h.ref r h0 hr }
/-- The objects turn at one place, in what is no reference. -/
theorem Inv.upd {H : Hp} {r : Int} {o : Ob} {st st' : List Int} (h : Inv H st) (ho : Mp.get H.objs r = some o) (f : Ob → Ob) (f1 : ∀ y, (f y).tail = y.tail) (f2 : ∀ y, (f y).row = y.row) (f3 : ∀ y, (f y).kind = y.kind)
    (hc : (f o).rc = ((inH H r + st'.count r : Nat) : Int)) (hp : 0 ≤ (f o).holds ∧ 1 ≤ (f o).holds + (f o).rc) (hs : ∀ x, x ≠ 0 → x ≠ r → st'.count x = st.count x) : Inv (H.upd r f) st' := by
  have hI : ∀ x, inH (H.upd r f) x = inH H x := fun x => inH_upd H r f f1 x
  have hg : ∀ x y, Mp.get (H.upd r f).objs x = some y → ∃ y0, Mp.get H.objs x = some y0 ∧ (x = r → y = f y0) ∧ (x ≠ r → y = y0) := fun x y hy => by
    rw [get_upd] at hy
    by_cases e : x = r
    · subst e
      rw [if_pos rfl, ho] at hy
      injection hy with hy
      exact ⟨o, ho, fun _ => hy.symm, fun h => absurd rfl h⟩
    · rw [if_neg e] at hy
      exact ⟨y, hy, fun h => absurd h e, fun _ => rfl⟩
  refine ⟨?_, h.ndR, ?_, ?_, ?_, ?_, ?_, ?_⟩
  · show ((mapAt H.objs r f).map (·.1)).Nodup
    rw [keys_mapAt]
    exact h.ndO
  · intro x y hy
    obtain ⟨y0, h1, _⟩ := hg x y hy
    exact h.rng x y0 h1
  · intro x y hy
    obtain ⟨y0, h1, h2, h3⟩ := hg x y hy
    have h4 := h.cnt x y0 h1
    have h5 := (h.rng x y0 h1).1
    rw [hI]
    by_cases e : x = r
    · subst e
      rw [ho] at h1
      injection h1 with h1
      rw [h2 rfl, ← h1]; exact hc
    · rw [h3 e, hs x (by omega) e]; exact h4
  · intro x y hy
    obtain ⟨y0, h1, h2, h3⟩ := hg x y hy
    by_cases e : x = r
    · subst e
      rw [ho] at h1
      injection h1 with h1
      rw [h2 rfl, ← h1]; exact hp
    · rw [h3 e]; exact h.pos x y0 h1
  · intro x h0 hx
    have hx' : Mp.get H.objs x = none ∧ x ≠ r := by
      rw [get_upd] at hx
      by_cases e : x = r
      · subst e; rw [if_pos rfl, ho] at hx; cases hx
      · exact ⟨by rwa [if_neg e] at hx, e⟩
    rw [hI, hs x h0 hx'.2]
    exact h.ref x h0 hx'.1
  · intro x y hy
    obtain ⟨y0, h1, h2, h3⟩ := hg x y hy
    obtain ⟨z, g1, g2, g3⟩ := h.row x y0 h1
    by_cases e : x = r
    · rw [h2 e, f1, f2, f3]; exact ⟨z, g1, g2, g3⟩
    · rw [h3 e]; exact ⟨z, g1, g2, g3⟩
  · intro k x hx
    rw [show arrC (H.upd r f).objs k = arrC H.objs k from arrC_mapAt _ _ _ _ f2]
    exact h.arr k x hx
theorem count_cons' (x r : Int) (st : List Int) : (r :: st).count x = (if x = r then 1 else 0) + st.count x := by
  rw [show r :: st = [r] ++ st from rfl, List.count_append, count_one]
theorem Inv.refer {H : Hp} {r : Int} {o : Ob} {st : List Int} (h : Inv H st) (ho : Mp.get H.objs r = some o) : Inv (H.upd r Ob.inc) (r :: st) := by
  have h1 := h.cnt r o ho
  have h2 := h.pos r o ho
  refine h.upd ho Ob.inc (fun _ => rfl) (fun _ => rfl) (fun _ => rfl) ?_ ?_ ?_
  · rw [count_cons', if_pos rfl]; show o.rc + 1 = _; omega
  · exact ⟨h2.1, by show 1 ≤ o.holds + (o.rc + 1); omega⟩
  · intro x _ e; rw [count_cons', if_neg e]; omega
theorem Inv.referH {H : Hp} {r : Int} {st : List Int} (h : Inv H st) (ho : r = 0 ∨ Mp.get H.objs r ≠ none) : Inv (referH H r) (r :: st) := by
  unfold Go.Proofs.Ytodfpclekihbhaa.referH
  by_cases h0 : r = 0
  · rw [if_pos h0]
    exact h.perm fun x hx => by rw [count_cons', if_neg (by rw [h0]; exact hx)]; omega
  · rw [if_neg h0]
    cases hg : Mp.get H.objs r with
    | none => exact absurd hg (ho.resolve_left h0)
    | some o => exact h.refer hg
theorem Inv.hold {H : Hp} {r : Int} {o : Ob} {st : List Int} (h : Inv H st) (ho : Mp.get H.objs r = some o) : Inv (H.upd r Ob.hold) st := by
  have h1 := h.cnt r o ho
  have h2 := h.pos r o ho
  exact h.upd ho Ob.hold (fun _ => rfl) (fun _ => rfl) (fun _ => rfl) h1 ⟨by show 0 ≤ o.holds + 1; omega, by show 1 ≤ o.holds + 1 + o.rc; omega⟩ fun _ _ _ => rfl
theorem Inv.drop {H : Hp} {r : Int} {o : Ob} {st : List Int} (h : Inv H st) (ho : Mp.get H.objs r = some o) (h0 : o.holds ≠ 0) (hc : o.holds - 1 + o.rc ≠ 0) : Inv (H.upd r Ob.drop) st := by
  have h1 := h.cnt r o ho
  have h2 := h.pos r o ho
  exact h.upd ho Ob.drop (fun _ => rfl) (fun _ => rfl) (fun _ => rfl) h1 ⟨by show 0 ≤ o.holds - 1; omega, by show 1 ≤ o.holds - 1 + o.rc; omega⟩ fun _ _ _ => rfl
theorem mapAt_mapAt {α : Type} (L : List (Int × α)) (r : Int) (f g : α → α) : mapAt (mapAt L r f) r g = mapAt L r (g ∘ f) := by
  unfold mapAt
  rw [List.map_map]
  apply List.map_congr_left
  intro p _
  simp only [Function.comp]
  by_cases e : p.1 = r
  · simp [e]
  · simp [e]
/-- An object that is held no more, and whose count is 0, is freed. -/
theorem Inv.drop0 {H : Hp} {r : Int} {o : Ob} {st : List Int} (h : Inv H st) (ho : Mp.get H.objs r = some o) (h0 : o.holds ≠ 0) (hc : o.holds - 1 + o.rc = 0) : Inv (freeH (H.upd r Ob.drop) r o).1 ((freeH (H.upd r Ob.drop) r o).2.reverse ++ st) := by
  have h1 := h.cnt r o ho
  have h2 := h.pos r o ho
  let f : Ob → Ob := fun o => { o with holds := o.holds - 1, rc := o.rc + 1 }
  have hI : Inv (H.upd r f) (r :: st) := by
    refine h.upd ho f (fun _ => rfl) (fun _ => rfl) (fun _ => rfl) ?_ ⟨?_, ?_⟩ ?_
    · rw [count_cons', if_pos rfl]; show o.rc + 1 = _; omega
    · show 0 ≤ o.holds - 1; omega
    · show 1 ≤ o.holds - 1 + (o.rc + 1); omega
    · intro x _ e; rw [count_cons', if_neg e]; omega
  have ho' : Mp.get (H.upd r f).objs r = some (f o) := by rw [get_upd, if_pos rfl, ho]; rfl
  have h3 := hI.free ho' (by show o.holds - 1 + (o.rc + 1 - 1) = 0; omega)
  have e1 : (H.upd r f).upd r Ob.dec = H.upd r Ob.drop := by
    unfold Hp.upd
    simp only [mapAt_mapAt]
    congr 2
    funext y
    show Ob.dec (f y) = Ob.drop y
    unfold Ob.dec Ob.drop
    simp only [f]
    congr 1
    omega
  rw [e1] at h3
  exact h3
theorem del_mapAt {α : Type} (L : List (Int × α)) (k : Int) (f : α → α) : Mp.del (mapAt L k f) k = Mp.del L k := by
  unfold Mp.del mapAt
  rw [List.filter_map]
  have : ((fun p : Int × α => decide (p.1 ≠ k)) ∘ fun p => if p.1 = k then (p.1, f p.2) else p) = fun p => decide (p.1 ≠ k) := by
    funext p
    simp only [Function.comp]
    split <;> rfl
  rw [this]
  conv => rhs; rw [← List.map_id (List.filter _ _)]
  apply List.map_congr_left
  intro p hp
  have : p.1 ≠ k := by simpa using (List.mem_filter.1 hp).2
  rw [if_neg this]; rfl
theorem refsOf_append (a b : List Wd) : refsOf (a ++ b) = refsOf a ++ refsOf b := by
  unfold refsOf
  rw [List.map_append, List.filter_append]
theorem refsOf_one (x : Wd) : refsOf [x] = if x.ref = 0 then [] else [x.ref] := by
  unfold refsOf
  by_cases e : x.ref = 0 <;> simp [e]
theorem count_set (l : List Wd) (i : Nat) (w : Wd) (x : Int) (hx : x ≠ 0) (h : i < l.length) : (refsOf (l.set i w)).count x + (if x = (l[i]'h).ref then 1 else 0) = (refsOf l).count x + (if x = w.ref then 1 else 0) := by
  have key : ∀ w : Wd, (refsOf (l.set i w)).count x = (refsOf (l.take i)).count x + (if x = w.ref then 1 else 0) + (refsOf (l.drop (i + 1))).count x := fun w => by
    rw [List.set_eq_take_append_cons_drop, if_pos h, show w :: l.drop (i + 1) = [w] ++ l.drop (i + 1) from rfl, refsOf_append, refsOf_append, List.count_append, List.count_append, refsOf_one]
    by_cases e : w.ref = 0
    · rw [if_pos e, if_neg (by rw [e]; exact hx)]; simp
    · rw [if_neg e, count_one]; omega
  have k1 := key w
  have k2 := key (l[i]'h)
  rw [List.set_getElem_self] at k2
  omega
theorem refAt_eq {H : Hp} {k : Int} {y : Rw} (hy : Mp.get H.rows k = some y) (i : Nat) (h : i < y.words.length) : refAt H k i = (y.words[i]'h).ref := by
  unfold refAt Hp.rowOf
  rw [hy]
  simp [h]
/-- A word is replaced whose new reference has been counted: the old one is to be taken away. -/
theorem Inv.setW {H : Hp} {k : Int} {i : Nat} {w : Wd} {st : List Int} (h : Inv H (w.ref :: st)) {y : Rw} (hy : Mp.get H.rows k = some y) (hi : i < y.words.length) : Inv (setW H k i w) (refAt H k i :: st) := by
  let f : Rw → Rw := fun x => { x with words := x.words.set i w }
  have hr := fun x => rowOcc_del h.ndR hy x
  have hgf : Mp.get (mapAt H.rows k f) k = some (f y) := by rw [get_mapAt, if_pos rfl, hy]; rfl
  have hn2 : ((mapAt H.rows k f).map (·.1)).Nodup := by rw [keys_mapAt]; exact h.ndR
  have hd : Mp.del (mapAt H.rows k f) k = Mp.del H.rows k := by
    unfold Mp.del mapAt
    rw [List.filter_map]
    have : ((fun p : Int × Rw => decide (p.1 ≠ k)) ∘ fun p => if p.1 = k then (p.1, f p.2) else p) = fun p => decide (p.1 ≠ k) := by
      funext p
      simp only [Function.comp]
      split <;> rfl
    rw [this]
    conv => rhs; rw [← List.map_id (List.filter _ _)]
    apply List.map_congr_left
    intro p hp
    have : p.1 ≠ k := by simpa using (List.mem_filter.1 hp).2
    rw [if_neg this]; rfl
  have hr2 := fun x => rowOcc_del hn2 hgf x
  rw [hd] at hr2
  have hI : ∀ x, x ≠ 0 → inH (Go.Proofs.Ytodfpclekihbhaa.setW H k i w) x + (if x = refAt H k i then 1 else 0) = inH H x + (if x = w.ref then 1 else 0) := fun x hx => by
    have h1 := count_set y.words i w x hx hi
    rw [refAt_eq hy i hi]
    show rowOcc x (mapAt H.rows k f) + tailOcc x H.objs + _ = rowOcc x H.rows + tailOcc x H.objs + _
    rw [hr, hr2]
    show rowOcc x (Mp.del H.rows k) + (refsOf (y.words.set i w)).count x + _ + _ = _
    omega
  refine ⟨h.ndO, hn2, h.rng, ?_, h.pos, ?_, ?_, ?_⟩
  · intro r o ho
    have h1 := h.cnt r o ho
    have h2 := (h.rng r o ho).1
    have h3 := hI r (by omega)
    rw [count_cons'] at h1 ⊢
    omega
  · intro r h0 hr0
    have h1 := h.ref r h0 hr0
    have h3 := hI r h0
    rw [count_cons'] at h1 ⊢
    omega
  · intro r o ho
    obtain ⟨z, h1, h2, h3⟩ := h.row r o ho
    show ∃ x, Mp.get (mapAt H.rows k f) o.row = some x ∧ _
    rw [get_mapAt]
    by_cases e : o.row = k
    · rw [if_pos e, h1]; exact ⟨_, rfl, h2, h3⟩
    · rw [if_neg e]; exact ⟨z, h1, h2, h3⟩
  · intro j x hx
    have hx' : Mp.get (mapAt H.rows k f) j = some x := hx
    rw [get_mapAt] at hx'
    by_cases e : j = k
    · subst e
      rw [if_pos rfl, hy] at hx'
      injection hx' with hx'
      subst hx'
      exact h.arr j y hy
    · rw [if_neg e] at hx'
      exact h.arr j x hx'
theorem fresh_of {H : Hp} {st : List Int} (h : Inv H st) : Mp.get H.objs ((H.last : Int) + 1) = none ∧ (∀ k x, Mp.get H.rows k = some x → ∃ r o, Mp.get H.objs r = some o ∧ o.row = k) := by
  constructor
  · cases hg : Mp.get H.objs ((H.last : Int) + 1) with
    | none => rfl
    | some o => have := h.rng _ _ hg; omega
  · intro k x hx
    obtain ⟨h1, h2, _⟩ := h.arr k x hx
    have h3 : arrC H.objs k ≠ 0 := by omega
    unfold arrC at h3
    obtain ⟨p, hp⟩ := List.exists_mem_of_length_pos (Nat.pos_of_ne_zero h3)
    obtain ⟨h4, h5⟩ := List.mem_filter.1 hp
    exact ⟨p.1, p.2, Mp.get_of_mem h.ndO h4, by simpa using h5⟩
theorem put_fresh {α : Type} {L : List (Int × α)} {k : Int} {a : α} (h : Mp.get L k = none) : Mp.put L k a = L ++ [(k, a)] := by
  unfold Mp.put
  rw [h]
  simp
theorem addH_objs (H : Hp) (o : Ob) : (addH H o).objs = Mp.put H.objs ((H.last : Int) + 1) { o with holds := 1 } := seeH_objs _ _
theorem addH_rows (H : Hp) (o : Ob) : (addH H o).rows = H.rows := seeH_rows _ _
theorem addH_last (H : Hp) (o : Ob) : (addH H o).last = H.last + 1 := seeH_last _ _
/-- An object is added to a row, new or known. -/
theorem Inv.add {H G : Hp} {o : Ob} {st : List Int} (h : Inv H st) (hobj : G.objs = H.objs) (hlast : G.last = H.last) (hnd : (G.rows.map (·.1)).Nodup) (hrc : o.rc = 0) (hh : o.holds = 0)
    (hc : ∀ x, x ≠ 0 → rowOcc x G.rows + (tailOf o).count x = rowOcc x H.rows + st.count x)
    (hrow : ∀ k x, Mp.get H.rows k = some x → ∃ z, Mp.get G.rows k = some z ∧ z.isA = x.isA)
    (ho : ∃ x, Mp.get G.rows o.row = some x ∧ (x.isA = true ↔ o.kind = 2) ∧ (o.kind = 2 → o.tail = 0))
    (harr : ∀ k x, Mp.get G.rows k = some x → x.arr = ((arrC H.objs k + if o.row = k then 1 else 0 : Nat) : Int) ∧ 1 ≤ x.arr ∧ (x.isA = false → x.arr = 1)) : Inv (addH G o) [] := by
  obtain ⟨hf, _⟩ := fresh_of h
  have e1 : (addH G o).objs = H.objs ++ [((H.last : Int) + 1, { o with holds := 1 })] := by rw [addH_objs, hobj, hlast, put_fresh hf]
  have e2 : (addH G o).rows = G.rows := addH_rows _ _
  have e3 : (addH G o).last = H.last + 1 := by rw [addH_last, hlast]
  have hI : ∀ x, x ≠ 0 → inH (addH G o) x = inH H x + st.count x := fun x hx => by
    unfold inH
    rw [e1, e2]
    have : tailOcc x (H.objs ++ [((H.last : Int) + 1, { o with holds := 1 })]) = tailOcc x H.objs + (tailOf o).count x := by
      unfold tailOcc
      rw [List.map_append, List.sum_append]
      simp only [List.map_cons, List.map_nil, List.sum_cons, List.sum_nil, Nat.add_zero, tailOf]
    rw [this]
    have := hc x hx
    omega
  have hg : ∀ x, Mp.get (addH G o).objs x = if x = (H.last : Int) + 1 then some { o with holds := 1 } else Mp.get H.objs x := fun x => by
    rw [addH_objs, hobj, hlast, Mp.get_put]
  have hlastN : ((H.last + 1 : Nat) : Int) = (H.last : Int) + 1 := by omega
  refine ⟨?_, by rw [e2]; exact hnd, ?_, ?_, ?_, ?_, ?_, ?_⟩
  · rw [addH_objs, hobj]; exact Mp.nodup_put h.ndO _ _
  · intro x y hy
    rw [hg] at hy
    rw [e3]
    by_cases e : x = (H.last : Int) + 1
    · omega
    · rw [if_neg e] at hy
      have := h.rng x y hy
      omega
  · intro x y hy
    rw [hg] at hy
    by_cases e : x = (H.last : Int) + 1
    · rw [if_pos e] at hy
      injection hy with hy
      have h1 := h.ref x (by omega) (by rw [e]; exact hf)
      have h2 := hI x (by omega)
      rw [← hy]
      show o.rc = _
      rw [hrc, List.count_nil]
      omega
    · rw [if_neg e] at hy
      have h1 := h.cnt x y hy
      have h2 := (h.rng x y hy).1
      have h3 := hI x (by omega)
      rw [List.count_nil]
      omega
  · intro x y hy
    rw [hg] at hy
    by_cases e : x = (H.last : Int) + 1
    · rw [if_pos e] at hy
      injection hy with hy
      rw [← hy]
      show 0 ≤ (1 : Int) ∧ 1 ≤ 1 + o.rc
      omega
    · rw [if_neg e] at hy
      exact h.pos x y hy
  · intro x h0 hx
    rw [hg] at hx
    by_cases e : x = (H.last : Int) + 1
    · rw [if_pos e] at hx; cases hx
    · rw [if_neg e] at hx
      have h1 := h.ref x h0 hx
      have h3 := hI x h0
      rw [List.count_nil]
      omega
  · intro x y hy
    rw [hg] at hy
    rw [e2]
    by_cases e : x = (H.last : Int) + 1
    · rw [if_pos e] at hy
      injection hy with hy
      rw [← hy]
      exact ho
    · rw [if_neg e] at hy
      obtain ⟨z, h1, h2, h3⟩ := h.row x y hy
      obtain ⟨z', h4, h5⟩ := hrow _ _ h1
      exact ⟨z', h4, by rw [h5]; exact h2, h3⟩
  · intro k x hx
    rw [e2] at hx
    have h1 := harr k x hx
    have h2 : arrC (addH G o).objs k = arrC H.objs k + if o.row = k then 1 else 0 := by
      rw [e1, arrC_sum, arrC_sum, List.map_append, List.sum_append]
      simp
    rw [h2]
    exact h1
theorem not_row_fresh {H : Hp} {st : List Int} (h : Inv H st) (hk : ∀ r o, Mp.get H.objs r = some o → o.row ≤ H.last) : Mp.get H.rows ((H.last : Int) + 1) = none := by
  cases hg : Mp.get H.rows ((H.last : Int) + 1) with
  | none => rfl
  | some x =>
    obtain ⟨r, o, h1, h2⟩ := (fresh_of h).2 _ _ hg
    have := hk r o h1
    omega
/-- An object with a row of its own is added. -/
theorem Inv.addNew {H : Hp} {o : Ob} {x : Rw} {st : List Int} (h : Inv H st) (hk : ∀ r o, Mp.get H.objs r = some o → o.row ≤ H.last) (hrc : o.rc = 0) (hh : o.holds = 0) (hrow : o.row = H.last + 1) (hx : x.arr = 1) (hA : x.isA = true ↔ o.kind = 2) (ht : o.kind = 2 → o.tail = 0)
    (hc : ∀ y, y ≠ 0 → (refsOf x.words).count y + (tailOf o).count y = st.count y) : Inv (addH (newRow H x) o) [] := by
  have hf := not_row_fresh h hk
  have e1 : (newRow H x).rows = H.rows ++ [((H.last : Int) + 1, x)] := put_fresh hf
  refine h.add (G := newRow H x) rfl rfl (Mp.nodup_put h.ndR _ _) hrc hh ?_ ?_ ⟨x, ?_, hA, ht⟩ ?_
  · intro y hy
    have := hc y hy
    rw [e1]
    have : rowOcc y (H.rows ++ [((H.last : Int) + 1, x)]) = rowOcc y H.rows + (refsOf x.words).count y := by
      unfold rowOcc
      rw [List.map_append, List.sum_append]
      simp only [List.map_cons, List.map_nil, List.sum_cons, List.sum_nil, Nat.add_zero]
    omega
  · intro k z hz
    refine ⟨z, ?_, rfl⟩
    show Mp.get (Mp.put H.rows ((H.last : Int) + 1) x) k = some z
    rw [Mp.get_put, if_neg (fun e => by rw [e, hf] at hz; cases hz)]
    exact hz
  · show Mp.get (Mp.put H.rows ((H.last : Int) + 1) x) o.row = some x
    rw [Mp.get_put, if_pos hrow]
  · intro k z hz
    have hz' : Mp.get (Mp.put H.rows ((H.last : Int) + 1) x) k = some z := hz
    rw [Mp.get_put] at hz'
    by_cases e : k = (H.last : Int) + 1
    · rw [if_pos e] at hz'
      injection hz' with hz'
      subst hz'
      have h0 : arrC H.objs k = 0 := by
        unfold arrC
        rw [List.length_eq_zero_iff, List.filter_eq_nil_iff]
        intro p hp
        have := hk p.1 p.2 (Mp.get_of_mem h.ndO hp)
        simp
        omega
      rw [if_pos (by rw [e, hrow]), h0, hx]
      simp
    · rw [if_neg e] at hz'
      rw [if_neg (by rw [hrow]; exact fun h2 => e h2.symm)]
      exact h.arr k z hz'
theorem Inv.part {H : Hp} {r : Int} {o : Ob} (h : Inv H []) (ho : Mp.get H.objs r = some o) (hk : o.kind = 2) (f t : Int) : Inv (addH (H.updR o.row Rw.inc) (partOb o f t)) [] := by
  obtain ⟨y, hy, hyA, hyt⟩ := h.row r o ho
  refine h.add (G := H.updR o.row Rw.inc) rfl rfl (by show ((mapAt H.rows o.row Rw.inc).map (·.1)).Nodup; rw [keys_mapAt]; exact h.ndR) rfl rfl ?_ ?_ ?_ ?_
  · intro x _
    show rowOcc x (mapAt H.rows o.row Rw.inc) + _ = _
    rw [rowOcc_mapAt x H.rows o.row Rw.inc (fun _ => rfl)]
    simp [partOb, tailOf]
  · intro k x hx
    show ∃ z, Mp.get (mapAt H.rows o.row Rw.inc) k = some z ∧ _
    rw [get_mapAt]
    by_cases e : k = o.row
    · rw [if_pos e, hx]; exact ⟨_, rfl, rfl⟩
    · rw [if_neg e, hx]; exact ⟨_, rfl, rfl⟩
  · refine ⟨y.inc, ?_, ?_, fun _ => rfl⟩
    · show Mp.get (mapAt H.rows o.row Rw.inc) o.row = _
      rw [get_mapAt, if_pos rfl, hy]; rfl
    · show y.isA = true ↔ (2 : Int) = 2
      rw [hyA, hk]
  · intro k x hx
    have hx' : Mp.get (mapAt H.rows o.row Rw.inc) k = some x := hx
    rw [get_mapAt] at hx'
    by_cases e : k = o.row
    · subst e
      rw [if_pos rfl, hy] at hx'
      injection hx' with hx'
      subst hx'
      obtain ⟨h1, h2, h3⟩ := h.arr _ _ hy
      rw [if_pos (show (partOb o f t).row = o.row from rfl)]
      refine ⟨by show y.arr + 1 = _; omega, by show 1 ≤ y.arr + 1; omega, ?_⟩
      intro e2
      have : y.isA = true := hyA.2 hk
      rw [show y.inc.isA = y.isA from rfl, this] at e2
      cases e2
    · rw [if_neg e] at hx'
      rw [if_neg (show ¬ (partOb o f t).row = k from fun h2 => e h2.symm)]
      exact h.arr k x hx'
theorem cut_refs (l : List Wd) : refsOf (l.map Wd.cut) = [] := by
  unfold refsOf
  rw [List.map_map, List.filter_eq_nil_iff]
  intro x hx
  obtain ⟨y, _, rfl⟩ := List.mem_map.1 hx
  simp [Wd.cut]
/-- An object's references are set to 0: they are to be taken away. -/
theorem Inv.cut {H : Hp} {r : Int} {o : Ob} (h : Inv H []) (ho : Mp.get H.objs r = some o) : Inv ((H.updR o.row cutRow).upd r Ob.cut) (targetsH H o).reverse := by
  obtain ⟨y, hy, hyA, hyt⟩ := h.row r o ho
  have hr := fun x => rowOcc_del h.ndR hy x
  have hgf : Mp.get (mapAt H.rows o.row cutRow) o.row = some (cutRow y) := by rw [get_mapAt, if_pos rfl, hy]; rfl
  have hn2 : ((mapAt H.rows o.row cutRow).map (·.1)).Nodup := by rw [keys_mapAt]; exact h.ndR
  have hdel : ∀ {α : Type} (L : List (Int × α)) (k : Int) (f : α → α), Mp.del (mapAt L k f) k = Mp.del L k := by
    intro α L k f
    unfold Mp.del mapAt
    rw [List.filter_map]
    have : ((fun p : Int × α => decide (p.1 ≠ k)) ∘ fun p => if p.1 = k then (p.1, f p.2) else p) = fun p => decide (p.1 ≠ k) := by
      funext p
      simp only [Function.comp]
      split <;> rfl
    rw [this]
    conv => rhs; rw [← List.map_id (List.filter _ _)]
    apply List.map_congr_left
    intro p hp
    have : p.1 ≠ k := by simpa using (List.mem_filter.1 hp).2
    rw [if_neg this]; rfl
  have hr2 := fun x => rowOcc_del hn2 hgf x
  have hgo : Mp.get (mapAt H.objs r Ob.cut) r = some o.cut := by rw [get_mapAt, if_pos rfl, ho]; rfl
  have hno : ((mapAt H.objs r Ob.cut).map (·.1)).Nodup := by rw [keys_mapAt]; exact h.ndO
  have ht := fun x => tailOcc_del h.ndO ho x
  have ht2 := fun x => tailOcc_del hno hgo x
  rw [hdel] at hr2 ht2
  have hI : ∀ x, inH ((H.updR o.row cutRow).upd r Ob.cut) x + ((targetsH H o).reverse).count x = inH H x := fun x => by
    have h3 : targetsH H o = refsOf y.words ++ tailOf o := by
      unfold targetsH Hp.rowOf
      rw [hy]; rfl
    have h1 := hr x
    have h2 := hr2 x
    have h4 := ht x
    have h5 := ht2 x
    rw [show (cutRow y).words = y.words.map Wd.cut from rfl, cut_refs] at h2
    rw [show tailOf o.cut = [] from rfl] at h5
    rw [List.count_reverse, h3, List.count_append]
    show rowOcc x (mapAt H.rows o.row cutRow) + tailOcc x (mapAt H.objs r Ob.cut) + _ = rowOcc x H.rows + tailOcc x H.objs
    simp only [List.count_nil] at h2 h5
    omega
  have hg : ∀ x z, Mp.get ((H.updR o.row cutRow).upd r Ob.cut).objs x = some z → ∃ z0, Mp.get H.objs x = some z0 ∧ z.rc = z0.rc ∧ z.holds = z0.holds ∧ z.row = z0.row ∧ z.kind = z0.kind ∧ (z0.tail = 0 → z.tail = 0) := fun x z hz => by
    rw [get_upd] at hz
    by_cases e : x = r
    · subst e
      have ho' : Mp.get (H.updR o.row cutRow).objs x = some o := ho
      rw [if_pos rfl, ho'] at hz
      injection hz with hz
      subst hz
      exact ⟨o, ho, rfl, rfl, rfl, rfl, fun _ => rfl⟩
    · rw [if_neg e] at hz
      exact ⟨z, hz, rfl, rfl, rfl, rfl, fun h => h⟩
  refine ⟨hno, hn2, ?_, ?_, ?_, ?_, ?_, ?_⟩
  · intro x z hz
    obtain ⟨z0, h1, _⟩ := hg x z hz
    exact h.rng x z0 h1
  · intro x z hz
    obtain ⟨z0, h1, h2, _⟩ := hg x z hz
    have h3 := h.cnt x z0 h1
    have h4 := hI x
    rw [List.count_nil] at h3
    omega
  · intro x z hz
    obtain ⟨z0, h1, h2, h3, _⟩ := hg x z hz
    rw [h2, h3]
    exact h.pos x z0 h1
  · intro x h0 hx
    have h4 := hI x
    have hx' : Mp.get H.objs x = none := by
      rw [get_upd] at hx
      by_cases e : x = r
      · subst e
        have ho' : Mp.get (H.updR o.row cutRow).objs x = some o := ho
        rw [if_pos rfl, ho'] at hx
        cases hx
      · rwa [if_neg e] at hx
    have := h.ref x h0 hx'
    rw [List.count_nil] at this
    omega
  · intro x z hz
    obtain ⟨z0, h1, h2, h3, h4, h5, h6⟩ := hg x z hz
    obtain ⟨y0, g1, g2, g3⟩ := h.row x z0 h1
    rw [h4, h5]
    show ∃ x, Mp.get (mapAt H.rows o.row cutRow) z0.row = some x ∧ _
    rw [get_mapAt]
    by_cases e : z0.row = o.row
    · rw [if_pos e, g1]; exact ⟨_, rfl, g2, fun hk => h6 (g3 hk)⟩
    · rw [if_neg e]; exact ⟨y0, g1, g2, fun hk => h6 (g3 hk)⟩
  · intro k x hx
    have hx' : Mp.get (mapAt H.rows o.row cutRow) k = some x := hx
    rw [show arrC ((H.updR o.row cutRow).upd r Ob.cut).objs k = arrC H.objs k from arrC_mapAt H.objs r k Ob.cut fun _ => rfl]
    rw [get_mapAt] at hx'
    by_cases e : k = o.row
    · subst e
      rw [if_pos rfl, hy] at hx'
      injection hx' with hx'
      subst hx'
      exact h.arr _ y hy
    · rw [if_neg e] at hx'
      exact h.arr k x hx'
/-- How often an object is referred to is bounded. -/
theorem inH_le (H : Hp) (x : Int) : inH H x ≤ wsum H.rows + H.objs.length := by
  have h1 : rowOcc x H.rows ≤ wsum H.rows := by
    unfold rowOcc wsum
    induction H.rows with
    | nil => exact Nat.le_refl _
    | cons p L ih =>
      simp only [List.map_cons, List.sum_cons]
      have := List.count_le_length (a := x) (l := refsOf p.2.words)
      have := len_refsOf p.2.words
      omega
  have h2 : tailOcc x H.objs ≤ H.objs.length := by
    unfold tailOcc
    induction H.objs with
    | nil => exact Nat.le_refl _
    | cons p L ih =>
      simp only [List.map_cons, List.sum_cons, List.length_cons]
      have := List.count_le_length (a := x) (l := tailOf p.2)
      have : (tailOf p.2).length ≤ 1 := by unfold tailOf; split <;> simp
      omega
  unfold inH
  omega
theorem words_le {H : Hp} {k : Int} {y : Rw} (h : Mp.get H.rows k = some y) : y.words.length ≤ wsum H.rows := sum_le_of_mem (fun p : Int × Rw => p.2.words.length) (Mp.mem_of_get h)
theorem mu_see (H : Hp) (r : Int) : muH (seeH H r) = muH H := by unfold muH; rw [seeH_rows, seeH_objs]
end Go.Proofs.Ytodfpclekihbhaa
