/- The heap's counts in plain Lean: what release does to them. -/
import Derived.Test.YtodfpclekihbhaaH1
namespace Go.Proofs.Ytodfpclekihbhaa

def rowOcc (x : Int) (L : List (Int × Rw)) : Nat := (L.map fun p => (refsOf p.2.words).count x).sum
def tailOcc (x : Int) (L : List (Int × Ob)) : Nat := (L.map fun p => (tailOf p.2).count x).sum
/-- How often a heap refers to an object. -/
def inH (H : Hp) (x : Int) : Nat := rowOcc x H.rows + tailOcc x H.objs
/-- How many objects have a row. -/
def arrC (L : List (Int × Ob)) (k : Int) : Nat := (L.filter fun p => decide (p.2.row = k)).length
/-- Counts are right, with references st to be taken away. -/
structure Inv (H : Hp) (st : List Int) : Prop where
  ndO : (H.objs.map (·.1)).Nodup
  ndR : (H.rows.map (·.1)).Nodup
  rng : ∀ r o, Mp.get H.objs r = some o → 1 ≤ r ∧ r ≤ H.last
  cnt : ∀ r o, Mp.get H.objs r = some o → o.rc = ((inH H r + st.count r : Nat) : Int)
  pos : ∀ r o, Mp.get H.objs r = some o → 0 ≤ o.holds ∧ 1 ≤ o.holds + o.rc
  ref : ∀ r, r ≠ 0 → Mp.get H.objs r = none → inH H r + st.count r = 0
  row : ∀ r o, Mp.get H.objs r = some o → ∃ x, Mp.get H.rows o.row = some x ∧ (x.isA = true ↔ o.kind = 2) ∧ (o.kind = 2 → o.tail = 0)
  arr : ∀ k x, Mp.get H.rows k = some x → x.arr = (arrC H.objs k : Int) ∧ 1 ≤ x.arr ∧ (x.isA = false → x.arr = 1)
theorem sum_le_of_mem {α : Type} (f : α → Nat) {L : List α} {p : α} (h : p ∈ L) : f p ≤ (L.map f).sum := by
  induction L with
  | nil => cases h
  | cons q L ih =>
    simp only [List.map_cons, List.sum_cons]
    rcases List.mem_cons.1 h with rfl | h
    · omega
    · have := ih h; omega
theorem sum_del {κ α : Type} [DecidableEq κ] (f : κ × α → Nat) {L : List (κ × α)} {k : κ} {x : α} (hn : (L.map (·.1)).Nodup) (h : Mp.get L k = some x) : (L.map f).sum = ((Mp.del L k).map f).sum + f (k, x) := by
  induction L with
  | nil => cases h
  | cons p L ih =>
    obtain ⟨q, a⟩ := p
    simp only [List.map_cons, List.nodup_cons, List.mem_map, not_exists, not_and] at hn
    by_cases e : q = k
    · subst e
      have e1 : Mp.get L q = none := (Mp.get_none_iff L q).2 fun p hp => hn.1 p hp
      have e2 : Mp.del ((q, a) :: L) q = L := by
        have : Mp.del ((q, a) :: L) q = Mp.del L q := by simp [Mp.del]
        rw [this]
        unfold Mp.del
        rw [List.filter_eq_self]
        intro p hp
        simpa using hn.1 p hp
      have e3 : a = x := by simpa [Mp.get] using h
      rw [e2, e3]
      simp only [List.map_cons, List.sum_cons]
      omega
    · have e1 : Mp.get L k = some x := by simpa [Mp.get, e] using h
      have e2 : Mp.del ((q, a) :: L) k = (q, a) :: Mp.del L k := by simp [Mp.del, e]
      rw [e2]
      simp only [List.map_cons, List.sum_cons, ih hn.2 e1]
      omega
theorem sum_mapAt {α : Type} (f : Int × α → Nat) (L : List (Int × α)) (k : Int) (g : α → α) (h : ∀ p, f (p.1, g p.2) = f p) : ((mapAt L k g).map f).sum = (L.map f).sum := by
  unfold mapAt
  rw [List.map_map]
  congr 1
  apply List.map_congr_left
  intro p _
  simp only [Function.comp]
  split
  · exact h p
  · rfl
theorem rowOcc_mapAt (x : Int) (L : List (Int × Rw)) (k : Int) (g : Rw → Rw) (h : ∀ y, (g y).words = y.words) : rowOcc x (mapAt L k g) = rowOcc x L := sum_mapAt _ L k g fun p => by simp only [h]
theorem tailOcc_mapAt (x : Int) (L : List (Int × Ob)) (k : Int) (g : Ob → Ob) (h : ∀ y, (g y).tail = y.tail) : tailOcc x (mapAt L k g) = tailOcc x L := sum_mapAt _ L k g fun p => by simp only [tailOf, h]
theorem arrC_mapAt (L : List (Int × Ob)) (r k : Int) (g : Ob → Ob) (h : ∀ y, (g y).row = y.row) : arrC (mapAt L r g) k = arrC L k := by
  unfold arrC mapAt
  rw [List.filter_map, List.length_map]
  congr 1
  apply List.filter_congr
  intro p _
  simp only [Function.comp]
  split
  · simp only [h]
  · rfl
theorem arrC_sum (L : List (Int × Ob)) (k : Int) : arrC L k = (L.map fun p => if p.2.row = k then 1 else 0).sum := by
  unfold arrC
  induction L with
  | nil => rfl
  | cons p L ih =>
    simp only [List.map_cons, List.sum_cons, ← ih, List.filter_cons]
    by_cases e : p.2.row = k
    · simp [e]; omega
    · simp [e]
theorem inH_upd (H : Hp) (r : Int) (g : Ob → Ob) (h : ∀ y, (g y).tail = y.tail) (x : Int) : inH (H.upd r g) x = inH H x := by
  unfold inH Hp.upd
  rw [tailOcc_mapAt _ _ _ _ h]
theorem get_upd (H : Hp) (r x : Int) (g : Ob → Ob) : Mp.get (H.upd r g).objs x = if x = r then (Mp.get H.objs x).map g else Mp.get H.objs x := get_mapAt H.objs r x g
theorem count_one (x r : Int) : [r].count x = if x = r then 1 else 0 := by
  by_cases h : x = r
  · subst h; simp
  · have : ¬ r = x := fun e => h e.symm
    simp [this, h]
theorem Inv.some_of {H : Hp} {r : Int} {st : List Int} (h : Inv H (r :: st)) (h0 : r ≠ 0) : ∃ o, Mp.get H.objs r = some o := by
  cases hg : Mp.get H.objs r with
  | some o => exact ⟨o, rfl⟩
  | none => have := h.ref r h0 hg; simp at this
theorem Inv.zero {H : Hp} {st : List Int} (h : Inv H (0 :: st)) : Inv H st :=
  { h with
    cnt := fun r o ho => by
      rw [h.cnt r o ho]
      have := (h.rng r o ho).1
      have : ¬ (0 : Int) = r := by omega
      simp [this]
    ref := fun r h0 hr => by
      have := h.ref r h0 hr
      have h2 : ¬ (0 : Int) = r := fun e => h0 e.symm
      simpa [h2] using this }
/-- The count of a reference's object goes down: the reference is taken away. -/
theorem Inv.dec {H : Hp} {r : Int} {o : Ob} {st : List Int} (h : Inv H (r :: st)) (ho : Mp.get H.objs r = some o) (hp : 1 ≤ o.holds + (o.rc - 1)) : Inv (H.upd r Ob.dec) st := by
  have hI : ∀ x, inH (H.upd r Ob.dec) x = inH H x := fun x => inH_upd H r Ob.dec (fun _ => rfl) x
  have hc : ∀ x, (r :: st).count x = (if x = r then 1 else 0) + st.count x := fun x => by
    rw [show r :: st = [r] ++ st from rfl, List.count_append, count_one]
  have hg : ∀ x y, Mp.get (H.upd r Ob.dec).objs x = some y → ∃ y0, Mp.get H.objs x = some y0 ∧ (x = r → y = y0.dec) ∧ (x ≠ r → y = y0) := fun x y hy => by
    rw [get_upd] at hy
    by_cases e : x = r
    · subst e
      rw [if_pos rfl, ho] at hy
      injection hy with hy
      exact ⟨o, ho, fun _ => hy.symm, fun h => absurd rfl h⟩
    · rw [if_neg e] at hy
      exact ⟨y, hy, fun h => absurd h e, fun _ => rfl⟩
  refine ⟨?_, h.ndR, ?_, ?_, ?_, ?_, ?_, ?_⟩
  · show ((mapAt H.objs r Ob.dec).map (·.1)).Nodup
    rw [keys_mapAt]
    exact h.ndO
  · intro x y hy
    obtain ⟨y0, h1, _⟩ := hg x y hy
    exact h.rng x y0 h1
  · intro x y hy
    obtain ⟨y0, h1, h2, h3⟩ := hg x y hy
    have h4 := h.cnt x y0 h1
    rw [hc] at h4
    rw [hI]
    by_cases e : x = r
    · rw [h2 e]; rw [if_pos e] at h4; show y0.rc - 1 = _; omega
    · rw [h3 e]; rw [if_neg e] at h4; omega
  · intro x y hy
    obtain ⟨y0, h1, h2, h3⟩ := hg x y hy
    have h4 := h.pos x y0 h1
    by_cases e : x = r
    · rw [h2 e]
      subst e
      rw [ho] at h1
      injection h1 with h1
      subst h1
      exact ⟨h4.1, hp⟩
    · rw [h3 e]; exact h4
  · intro x h0 hx
    rw [get_upd] at hx
    have hx' : Mp.get H.objs x = none := by
      by_cases e : x = r
      · subst e; rw [if_pos rfl, ho] at hx; cases hx
      · rwa [if_neg e] at hx
    have := h.ref x h0 hx'
    rw [hc] at this
    rw [hI]
    omega
  · intro x y hy
    obtain ⟨y0, h1, h2, h3⟩ := hg x y hy
    obtain ⟨z, g1, g2, g3⟩ := h.row x y0 h1
    by_cases e : x = r
    · rw [h2 e]; exact ⟨z, g1, g2, g3⟩
    · rw [h3 e]; exact ⟨z, g1, g2, g3⟩
  · intro k x hx
    have h1 := h.arr k x hx
    rw [show arrC (H.upd r Ob.dec).objs k = arrC H.objs k from arrC_mapAt _ _ _ _ fun _ => rfl]
    exact h1
theorem arrC_del {L : List (Int × Ob)} (hn : (L.map (·.1)).Nodup) {r : Int} {o : Ob} (h : Mp.get L r = some o) (k : Int) : arrC L k = arrC (Mp.del L r) k + if o.row = k then 1 else 0 := by
  rw [arrC_sum, arrC_sum, sum_del _ hn h]
theorem tailOcc_del {L : List (Int × Ob)} (hn : (L.map (·.1)).Nodup) {r : Int} {o : Ob} (h : Mp.get L r = some o) (x : Int) : tailOcc x L = tailOcc x (Mp.del L r) + (tailOf o).count x := by
  unfold tailOcc
  rw [sum_del _ hn h]
theorem rowOcc_del {L : List (Int × Rw)} (hn : (L.map (·.1)).Nodup) {k : Int} {y : Rw} (h : Mp.get L k = some y) (x : Int) : rowOcc x L = rowOcc x (Mp.del L k) + (refsOf y.words).count x := by
  unfold rowOcc
  rw [sum_del _ hn h]
/-- An object whose count has become 0 is freed. -/
theorem Inv.free {H : Hp} {r : Int} {o : Ob} {st : List Int} (h : Inv H (r :: st)) (ho : Mp.get H.objs r = some o) (hp : o.holds + (o.rc - 1) = 0) : Inv (freeH (H.upd r Ob.dec) r o).1 ((freeH (H.upd r Ob.dec) r o).2.reverse ++ st) := by
  have hc : ∀ x, (r :: st).count x = (if x = r then 1 else 0) + st.count x := fun x => by
    rw [show r :: st = [r] ++ st from rfl, List.count_append, count_one]
  have hh := h.pos r o ho
  have hcr := h.cnt r o ho
  rw [hc, if_pos rfl] at hcr
  have hrc : inH H r + st.count r = 0 := by omega
  obtain ⟨y, hy, hyA, hyt⟩ := h.row r o ho
  obtain ⟨ha1, ha2, ha3⟩ := h.arr _ _ hy
  -- the heap without the object
  have e1 : Mp.del (H.upd r Ob.dec).objs r = Mp.del H.objs r := by
    show Mp.del (mapAt H.objs r Ob.dec) r = _
    unfold Mp.del mapAt
    rw [List.filter_map]
    have : ((fun p : Int × Ob => decide (p.1 ≠ r)) ∘ fun p => if p.1 = r then (p.1, Ob.dec p.2) else p) = fun p => decide (p.1 ≠ r) := by
      funext p
      simp only [Function.comp]
      split <;> rfl
    rw [this]
    conv => rhs; rw [← List.map_id (List.filter _ _)]
    apply List.map_congr_left
    intro p hp
    have : p.1 ≠ r := by simpa using (List.mem_filter.1 hp).2
    rw [if_neg this]; rfl
  have hg : ∀ x z, Mp.get (Mp.del H.objs r) x = some z → Mp.get H.objs x = some z ∧ x ≠ r := fun x z hz => by
    rw [Mp.get_del] at hz
    by_cases e : x = r
    · rw [if_pos e] at hz; cases hz
    · rw [if_neg e] at hz; exact ⟨hz, e⟩
  have hn : ∀ x, Mp.get (Mp.del H.objs r) x = none → x = r ∨ Mp.get H.objs x = none := fun x hz => by
    rw [Mp.get_del] at hz
    by_cases e : x = r
    · exact .inl e
    · rw [if_neg e] at hz; exact .inr hz
  have htd := fun x => tailOcc_del h.ndO ho x
  have had := fun k => arrC_del h.ndO ho k
  have key : ∀ (G : Hp) (l : List Int), G.objs = Mp.del H.objs r → G.last = H.last → (G.rows.map (·.1)).Nodup → (∀ x, inH G x + l.count x = inH H x) →
      (∀ k x, Mp.get G.rows k = some x → x.arr = (arrC (Mp.del H.objs r) k : Int) ∧ 1 ≤ x.arr ∧ (x.isA = false → x.arr = 1)) →
      (∀ k x, Mp.get H.rows k = some x → arrC (Mp.del H.objs r) k ≠ 0 → ∃ z, Mp.get G.rows k = some z ∧ z.isA = x.isA) → Inv G (l.reverse ++ st) := by
    intro G l g1 g2 g3 g4 g5 g6
    have hcl : ∀ x, (l.reverse ++ st).count x = l.count x + st.count x := fun x => by rw [List.count_append, List.count_reverse]
    refine ⟨?_, g3, ?_, ?_, ?_, ?_, ?_, ?_⟩
    · rw [g1]; exact Mp.nodup_del h.ndO r
    · intro x z hz
      rw [g1] at hz
      rw [g2]
      exact h.rng x z (hg x z hz).1
    · intro x z hz
      rw [g1] at hz
      obtain ⟨h1, h2⟩ := hg x z hz
      have h3 := h.cnt x z h1
      rw [hc, if_neg h2] at h3
      have h4 := g4 x
      rw [hcl]
      omega
    · intro x z hz
      rw [g1] at hz
      exact h.pos x z (hg x z hz).1
    · intro x h0 hz
      rw [g1] at hz
      have h4 := g4 x
      rw [hcl]
      rcases hn x hz with rfl | h1
      · omega
      · have := h.ref x h0 h1
        rw [hc] at this
        omega
    · intro x z hz
      rw [g1] at hz
      obtain ⟨h1, h2⟩ := hg x z hz
      obtain ⟨y', h3, h4, h5⟩ := h.row x z h1
      have h6 : arrC (Mp.del H.objs r) z.row ≠ 0 := by
        have hm : (x, z) ∈ (Mp.del H.objs r).filter fun p => decide (p.2.row = z.row) := List.mem_filter.2 ⟨Mp.mem_of_get hz, by simp⟩
        unfold arrC
        intro e
        rw [List.length_eq_zero_iff] at e
        rw [e] at hm
        cases hm
      obtain ⟨y2, h7, h8⟩ := g6 _ _ h3 h6
      exact ⟨y2, h7, by rw [h8]; exact h4, h5⟩
    · intro k x hx
      rw [g1]
      exact g5 k x hx
  have hrows : Mp.get (H.upd r Ob.dec).rows o.row = some y := hy
  unfold freeH
  rw [hrows]
  simp only
  by_cases hA : y.isA = true ∧ 0 < y.arr - 1
  · rw [if_pos hA]
    refine key _ [] e1 rfl ?_ ?_ ?_ ?_
    · show ((mapAt H.rows o.row Rw.dec).map (·.1)).Nodup
      rw [keys_mapAt]; exact h.ndR
    · intro x
      have ht := hyt (hyA.1 hA.1)
      have hto : tailOf o = [] := by unfold tailOf; rw [if_pos ht]
      have h1 := htd x
      rw [hto] at h1
      show rowOcc x (mapAt H.rows o.row Rw.dec) + tailOcc x (Mp.del (H.upd r Ob.dec).objs r) + _ = rowOcc x H.rows + tailOcc x H.objs
      rw [e1, rowOcc_mapAt x H.rows o.row Rw.dec (fun _ => rfl)]
      simp at h1 ⊢
      omega
    · intro k x hx
      have hx' : Mp.get (mapAt H.rows o.row Rw.dec) k = some x := hx
      rw [get_mapAt] at hx'
      have h1 := had k
      by_cases e : k = o.row
      · subst e
        rw [if_pos rfl, hy] at hx'
        injection hx' with hx'
        subst hx'
        rw [if_pos rfl] at h1
        have h5 : (Rw.dec y).arr = y.arr - 1 := rfl
        have h6 : (Rw.dec y).isA = y.isA := rfl
        refine ⟨by omega, by omega, ?_⟩
        intro e2
        rw [h6, hA.1] at e2
        cases e2
      · rw [if_neg e] at hx'
        rw [if_neg (fun h2 => e h2.symm)] at h1
        obtain ⟨h2, h3, h4⟩ := h.arr k x hx'
        exact ⟨by omega, h3, h4⟩
    · intro k x hx _
      show ∃ z, Mp.get (mapAt H.rows o.row Rw.dec) k = some z ∧ _
      rw [get_mapAt]
      by_cases e : k = o.row
      · rw [if_pos e, hx]; exact ⟨_, rfl, rfl⟩
      · rw [if_neg e, hx]; exact ⟨_, rfl, rfl⟩
  · rw [if_neg hA]
    have harr : y.arr = 1 := by
      cases hi : y.isA with
      | false => exact ha3 hi
      | true =>
        have : ¬ 0 < y.arr - 1 := fun h2 => hA ⟨hi, h2⟩
        omega
    refine key _ _ e1 rfl (Mp.nodup_del h.ndR _) ?_ ?_ ?_
    · intro x
      have h1 := htd x
      have h2 := rowOcc_del h.ndR hy x
      have h3 : targetsH (H.upd r Ob.dec) o = refsOf y.words ++ tailOf o := by
        unfold targetsH Hp.rowOf
        rw [hrows]; rfl
      show rowOcc x (Mp.del H.rows o.row) + tailOcc x (Mp.del (H.upd r Ob.dec).objs r) + (targetsH (H.upd r Ob.dec) o).count x = rowOcc x H.rows + tailOcc x H.objs
      rw [e1, h3, List.count_append]
      omega
    · intro k x hx
      have hx' : Mp.get (Mp.del H.rows o.row) k = some x := hx
      rw [Mp.get_del] at hx'
      by_cases e : k = o.row
      · rw [if_pos e] at hx'; cases hx'
      · rw [if_neg e] at hx'
        have h1 := had k
        rw [if_neg (fun h2 => e h2.symm)] at h1
        obtain ⟨h2, h3, h4⟩ := h.arr k x hx'
        exact ⟨by omega, h3, h4⟩
    · intro k x hx hne
      show ∃ z, Mp.get (Mp.del H.rows o.row) k = some z ∧ _
      rw [Mp.get_del]
      by_cases e : k = o.row
      · subst e
        have h1 := had o.row
        rw [if_pos rfl] at h1
        omega
      · rw [if_neg e]; exact ⟨x, hx, rfl⟩
/-- Behind release the counts are right. -/
theorem Inv.rel {H : Hp} {st : List Int} (h : Inv H st) : Inv (relH H st) [] := by
  generalize hm : muH H + st.length = m
  induction m using Nat.strongRecOn generalizing H st with
  | ind m ih =>
    cases st with
    | nil => rw [relH_nil]; exact h
    | cons r st =>
      by_cases h0 : r = 0
      · subst h0
        rw [relH_zero]
        exact ih _ (by simp at hm; omega) h.zero rfl
      · obtain ⟨o, ho⟩ := h.some_of h0
        have hp := h.pos r o ho
        by_cases hc : o.holds + (o.rc - 1) = 0
        · rw [relH_free st h0 ho hc]
          refine ih _ ?_ (h.free ho hc) rfl
          have h1 : Mp.get (H.upd r Ob.dec).objs r = some o.dec := by rw [get_upd, if_pos rfl, ho]; rfl
          have h2 := mu_free _ r o _ h1
          rw [mu_upd] at h2
          simp at hm ⊢
          omega
        · rw [relH_keep st h0 ho hc]
          refine ih _ ?_ (h.dec ho (by omega)) rfl
          rw [mu_upd]
          simp at hm
          omega
end Go.Proofs.Ytodfpclekihbhaa
