/- Texts on the heap, merged: L1, L2, L3, L4, L5, L6. -/
import Derived.Test.YtodfpclekihbhaaG01
/- The heap's counts in plain Lean: what release does to them. -/
namespace Go.Proofs.Ytodfpclekihbhaa

def rowOcc (x : Int) (L : List (Int × Rw)) : Nat := (L.map fun p => (refsOf p.2.words).count x).sum
def tailOcc (x : Int) (L : List (Int × Ob)) : Nat := (L.map fun p => (tailOf p.2).count x).sum
/-- How often a heap refers to an object. -/
def inH (H : Hp) (x : Int) : Nat := rowOcc x H.rows + tailOcc x H.objs
/-- How many objects have a row. -/
def arrC (L : List (Int × Ob)) (k : Int) : Nat := (L.filter fun p => decide (p.2.row = k)).length
/-- Counts are right, with references st to be taken away. -/
structure Inv (H : Hp) (st : List Int) : Prop where
  ndO : (H.objs.map (·.1)).Nodup
  ndR : (H.rows.map (·.1)).Nodup
  rng : ∀ r o, Mp.get H.objs r = some o → 1 ≤ r ∧ r ≤ H.last
  cnt : ∀ r o, Mp.get H.objs r = some o → o.rc = ((inH H r + st.count r : Nat) : Int)
  pos : ∀ r o, Mp.get H.objs r = some o → 0 ≤ o.holds ∧ 1 ≤ o.holds + o.rc
  ref : ∀ r, r ≠ 0 → Mp.get H.objs r = none → inH H r + st.count r = 0
  row : ∀ r o, Mp.get H.objs r = some o → ∃ x, Mp.get H.rows o.row = some x ∧ (x.isA = true ↔ o.kind = 2) ∧ (o.kind = 2 → o.tail = 0)
  arr : ∀ k x, Mp.get H.rows k = some x → x.arr = (arrC H.objs k : Int) ∧ 1 ≤ x.arr ∧ (x.isA = false → x.arr = 1)
theorem sum_le_of_mem {α : Type} (f : α → Nat) {L : List α} {p : α} (h : p ∈ L) : f p ≤ (L.map f).sum := by
  induction L with
  | nil => cases h
  | cons q L ih =>
    simp only [List.map_cons, List.sum_cons]
    rcases List.mem_cons.1 h with rfl | h
    · omega
    · have := ih h; omega
theorem sum_del {κ α : Type} [DecidableEq κ] (f : κ × α → Nat) {L : List (κ × α)} {k : κ} {x : α} (hn : (L.map (·.1)).Nodup) (h : Mp.get L k = some x) : (L.map f).sum = ((Mp.del L k).map f).sum + f (k, x) := by
  induction L with
  | nil => cases h
  | cons p L ih =>
    obtain ⟨q, a⟩ := p
    simp only [List.map_cons, List.nodup_cons, List.mem_map, not_exists, not_and] at hn
    by_cases e : q = k
    · subst e
      have e1 : Mp.get L q = none := (Mp.get_none_iff L q).2 fun p hp => hn.1 p hp
      have e2 : Mp.del ((q, a) :: L) q = L := by
        have : Mp.del ((q, a) :: L) q = Mp.del L q := by simp [Mp.del]
        rw [this]
        unfold Mp.del
        rw [List.filter_eq_self]
        intro p hp
        simpa using hn.1 p hp
      have e3 : a = x := by simpa [Mp.get] using h
      rw [e2, e3]
      simp only [List.map_cons, List.sum_cons]
      omega
    · have e1 : Mp.get L k = some x := by simpa [Mp.get, e] using h
      have e2 : Mp.del ((q, a) :: L) k = (q, a) :: Mp.del L k := by simp [Mp.del, e]
      rw [e2]
      simp only [List.map_cons, List.sum_cons, ih hn.2 e1]
      omega
theorem sum_mapAt {α : Type} (f : Int × α → Nat) (L : List (Int × α)) (k : Int) (g : α → α) (h : ∀ p, f (p.1, g p.2) = f p) : ((mapAt L k g).map f).sum = (L.map f).sum := by
  unfold mapAt
  rw [List.map_map]
  congr 1
  apply List.map_congr_left
  intro p _
  simp only [Function.comp]
  split
  · exact h p
  · rfl
theorem rowOcc_mapAt (x : Int) (L : List (Int × Rw)) (k : Int) (g : Rw → Rw) (h : ∀ y, (g y).words = y.words) : rowOcc x (mapAt L k g) = rowOcc x L := sum_mapAt _ L k g fun p => by simp only [h]
theorem tailOcc_mapAt (x : Int) (L : List (Int × Ob)) (k : Int) (g : Ob → Ob) (h : ∀ y, (g y).tail = y.tail) : tailOcc x (mapAt L k g) = tailOcc x L := sum_mapAt _ L k g fun p => by simp only [tailOf, h]
theorem arrC_mapAt (L : List (Int × Ob)) (r k : Int) (g : Ob → Ob) (h : ∀ y, (g y).row = y.row) : arrC (mapAt L r g) k = arrC L k := by
  unfold arrC mapAt
  rw [List.filter_map, List.length_map]
  congr 1
  apply List.filter_congr
  intro p _
  simp only [Function.comp]
  split
  · simp only [h]
  · rfl
theorem arrC_sum (L : List (Int × Ob)) (k : Int) : arrC L k = (L.map fun p => if p.2.row = k then 1 else 0).sum := by
  unfold arrC
  induction L with
  | nil => rfl
  | cons p L ih =>
    simp only [List.map_cons, List.sum_cons, ← ih, List.filter_cons]
    by_cases e : p.2.row = k
    · simp [e]; omega
    · simp [e]
theorem inH_upd (H : Hp) (r : Int) (g : Ob → Ob) (h : ∀ y, (g y).tail = y.tail) (x : Int) : inH (H.upd r g) x = inH H x := by
  unfold inH Hp.upd
  rw [tailOcc_mapAt _ _ _ _ h]
theorem get_upd (H : Hp) (r x : Int) (g : Ob → Ob) : Mp.get (H.upd r g).objs x = if x = r then (Mp.get H.objs x).map g else Mp.get H.objs x := get_mapAt H.objs r x g
theorem count_one (x r : Int) : [r].count x = if x = r then 1 else 0 := by
  by_cases h : x = r
  · subst h; simp
  · have : ¬ r = x := fun e => h e.symm
    simp [this, h]
theorem Inv.some_of {H : Hp} {r : Int} {st : List Int} (h : Inv H (r :: st)) (h0 : r ≠ 0) : ∃ o, Mp.get H.objs r = some o := by
  cases hg : Mp.get H.objs r with
  | some o => exact ⟨o, rfl⟩
  | none => have := h.ref r h0 hg; simp at this
theorem Inv.zero {H : Hp} {st : List Int} (h : Inv H (0 :: st)) : Inv H st :=
  { h with
    cnt := fun r o ho => by
      rw [h.cnt r o ho]
      have := (h.rng r o ho).1
      have : ¬ (0 : Int) = r := by omega
      simp [this]
    ref := fun r h0 hr => by
      have := h.ref r h0 hr
      have h2 : ¬ (0 : Int) = r := fun e => h0 e.symm
      simpa [h2] using this }
/-- The count of a reference's object goes down: the reference is taken away. -/
theorem Inv.dec {H : Hp} {r : Int} {o : Ob} {st : List Int} (h : Inv H (r :: st)) (ho : Mp.get H.objs r = some o) (hp : 1 ≤ o.holds + (o.rc - 1)) : Inv (H.upd r Ob.dec) st := by
  have hI : ∀ x, inH (H.upd r Ob.dec) x = inH H x := fun x => inH_upd H r Ob.dec (fun _ => rfl) x
  have hc : ∀ x, (r :: st).count x = (if x = r then 1 else 0) + st.count x := fun x => by
    rw [show r :: st = [r] ++ st from rfl, List.count_append, count_one]
  have hg : ∀ x y, Mp.get (H.upd r Ob.dec).objs x = some y → ∃ y0, Mp.get H.objs x = some y0 ∧ (x = r → y = y0.dec) ∧ (x ≠ r → y = y0) := fun x y hy => by
    rw [get_upd] at hy
    by_cases e : x = r
    · subst e
      rw [if_pos rfl, ho] at hy
      injection hy with hy
      exact ⟨o, ho, fun _ => hy.symm, fun h => absurd rfl h⟩
    · rw [if_neg e] at hy
      exact ⟨y, hy, fun h => absurd h e, fun _ => rfl⟩
  refine ⟨?_, h.ndR, ?_, ?_, ?_, ?_, ?_, ?_⟩
  · show ((mapAt H.objs r Ob.dec).map (·.1)).Nodup
    rw [keys_mapAt]
    exact h.ndO
  · intro x y hy
    obtain ⟨y0, h1, _⟩ := hg x y hy
    exact h.rng x y0 h1
  · intro x y hy
    obtain ⟨y0, h1, h2, h3⟩ := hg x y hy
    have h4 := h.cnt x y0 h1
    rw [hc] at h4
    rw [hI]
    by_cases e : x = r
    · rw [h2 e]; rw [if_pos e] at h4; show y0.rc - 1 = _; omega
    · rw [h3 e]; rw [if_neg e] at h4; omega
  · intro x y hy
    obtain ⟨y0, h1, h2, h3⟩ := hg x y hy
    have h4 := h.pos x y0 h1
    by_cases e : x = r
    · rw [h2 e]
      subst e
      rw [ho] at h1
      injection h1 with h1
      subst h1
      exact ⟨h4.1, hp⟩
    · rw [h3 e]; exact h4
  · intro x h0 hx
    rw [get_upd] at hx
    have hx' : Mp.get H.objs x = none := by
      by_cases e : x = r
      · subst e; rw [if_pos rfl, ho] at hx; cases hx
      · rwa [if_neg e] at hx
    have := h.ref x h0 hx'
    rw [hc] at this
    rw [hI]
    omega
  · intro x y hy
    obtain ⟨y0, h1, h2, h3⟩ := hg x y hy
    obtain ⟨z, g1, g2, g3⟩ := h.row x y0 h1
    by_cases e : x = r
    · rw [h2 e]; exact ⟨z, g1, g2, g3⟩
    · rw [h3 e]; exact ⟨z, g1, g2, g3⟩
  · intro k x hx
    have h1 := h.arr k x hx
    rw [show arrC (H.upd r Ob.dec).objs k = arrC H.objs k from arrC_mapAt _ _ _ _ fun _ => rfl]
    exact h1
theorem arrC_del {L : List (Int × Ob)} (hn : (L.map (·.1)).Nodup) {r : Int} {o : Ob} (h : Mp.get L r = some o) (k : Int) : arrC L k = arrC (Mp.del L r) k + if o.row = k then 1 else 0 := by
  rw [arrC_sum, arrC_sum, sum_del _ hn h]
theorem tailOcc_del {L : List (Int × Ob)} (hn : (L.map (·.1)).Nodup) {r : Int} {o : Ob} (h : Mp.get L r = some o) (x : Int) : tailOcc x L = tailOcc x (Mp.del L r) + (tailOf o).count x := by
  unfold tailOcc
  rw [sum_del _ hn h]
theorem rowOcc_del {L : List (Int × Rw)} (hn : (L.map (·.1)).Nodup) {k : Int} {y : Rw} (h : Mp.get L k = some y) (x : Int) : rowOcc x L = rowOcc x (Mp.del L k) + (refsOf y.words).count x := by
  unfold rowOcc
  rw [sum_del _ hn h]
/-- An object whose count has become 0 is freed. -/
theorem Inv.free {H : Hp} {r : Int} {o : Ob} {st : List Int} (h : Inv H (r :: st)) (ho : Mp.get H.objs r = some o) (hp : o.holds + (o.rc - 1) = 0) : Inv (freeH (H.upd r Ob.dec) r o).1 ((freeH (H.upd r Ob.dec) r o).2.reverse ++ st) := by
  have hc : ∀ x, (r :: st).count x = (if x = r then 1 else 0) + st.count x := fun x => by
    rw [show r :: st = [r] ++ st from rfl, List.count_append, count_one]
  have hh := h.pos r o ho
  have hcr := h.cnt r o ho
  rw [hc, if_pos rfl] at hcr
  have hrc : inH H r + st.count r = 0 := by omega
  obtain ⟨y, hy, hyA, hyt⟩ := h.row r o ho
  obtain ⟨ha1, ha2, ha3⟩ := h.arr _ _ hy
  -- the heap without the object
  have e1 : Mp.del (H.upd r Ob.dec).objs r = Mp.del H.objs r := by
    show Mp.del (mapAt H.objs r Ob.dec) r = _
    unfold Mp.del mapAt
    rw [List.filter_map]
    have : ((fun p : Int × Ob => decide (p.1 ≠ r)) ∘ fun p => if p.1 = r then (p.1, Ob.dec p.2) else p) = fun p => decide (p.1 ≠ r) := by
      funext p
      simp only [Function.comp]
      split <;> rfl
    rw [this]
    conv => rhs; rw [← List.map_id (List.filter _ _)]
    apply List.map_congr_left
    intro p hp
    have : p.1 ≠ r := by simpa using (List.mem_filter.1 hp).2
    rw [if_neg this]; rfl
  have hg : ∀ x z, Mp.get (Mp.del H.objs r) x = some z → Mp.get H.objs x = some z ∧ x ≠ r := fun x z hz => by
    rw [Mp.get_del] at hz
    by_cases e : x = r
    · rw [if_pos e] at hz; cases hz
    · rw [if_neg e] at hz; exact ⟨hz, e⟩
  have hn : ∀ x, Mp.get (Mp.del H.objs r) x = none → x = r ∨ Mp.get H.objs x = none := fun x hz => by
    rw [Mp.get_del] at hz
    by_cases e : x = r
    · exact .inl e
    · rw [if_neg e] at hz; exact .inr hz
  have htd := fun x => tailOcc_del h.ndO ho x
  have had := fun k => arrC_del h.ndO ho k
  have key : ∀ (G : Hp) (l : List Int), G.objs = Mp.del H.objs r → G.last = H.last → (G.rows.map (·.1)).Nodup → (∀ x, inH G x + l.count x = inH H x) →
      (∀ k x, Mp.get G.rows k = some x → x.arr = (arrC (Mp.del H.objs r) k : Int) ∧ 1 ≤ x.arr ∧ (x.isA = false → x.arr = 1)) →
      (∀ k x, Mp.get H.rows k = some x → arrC (Mp.del H.objs r) k ≠ 0 → ∃ z, Mp.get G.rows k = some z ∧ z.isA = x.isA) → Inv G (l.reverse ++ st) := by
    intro G l g1 g2 g3 g4 g5 g6
    have hcl : ∀ x, (l.reverse ++ st).count x = l.count x + st.count x := fun x => by rw [List.count_append, List.count_reverse]
    refine ⟨?_, g3, ?_, ?_, ?_, ?_, ?_, ?_⟩
    · rw [g1]; exact Mp.nodup_del h.ndO r
    · intro x z hz
      rw [g1] at hz
      rw [g2]
      exact h.rng x z (hg x z hz).1
    · intro x z hz
      rw [g1] at hz
      obtain ⟨h1, h2⟩ := hg x z hz
      have h3 := h.cnt x z h1
      rw [hc, if_neg h2] at h3
      have h4 := g4 x
      rw [hcl]
      omega
    · intro x z hz
      rw [g1] at hz
      exact h.pos x z (hg x z hz).1
    · intro x h0 hz
      rw [g1] at hz
      have h4 := g4 x
      rw [hcl]
      rcases hn x hz with rfl | h1
      · omega
      · have := h.ref x h0 h1
        rw [hc] at this
        omega
    · intro x z hz
      rw [g1] at hz
      obtain ⟨h1, h2⟩ := hg x z hz
      obtain ⟨y', h3, h4, h5⟩ := h.row x z h1
      have h6 : arrC (Mp.del H.objs r) z.row ≠ 0 := by
        have hm : (x, z) ∈ (Mp.del H.objs r).filter fun p => decide (p.2.row = z.row) := List.mem_filter.2 ⟨Mp.mem_of_get hz, by simp⟩
        unfold arrC
        intro e
        rw [List.length_eq_zero_iff] at e
        rw [e] at hm
        cases hm
      obtain ⟨y2, h7, h8⟩ := g6 _ _ h3 h6
      exact ⟨y2, h7, by rw [h8]; exact h4, h5⟩
    · intro k x hx
      rw [g1]
      exact g5 k x hx
  have hrows : Mp.get (H.upd r Ob.dec).rows o.row = some y := hy
  unfold freeH
  rw [hrows]
  simp only
  by_cases hA : y.isA = true ∧ 0 < y.arr - 1
  · rw [if_pos hA]
    refine key _ [] e1 rfl ?_ ?_ ?_ ?_
    · show ((mapAt H.rows o.row Rw.dec).map (·.1)).Nodup
      rw [keys_mapAt]; exact h.ndR
    · intro x
      have ht := hyt (hyA.1 hA.1)
      have hto : tailOf o = [] := by unfold tailOf; rw [if_pos ht]
      have h1 := htd x
      rw [hto] at h1
      show rowOcc x (mapAt H.rows o.row Rw.dec) + tailOcc x (Mp.del (H.upd r Ob.dec).objs r) + _ = rowOcc x H.rows + tailOcc x H.objs
      rw [e1, rowOcc_mapAt x H.rows o.row Rw.dec (fun _ => rfl)]
      simp at h1 ⊢
      omega
    · intro k x hx
      have hx' : Mp.get (mapAt H.rows o.row Rw.dec) k = some x := hx
      rw [get_mapAt] at hx'
      have h1 := had k
      by_cases e : k = o.row
      · subst e
        rw [if_pos rfl, hy] at hx'
        injection hx' with hx'
        subst hx'
        rw [if_pos rfl] at h1
        have h5 : (Rw.dec y).arr = y.arr - 1 := rfl
        have h6 : (Rw.dec y).isA = y.isA := rfl
        refine ⟨by omega, by omega, ?_⟩
        intro e2
        rw [h6, hA.1] at e2
        cases e2
      · rw [if_neg e] at hx'
        rw [if_neg (fun h2 => e h2.symm)] at h1
        obtain ⟨h2, h3, h4⟩ := h.arr k x hx'
        exact ⟨by omega, h3, h4⟩
    · intro k x hx _
      show ∃ z, Mp.get (mapAt H.rows o.row Rw.dec) k = some z ∧ _
      rw [get_mapAt]
      by_cases e : k = o.row
      · rw [if_pos e, hx]; exact ⟨_, rfl, rfl⟩
      · rw [if_neg e, hx]; exact ⟨_, rfl, rfl⟩
  · rw [if_neg hA]
    have harr : y.arr = 1 := by
      cases hi : y.isA with
      | false => exact ha3 hi
      | true =>
        have : ¬ 0 < y.arr - 1 := fun h2 => hA ⟨hi, h2⟩
        omega
    refine key _ _ e1 rfl (Mp.nodup_del h.ndR _) ?_ ?_ ?_
    · intro x
      have h1 := htd x
      have h2 := rowOcc_del h.ndR hy x
      have h3 : targetsH (H.upd r Ob.dec) o = refsOf y.words ++ tailOf o := by
        unfold targetsH Hp.rowOf
        rw [hrows]; rfl
      show rowOcc x (Mp.del H.rows o.row) + tailOcc x (Mp.del (H.upd r Ob.dec).objs r) + (targetsH (H.upd r Ob.dec) o).count x = rowOcc x H.rows + tailOcc x H.objs
      rw [e1, h3, List.count_append]
      omega
    · intro k x hx
      have hx' : Mp.get (Mp.del H.rows o.row) k = some x := hx
      rw [Mp.get_del] at hx'
      by_cases e : k = o.row
      · rw [if_pos e] at hx'; cases hx'
      · rw [if_neg e] at hx'
        have h1 := had k
        rw [if_neg (fun h2 => e h2.symm)] at h1
        obtain ⟨h2, h3, h4⟩ := h.arr k x hx'
        exact ⟨by omega, h3, h4⟩
    · intro k x hx hne
      show ∃ z, Mp.get (Mp.del H.rows o.row) k = some z ∧ _
      rw [Mp.get_del]
      by_cases e : k = o.row
      · subst e
        have h1 := had o.row
        rw [if_pos rfl] at h1
        omega
      · rw [if_neg e]; exact ⟨x, hx, rfl⟩
/-- Behind release the counts are right. -/
theorem Inv.rel {H : Hp} {st : List Int} (h : Inv H st) : Inv (relH H st) [] := by
  generalize hm : muH H + st.length = m
  induction m using Nat.strongRecOn generalizing H st with
  | ind m ih =>
    cases st with
    | nil => rw [relH_nil]; exact h
    | cons r st =>
      by_cases h0 : r = 0
      · subst h0
        rw [relH_zero]
        exact ih _ (by simp at hm; omega) h.zero rfl
      · obtain ⟨o, ho⟩ := h.some_of h0
        have hp := h.pos r o ho
        by_cases hc : o.holds + (o.rc - 1) = 0
        · rw [relH_free st h0 ho hc]
          refine ih _ ?_ (h.free ho hc) rfl
          have h1 : Mp.get (H.upd r Ob.dec).objs r = some o.dec := by rw [get_upd, if_pos rfl, ho]; rfl
          have h2 := mu_free _ r o _ h1
          rw [mu_upd] at h2
          simp at hm ⊢
          omega
        · rw [relH_keep st h0 ho hc]
          refine ih _ ?_ (h.dec ho (by omega)) rfl
          rw [mu_upd]
          simp at hm
          omega
end Go.Proofs.Ytodfpclekihbhaa

/- The calls of a heap in plain Lean. -/
namespace Go.Proofs.Ytodfpclekihbhaa

def emptyB : ByteArray := ⟨#[]⟩
/-- Is a word right for a place? -/
def fitsH (H : Hp) (ref : Bool) (w : Wd) : Int :=
  if ref = true ∧ w.num ≠ 0 ∨ ref = false ∧ w.ref ≠ 0 then 13 else if w.ref ≠ 0 ∧ Mp.get H.objs w.ref = none then 4 else 0
/-- add: the object gets the next number. -/
def addH (H : Hp) (o : Ob) : Hp := seeH { H with objs := Mp.put H.objs ((H.last : Int) + 1) { o with holds := 1 }, last := H.last + 1 } ((H.last : Int) + 1)
def newRow (H : Hp) (x : Rw) : Hp := { H with rows := Mp.put H.rows ((H.last : Int) + 1) x }
def textH (H : Hp) (c : ByteArray) (wide : Bool) (len : Nat) : Hp × Int × Int :=
  if len = 0 then (H, 0, 0) else (addH (newRow H ⟨[], 1, false⟩) ⟨1, 0, [], c, wide, 0, H.last + 1, 0, 0, 0, 0⟩, H.last + 1, 0)
def arrayH (H : Hp) (cls : Int) (refs : List Bool) (n : Int) : Hp × Int × Int :=
  if 256 < refs.length then (H, 0, 3)
  else if n < 0 ∨ 65536 < n then (H, 0, 11)
  else if 1048576 < n * refs.length then (H, 0, 3)
  else (addH (newRow H ⟨List.replicate (n.toNat * refs.length) ⟨0, 0⟩, 1, true⟩) ⟨2, cls, refs, emptyB, false, 0, H.last + 1, 0, n.toNat, 0, 0⟩, H.last + 1, 0)
def Rw.inc (x : Rw) : Rw := { x with arr := x.arr + 1 }
def partOb (o : Ob) (f t : Int) : Ob := ⟨2, o.cls, o.refs, emptyB, false, 0, o.row, o.lo + f.toNat, o.lo + t.toNat, 0, 0⟩
def partH (H : Hp) (r f t : Int) : Hp × Int × Int :=
  match Mp.get H.objs r with
  | none => (H, 0, 4)
  | some o => if o.kind ≠ 2 then (H, 0, 13) else if f < 0 ∨ t < f ∨ (o.hi : Int) - o.lo < t then (H, 0, 11)
    else (addH (H.updR o.row Rw.inc) (partOb o f t), H.last + 1, 0)
def makeH (H : Hp) (kind cls : Int) (refs : List Bool) : Hp × Int × Int :=
  if kind ≠ 4 ∧ kind ≠ 5 ∧ kind ≠ 6 ∧ kind ≠ 7 then (H, 0, 13)
  else if 256 < refs.length then (H, 0, 3)
  else (addH (newRow H ⟨if kind = 5 then [] else List.replicate refs.length ⟨0, 0⟩, 1, false⟩) ⟨kind, cls, refs, emptyB, false, 0, H.last + 1, 0, 0, 0, 0⟩, H.last + 1, 0)
/-- The first error of words for a shape. -/
def fitsAll (H : Hp) : List Bool → List Wd → Int
  | b :: bs, w :: ws => if fitsH H b w ≠ 0 then fitsH H b w else fitsAll H bs ws
  | _, _ => 0
def noteH (H : Hp) (x : Int) : Hp := seeH (referH H x) x
def consH (H : Hp) (cls : Int) (refs : List Bool) (front : List Wd) (tail : Int) : Hp × Int × Int :=
  if 256 < refs.length then (H, 0, 3)
  else if front.length ≠ refs.length then (H, 0, 14)
  else if fitsAll H refs front ≠ 0 then (H, 0, fitsAll H refs front)
  else if tail ≠ 0 ∧ Mp.get H.objs tail = none then (H, 0, 4)
  else if tail ≠ 0 ∧ (Mp.get H.objs tail).map (·.kind) ≠ some 3 then (H, 0, 13)
  else
    let G := (refsOf front ++ if tail = 0 then [] else [tail]).foldl noteH H
    (addH (newRow G ⟨front, 1, false⟩) ⟨3, cls, refs, emptyB, false, tail, H.last + 1, 0, 0, 0, 0⟩, H.last + 1, 0)
def setW (H : Hp) (k : Int) (i : Nat) (w : Wd) : Hp := H.updR k fun x => { x with words := x.words.set i w }
def refAt (H : Hp) (k : Int) (i : Nat) : Int := (((H.rowOf k)[i]?).map (·.ref)).getD 0
def replaceH (H : Hp) (k : Int) (i : Nat) (w : Wd) : Hp :=
  relH (setW (seeH (seeH (referH H w.ref) w.ref) (refAt H k i)) k i w) [refAt H k i]
/-- Where a word of an object is: its row and its index there. -/
def placeO (H : Hp) (r i : Int) (list : Bool) : Option (Int × Nat) × Int :=
  match Mp.get H.objs r with
  | none => (none, 4)
  | some o => if ¬ (o.kind = 4 ∨ o.kind = 6 ∨ o.kind = 7 ∨ o.kind = 3 ∧ list = true) then (none, 13)
    else if i < 0 ∨ (H.rowOf o.row).length ≤ i then (none, 11) else (some (o.row, i.toNat), 0)
/-- Where a word of an element is. -/
def placeA (H : Hp) (r el i : Int) : Option (Int × Nat) × Int :=
  match Mp.get H.objs r with
  | none => (none, 4)
  | some o => if o.kind ≠ 2 then (none, 13)
    else if el < 0 ∨ (o.hi : Int) - o.lo ≤ el ∨ i < 0 ∨ o.refs.length ≤ i then (none, 11) else (some (o.row, (o.lo + el.toNat) * o.refs.length + i.toNat), 0)
def wordAt (H : Hp) : Option (Int × Nat) × Int → Wd × Int
  | (some (k, i), e) => (((H.rowOf k)[i]?).getD ⟨0, 0⟩, e)
  | (none, e) => (⟨0, 0⟩, e)
def getH (H : Hp) (r i : Int) : Wd × Int := wordAt H (placeO H r i true)
def atH (H : Hp) (r el i : Int) : Wd × Int := wordAt H (placeA H r el i)
def isRef (H : Hp) (r : Int) (i : Int) : Bool := ((((Mp.get H.objs r).map (·.refs)).getD [])[i.toNat]?).getD false
def storeH (H : Hp) (r i : Int) (w : Wd) : Option (Int × Nat) × Int → Hp × Int
  | (some (k, j), _) => if fitsH H (isRef H r i) w ≠ 0 then (H, fitsH H (isRef H r i) w) else (replaceH H k j w, 0)
  | (none, e) => (H, e)
def setH (H : Hp) (r i : Int) (w : Wd) : Hp × Int := storeH H r i w (placeO H r i false)
def putH (H : Hp) (r el i : Int) (w : Wd) : Hp × Int := storeH H r i w (placeA H r el i)
/-- Words are copied one by one; what they replace is noted. -/
def copyW (H : Hp) (k : Int) : Nat → List Wd → Hp × List Int
  | _, [] => (H, [])
  | i, x :: l => ((copyW (setW (seeH (seeH (referH H x.ref) x.ref) (refAt H k i)) k i x) k (i + 1) l).1, refAt H k i :: (copyW (setW (seeH (seeH (referH H x.ref) x.ref) (refAt H k i)) k i x) k (i + 1) l).2)
def copyH (H : Hp) (to_ at_ from_ : Int) : Hp × Int :=
  match Mp.get H.objs to_, Mp.get H.objs from_ with
  | some a, some b =>
    if a.kind ≠ 2 ∨ b.kind ≠ 2 then (H, 13)
    else if a.refs ≠ b.refs then (H, 14)
    else if at_ < 0 ∨ (a.hi : Int) - a.lo - (b.hi - b.lo) < at_ then (H, 11)
    else
      let l := ((H.rowOf b.row).drop (b.lo * a.refs.length)).take ((b.hi - b.lo) * a.refs.length)
      let c := copyW H a.row ((a.lo + at_.toNat) * a.refs.length) l
      (relH c.1 c.2.reverse, 0)
  | _, _ => (H, 4)
def Wd.cut (w : Wd) : Wd := { w with ref := 0 }
def cutRow (x : Rw) : Rw := { x with words := x.words.map Wd.cut }
def Ob.cut (o : Ob) : Ob := { o with tail := 0 }
def clearH (H : Hp) (r : Int) : Hp × Int :=
  match Mp.get H.objs r with
  | none => (H, 4)
  | some o => (relH (seeAll ((H.updR o.row cutRow).upd r Ob.cut) (targetsH H o)) (targetsH H o).reverse, 0)
def Ob.hold (o : Ob) : Ob := { o with holds := o.holds + 1 }
def Ob.drop (o : Ob) : Ob := { o with holds := o.holds - 1 }
def holdH (H : Hp) (r : Int) : Hp × Int := if Mp.get H.objs r = none then (H, 4) else (seeH (H.upd r Ob.hold) r, 0)
def dropH (H : Hp) (r : Int) : Hp × Int :=
  match Mp.get H.objs r with
  | none => (H, 4)
  | some o => if o.holds = 0 then (H, 6)
    else if o.holds - 1 + o.rc = 0 then (relH (freeH (H.upd r Ob.drop) r o).1 (freeH (H.upd r Ob.drop) r o).2.reverse, 0)
    else (H.upd r Ob.drop, 0)
def keysS {α : Type} (L : List (Int × α)) : List Int := (L.map (·.1)).mergeSort (· ≤ ·)
def allH (H : Hp) : List Int := keysS H.objs
def refsH (H : Hp) (r : Int) : List Int := match Mp.get H.objs r with | none => [] | some o => targetsH H o
def watchH (H : Hp) (on : Bool) : Hp := { H with watched := on, seen := [] }
def seenH (H : Hp) : Hp × List Int := ({ H with seen := [] }, (keysS H.seen).filter fun r => (Mp.get H.objs r).isSome)
def kindH (H : Hp) (r : Int) : Int := ((Mp.get H.objs r).map (·.kind)).getD 0
def holdsH (H : Hp) (r : Int) : Int := ((Mp.get H.objs r).map (·.holds)).getD 0
def countH (H : Hp) (r : Int) : Int := ((Mp.get H.objs r).map fun o => o.holds + o.rc).getD 0
end Go.Proofs.Ytodfpclekihbhaa

/- What the calls do to the heap's counts. -/
namespace Go.Proofs.Ytodfpclekihbhaa

theorem seeH_objs (H : Hp) (r : Int) : (seeH H r).objs = H.objs := by unfold seeH; split <;> rfl
theorem seeH_rows (H : Hp) (r : Int) : (seeH H r).rows = H.rows := by unfold seeH; split <;> rfl
theorem seeH_last (H : Hp) (r : Int) : (seeH H r).last = H.last := by unfold seeH; split <;> rfl
theorem Inv.same {H G : Hp} {st : List Int} (h : Inv H st) (h1 : G.objs = H.objs) (h2 : G.rows = H.rows) (h3 : G.last = H.last) : Inv G st := by
  have e : inH G = inH H := by funext x; unfold inH; rw [h1, h2]
  refine ⟨?_, ?_, ?_, ?_, ?_, ?_, ?_, ?_⟩
  · rw [h1]; exact h.ndO
  · rw [h2]; exact h.ndR
  · rw [h1, h3]; exact h.rng
  · rw [h1, e]; exact h.cnt
  · rw [h1]; exact h.pos
  · rw [h1, e]; exact h.ref
  · rw [h1, h2]; exact h.row
  · rw [h1, h2]; exact h.arr
theorem Inv.see {H : Hp} {st : List Int} (h : Inv H st) (r : Int) : Inv (seeH H r) st := h.same (seeH_objs H r) (seeH_rows H r) (seeH_last H r)
theorem seeAll_objs (H : Hp) (l : List Int) : (seeAll H l).objs = H.objs := by
  induction l generalizing H with
  | nil => rfl
  | cons x l ih => exact (ih (seeH H x)).trans (seeH_objs H x)
theorem seeAll_rows (H : Hp) (l : List Int) : (seeAll H l).rows = H.rows := by
  induction l generalizing H with
  | nil => rfl
  | cons x l ih => exact (ih (seeH H x)).trans (seeH_rows H x)
theorem seeAll_last (H : Hp) (l : List Int) : (seeAll H l).last = H.last := by
  induction l generalizing H with
  | nil => rfl
  | cons x l ih => exact (ih (seeH H x)).trans (seeH_last H x)
theorem Inv.perm {H : Hp} {st st' : List Int} (h : Inv H st) (hp : ∀ x, x ≠ 0 → st'.count x = st.count x) : Inv H st' :=
  { h with
    cnt := fun r o ho => by
      have := (h.rng r o ho).1
      rw [hp r (by omega)]; exact h.cnt r o ho
    ref := fun r h0 hr => by rw [hp r h0]; exact h.ref r h0 hr }
/-- The objects turn at one place, in what is no reference. -/
theorem Inv.upd {H : Hp} {r : Int} {o : Ob} {st st' : List Int} (h : Inv H st) (ho : Mp.get H.objs r = some o) (f : Ob → Ob) (f1 : ∀ y, (f y).tail = y.tail) (f2 : ∀ y, (f y).row = y.row) (f3 : ∀ y, (f y).kind = y.kind)
    (hc : (f o).rc = ((inH H r + st'.count r : Nat) : Int)) (hp : 0 ≤ (f o).holds ∧ 1 ≤ (f o).holds + (f o).rc) (hs : ∀ x, x ≠ 0 → x ≠ r → st'.count x = st.count x) : Inv (H.upd r f) st' := by
  have hI : ∀ x, inH (H.upd r f) x = inH H x := fun x => inH_upd H r f f1 x
  have hg : ∀ x y, Mp.get (H.upd r f).objs x = some y → ∃ y0, Mp.get H.objs x = some y0 ∧ (x = r → y = f y0) ∧ (x ≠ r → y = y0) := fun x y hy => by
    rw [get_upd] at hy
    by_cases e : x = r
    · subst e
      rw [if_pos rfl, ho] at hy
      injection hy with hy
      exact ⟨o, ho, fun _ => hy.symm, fun h => absurd rfl h⟩
    · rw [if_neg e] at hy
      exact ⟨y, hy, fun h => absurd h e, fun _ => rfl⟩
  refine ⟨?_, h.ndR, ?_, ?_, ?_, ?_, ?_, ?_⟩
  · show ((mapAt H.objs r f).map (·.1)).Nodup
    rw [keys_mapAt]
    exact h.ndO
  · intro x y hy
    obtain ⟨y0, h1, _⟩ := hg x y hy
    exact h.rng x y0 h1
  · intro x y hy
    obtain ⟨y0, h1, h2, h3⟩ := hg x y hy
    have h4 := h.cnt x y0 h1
    have h5 := (h.rng x y0 h1).1
    rw [hI]
    by_cases e : x = r
    · subst e
      rw [ho] at h1
      injection h1 with h1
      rw [h2 rfl, ← h1]; exact hc
    · rw [h3 e, hs x (by omega) e]; exact h4
  · intro x y hy
    obtain ⟨y0, h1, h2, h3⟩ := hg x y hy
    by_cases e : x = r
    · subst e
      rw [ho] at h1
      injection h1 with h1
      rw [h2 rfl, ← h1]; exact hp
    · rw [h3 e]; exact h.pos x y0 h1
  · intro x h0 hx
    have hx' : Mp.get H.objs x = none ∧ x ≠ r := by
      rw [get_upd] at hx
      by_cases e : x = r
      · subst e; rw [if_pos rfl, ho] at hx; cases hx
      · exact ⟨by rwa [if_neg e] at hx, e⟩
    rw [hI, hs x h0 hx'.2]
    exact h.ref x h0 hx'.1
  · intro x y hy
    obtain ⟨y0, h1, h2, h3⟩ := hg x y hy
    obtain ⟨z, g1, g2, g3⟩ := h.row x y0 h1
    by_cases e : x = r
    · rw [h2 e, f1, f2, f3]; exact ⟨z, g1, g2, g3⟩
    · rw [h3 e]; exact ⟨z, g1, g2, g3⟩
  · intro k x hx
    rw [show arrC (H.upd r f).objs k = arrC H.objs k from arrC_mapAt _ _ _ _ f2]
    exact h.arr k x hx
theorem count_cons' (x r : Int) (st : List Int) : (r :: st).count x = (if x = r then 1 else 0) + st.count x := by
  rw [show r :: st = [r] ++ st from rfl, List.count_append, count_one]
theorem Inv.refer {H : Hp} {r : Int} {o : Ob} {st : List Int} (h : Inv H st) (ho : Mp.get H.objs r = some o) : Inv (H.upd r Ob.inc) (r :: st) := by
  have h1 := h.cnt r o ho
  have h2 := h.pos r o ho
  refine h.upd ho Ob.inc (fun _ => rfl) (fun _ => rfl) (fun _ => rfl) ?_ ?_ ?_
  · rw [count_cons', if_pos rfl]; show o.rc + 1 = _; omega
  · exact ⟨h2.1, by show 1 ≤ o.holds + (o.rc + 1); omega⟩
  · intro x _ e; rw [count_cons', if_neg e]; omega
theorem Inv.referH {H : Hp} {r : Int} {st : List Int} (h : Inv H st) (ho : r = 0 ∨ Mp.get H.objs r ≠ none) : Inv (referH H r) (r :: st) := by
  unfold Go.Proofs.Ytodfpclekihbhaa.referH
  by_cases h0 : r = 0
  · rw [if_pos h0]
    exact h.perm fun x hx => by rw [count_cons', if_neg (by rw [h0]; exact hx)]; omega
  · rw [if_neg h0]
    cases hg : Mp.get H.objs r with
    | none => exact absurd hg (ho.resolve_left h0)
    | some o => exact h.refer hg
theorem Inv.hold {H : Hp} {r : Int} {o : Ob} {st : List Int} (h : Inv H st) (ho : Mp.get H.objs r = some o) : Inv (H.upd r Ob.hold) st := by
  have h1 := h.cnt r o ho
  have h2 := h.pos r o ho
  exact h.upd ho Ob.hold (fun _ => rfl) (fun _ => rfl) (fun _ => rfl) h1 ⟨by show 0 ≤ o.holds + 1; omega, by show 1 ≤ o.holds + 1 + o.rc; omega⟩ fun _ _ _ => rfl
theorem Inv.drop {H : Hp} {r : Int} {o : Ob} {st : List Int} (h : Inv H st) (ho : Mp.get H.objs r = some o) (h0 : o.holds ≠ 0) (hc : o.holds - 1 + o.rc ≠ 0) : Inv (H.upd r Ob.drop) st := by
  have h1 := h.cnt r o ho
  have h2 := h.pos r o ho
  exact h.upd ho Ob.drop (fun _ => rfl) (fun _ => rfl) (fun _ => rfl) h1 ⟨by show 0 ≤ o.holds - 1; omega, by show 1 ≤ o.holds - 1 + o.rc; omega⟩ fun _ _ _ => rfl
theorem mapAt_mapAt {α : Type} (L : List (Int × α)) (r : Int) (f g : α → α) : mapAt (mapAt L r f) r g = mapAt L r (g ∘ f) := by
  unfold mapAt
  rw [List.map_map]
  apply List.map_congr_left
  intro p _
  simp only [Function.comp]
  by_cases e : p.1 = r
  · simp [e]
  · simp [e]
/-- An object that is held no more, and whose count is 0, is freed. -/
theorem Inv.drop0 {H : Hp} {r : Int} {o : Ob} {st : List Int} (h : Inv H st) (ho : Mp.get H.objs r = some o) (h0 : o.holds ≠ 0) (hc : o.holds - 1 + o.rc = 0) : Inv (freeH (H.upd r Ob.drop) r o).1 ((freeH (H.upd r Ob.drop) r o).2.reverse ++ st) := by
  have h1 := h.cnt r o ho
  have h2 := h.pos r o ho
  let f : Ob → Ob := fun o => { o with holds := o.holds - 1, rc := o.rc + 1 }
  have hI : Inv (H.upd r f) (r :: st) := by
    refine h.upd ho f (fun _ => rfl) (fun _ => rfl) (fun _ => rfl) ?_ ⟨?_, ?_⟩ ?_
    · rw [count_cons', if_pos rfl]; show o.rc + 1 = _; omega
    · show 0 ≤ o.holds - 1; omega
    · show 1 ≤ o.holds - 1 + (o.rc + 1); omega
    · intro x _ e; rw [count_cons', if_neg e]; omega
  have ho' : Mp.get (H.upd r f).objs r = some (f o) := by rw [get_upd, if_pos rfl, ho]; rfl
  have h3 := hI.free ho' (by show o.holds - 1 + (o.rc + 1 - 1) = 0; omega)
  have e1 : (H.upd r f).upd r Ob.dec = H.upd r Ob.drop := by
    unfold Hp.upd
    simp only [mapAt_mapAt]
    congr 2
    funext y
    show Ob.dec (f y) = Ob.drop y
    unfold Ob.dec Ob.drop
    simp only [f]
    congr 1
    omega
  rw [e1] at h3
  exact h3
theorem del_mapAt {α : Type} (L : List (Int × α)) (k : Int) (f : α → α) : Mp.del (mapAt L k f) k = Mp.del L k := by
  unfold Mp.del mapAt
  rw [List.filter_map]
  have : ((fun p : Int × α => decide (p.1 ≠ k)) ∘ fun p => if p.1 = k then (p.1, f p.2) else p) = fun p => decide (p.1 ≠ k) := by
    funext p
    simp only [Function.comp]
    split <;> rfl
  rw [this]
  conv => rhs; rw [← List.map_id (List.filter _ _)]
  apply List.map_congr_left
  intro p hp
  have : p.1 ≠ k := by simpa using (List.mem_filter.1 hp).2
  rw [if_neg this]; rfl
theorem refsOf_append (a b : List Wd) : refsOf (a ++ b) = refsOf a ++ refsOf b := by
  unfold refsOf
  rw [List.map_append, List.filter_append]
theorem refsOf_one (x : Wd) : refsOf [x] = if x.ref = 0 then [] else [x.ref] := by
  unfold refsOf
  by_cases e : x.ref = 0 <;> simp [e]
theorem count_set (l : List Wd) (i : Nat) (w : Wd) (x : Int) (hx : x ≠ 0) (h : i < l.length) : (refsOf (l.set i w)).count x + (if x = (l[i]'h).ref then 1 else 0) = (refsOf l).count x + (if x = w.ref then 1 else 0) := by
  have key : ∀ w : Wd, (refsOf (l.set i w)).count x = (refsOf (l.take i)).count x + (if x = w.ref then 1 else 0) + (refsOf (l.drop (i + 1))).count x := fun w => by
    rw [List.set_eq_take_append_cons_drop, if_pos h, show w :: l.drop (i + 1) = [w] ++ l.drop (i + 1) from rfl, refsOf_append, refsOf_append, List.count_append, List.count_append, refsOf_one]
    by_cases e : w.ref = 0
    · rw [if_pos e, if_neg (by rw [e]; exact hx)]; simp
    · rw [if_neg e, count_one]; omega
  have k1 := key w
  have k2 := key (l[i]'h)
  rw [List.set_getElem_self] at k2
  omega
theorem refAt_eq {H : Hp} {k : Int} {y : Rw} (hy : Mp.get H.rows k = some y) (i : Nat) (h : i < y.words.length) : refAt H k i = (y.words[i]'h).ref := by
  unfold refAt Hp.rowOf
  rw [hy]
  simp [h]
/-- A word is replaced whose new reference has been counted: the old one is to be taken away. -/
theorem Inv.setW {H : Hp} {k : Int} {i : Nat} {w : Wd} {st : List Int} (h : Inv H (w.ref :: st)) {y : Rw} (hy : Mp.get H.rows k = some y) (hi : i < y.words.length) : Inv (setW H k i w) (refAt H k i :: st) := by
  let f : Rw → Rw := fun x => { x with words := x.words.set i w }
  have hr := fun x => rowOcc_del h.ndR hy x
  have hgf : Mp.get (mapAt H.rows k f) k = some (f y) := by rw [get_mapAt, if_pos rfl, hy]; rfl
  have hn2 : ((mapAt H.rows k f).map (·.1)).Nodup := by rw [keys_mapAt]; exact h.ndR
  have hd : Mp.del (mapAt H.rows k f) k = Mp.del H.rows k := by
    unfold Mp.del mapAt
    rw [List.filter_map]
    have : ((fun p : Int × Rw => decide (p.1 ≠ k)) ∘ fun p => if p.1 = k then (p.1, f p.2) else p) = fun p => decide (p.1 ≠ k) := by
      funext p
      simp only [Function.comp]
      split <;> rfl
    rw [this]
    conv => rhs; rw [← List.map_id (List.filter _ _)]
    apply List.map_congr_left
    intro p hp
    have : p.1 ≠ k := by simpa using (List.mem_filter.1 hp).2
    rw [if_neg this]; rfl
  have hr2 := fun x => rowOcc_del hn2 hgf x
  rw [hd] at hr2
  have hI : ∀ x, x ≠ 0 → inH (Go.Proofs.Ytodfpclekihbhaa.setW H k i w) x + (if x = refAt H k i then 1 else 0) = inH H x + (if x = w.ref then 1 else 0) := fun x hx => by
    have h1 := count_set y.words i w x hx hi
    rw [refAt_eq hy i hi]
    show rowOcc x (mapAt H.rows k f) + tailOcc x H.objs + _ = rowOcc x H.rows + tailOcc x H.objs + _
    rw [hr, hr2]
    show rowOcc x (Mp.del H.rows k) + (refsOf (y.words.set i w)).count x + _ + _ = _
    omega
  refine ⟨h.ndO, hn2, h.rng, ?_, h.pos, ?_, ?_, ?_⟩
  · intro r o ho
    have h1 := h.cnt r o ho
    have h2 := (h.rng r o ho).1
    have h3 := hI r (by omega)
    rw [count_cons'] at h1 ⊢
    omega
  · intro r h0 hr0
    have h1 := h.ref r h0 hr0
    have h3 := hI r h0
    rw [count_cons'] at h1 ⊢
    omega
  · intro r o ho
    obtain ⟨z, h1, h2, h3⟩ := h.row r o ho
    show ∃ x, Mp.get (mapAt H.rows k f) o.row = some x ∧ _
    rw [get_mapAt]
    by_cases e : o.row = k
    · rw [if_pos e, h1]; exact ⟨_, rfl, h2, h3⟩
    · rw [if_neg e]; exact ⟨z, h1, h2, h3⟩
  · intro j x hx
    have hx' : Mp.get (mapAt H.rows k f) j = some x := hx
    rw [get_mapAt] at hx'
    by_cases e : j = k
    · subst e
      rw [if_pos rfl, hy] at hx'
      injection hx' with hx'
      subst hx'
      exact h.arr j y hy
    · rw [if_neg e] at hx'
      exact h.arr j x hx'
theorem fresh_of {H : Hp} {st : List Int} (h : Inv H st) : Mp.get H.objs ((H.last : Int) + 1) = none ∧ (∀ k x, Mp.get H.rows k = some x → ∃ r o, Mp.get H.objs r = some o ∧ o.row = k) := by
  constructor
  · cases hg : Mp.get H.objs ((H.last : Int) + 1) with
    | none => rfl
    | some o => have := h.rng _ _ hg; omega
  · intro k x hx
    obtain ⟨h1, h2, _⟩ := h.arr k x hx
    have h3 : arrC H.objs k ≠ 0 := by omega
    unfold arrC at h3
    obtain ⟨p, hp⟩ := List.exists_mem_of_length_pos (Nat.pos_of_ne_zero h3)
    obtain ⟨h4, h5⟩ := List.mem_filter.1 hp
    exact ⟨p.1, p.2, Mp.get_of_mem h.ndO h4, by simpa using h5⟩
theorem put_fresh {α : Type} {L : List (Int × α)} {k : Int} {a : α} (h : Mp.get L k = none) : Mp.put L k a = L ++ [(k, a)] := by
  unfold Mp.put
  rw [h]
  simp
theorem addH_objs (H : Hp) (o : Ob) : (addH H o).objs = Mp.put H.objs ((H.last : Int) + 1) { o with holds := 1 } := seeH_objs _ _
theorem addH_rows (H : Hp) (o : Ob) : (addH H o).rows = H.rows := seeH_rows _ _
theorem addH_last (H : Hp) (o : Ob) : (addH H o).last = H.last + 1 := seeH_last _ _
/-- An object is added to a row, new or known. -/
theorem Inv.add {H G : Hp} {o : Ob} {st : List Int} (h : Inv H st) (hobj : G.objs = H.objs) (hlast : G.last = H.last) (hnd : (G.rows.map (·.1)).Nodup) (hrc : o.rc = 0) (hh : o.holds = 0)
    (hc : ∀ x, x ≠ 0 → rowOcc x G.rows + (tailOf o).count x = rowOcc x H.rows + st.count x)
    (hrow : ∀ k x, Mp.get H.rows k = some x → ∃ z, Mp.get G.rows k = some z ∧ z.isA = x.isA)
    (ho : ∃ x, Mp.get G.rows o.row = some x ∧ (x.isA = true ↔ o.kind = 2) ∧ (o.kind = 2 → o.tail = 0))
    (harr : ∀ k x, Mp.get G.rows k = some x → x.arr = ((arrC H.objs k + if o.row = k then 1 else 0 : Nat) : Int) ∧ 1 ≤ x.arr ∧ (x.isA = false → x.arr = 1)) : Inv (addH G o) [] := by
  obtain ⟨hf, _⟩ := fresh_of h
  have e1 : (addH G o).objs = H.objs ++ [((H.last : Int) + 1, { o with holds := 1 })] := by rw [addH_objs, hobj, hlast, put_fresh hf]
  have e2 : (addH G o).rows = G.rows := addH_rows _ _
  have e3 : (addH G o).last = H.last + 1 := by rw [addH_last, hlast]
  have hI : ∀ x, x ≠ 0 → inH (addH G o) x = inH H x + st.count x := fun x hx => by
    unfold inH
    rw [e1, e2]
    have : tailOcc x (H.objs ++ [((H.last : Int) + 1, { o with holds := 1 })]) = tailOcc x H.objs + (tailOf o).count x := by
      unfold tailOcc
      rw [List.map_append, List.sum_append]
      simp only [List.map_cons, List.map_nil, List.sum_cons, List.sum_nil, Nat.add_zero, tailOf]
    rw [this]
    have := hc x hx
    omega
  have hg : ∀ x, Mp.get (addH G o).objs x = if x = (H.last : Int) + 1 then some { o with holds := 1 } else Mp.get H.objs x := fun x => by
    rw [addH_objs, hobj, hlast, Mp.get_put]
  have hlastN : ((H.last + 1 : Nat) : Int) = (H.last : Int) + 1 := by omega
  refine ⟨?_, by rw [e2]; exact hnd, ?_, ?_, ?_, ?_, ?_, ?_⟩
  · rw [addH_objs, hobj]; exact Mp.nodup_put h.ndO _ _
  · intro x y hy
    rw [hg] at hy
    rw [e3]
    by_cases e : x = (H.last : Int) + 1
    · omega
    · rw [if_neg e] at hy
      have := h.rng x y hy
      omega
  · intro x y hy
    rw [hg] at hy
    by_cases e : x = (H.last : Int) + 1
    · rw [if_pos e] at hy
      injection hy with hy
      have h1 := h.ref x (by omega) (by rw [e]; exact hf)
      have h2 := hI x (by omega)
      rw [← hy]
      show o.rc = _
      rw [hrc, List.count_nil]
      omega
    · rw [if_neg e] at hy
      have h1 := h.cnt x y hy
      have h2 := (h.rng x y hy).1
      have h3 := hI x (by omega)
      rw [List.count_nil]
      omega
  · intro x y hy
    rw [hg] at hy
    by_cases e : x = (H.last : Int) + 1
    · rw [if_pos e] at hy
      injection hy with hy
      rw [← hy]
      show 0 ≤ (1 : Int) ∧ 1 ≤ 1 + o.rc
      omega
    · rw [if_neg e] at hy
      exact h.pos x y hy
  · intro x h0 hx
    rw [hg] at hx
    by_cases e : x = (H.last : Int) + 1
    · rw [if_pos e] at hx; cases hx
    · rw [if_neg e] at hx
      have h1 := h.ref x h0 hx
      have h3 := hI x h0
      rw [List.count_nil]
      omega
  · intro x y hy
    rw [hg] at hy
    rw [e2]
    by_cases e : x = (H.last : Int) + 1
    · rw [if_pos e] at hy
      injection hy with hy
      rw [← hy]
      exact ho
    · rw [if_neg e] at hy
      obtain ⟨z, h1, h2, h3⟩ := h.row x y hy
      obtain ⟨z', h4, h5⟩ := hrow _ _ h1
      exact ⟨z', h4, by rw [h5]; exact h2, h3⟩
  · intro k x hx
    rw [e2] at hx
    have h1 := harr k x hx
    have h2 : arrC (addH G o).objs k = arrC H.objs k + if o.row = k then 1 else 0 := by
      rw [e1, arrC_sum, arrC_sum, List.map_append, List.sum_append]
      simp
    rw [h2]
    exact h1
theorem not_row_fresh {H : Hp} {st : List Int} (h : Inv H st) (hk : ∀ r o, Mp.get H.objs r = some o → o.row ≤ H.last) : Mp.get H.rows ((H.last : Int) + 1) = none := by
  cases hg : Mp.get H.rows ((H.last : Int) + 1) with
  | none => rfl
  | some x =>
    obtain ⟨r, o, h1, h2⟩ := (fresh_of h).2 _ _ hg
    have := hk r o h1
    omega
/-- An object with a row of its own is added. -/
theorem Inv.addNew {H : Hp} {o : Ob} {x : Rw} {st : List Int} (h : Inv H st) (hk : ∀ r o, Mp.get H.objs r = some o → o.row ≤ H.last) (hrc : o.rc = 0) (hh : o.holds = 0) (hrow : o.row = H.last + 1) (hx : x.arr = 1) (hA : x.isA = true ↔ o.kind = 2) (ht : o.kind = 2 → o.tail = 0)
    (hc : ∀ y, y ≠ 0 → (refsOf x.words).count y + (tailOf o).count y = st.count y) : Inv (addH (newRow H x) o) [] := by
  have hf := not_row_fresh h hk
  have e1 : (newRow H x).rows = H.rows ++ [((H.last : Int) + 1, x)] := put_fresh hf
  refine h.add (G := newRow H x) rfl rfl (Mp.nodup_put h.ndR _ _) hrc hh ?_ ?_ ⟨x, ?_, hA, ht⟩ ?_
  · intro y hy
    have := hc y hy
    rw [e1]
    have : rowOcc y (H.rows ++ [((H.last : Int) + 1, x)]) = rowOcc y H.rows + (refsOf x.words).count y := by
      unfold rowOcc
      rw [List.map_append, List.sum_append]
      simp only [List.map_cons, List.map_nil, List.sum_cons, List.sum_nil, Nat.add_zero]
    omega
  · intro k z hz
    refine ⟨z, ?_, rfl⟩
    show Mp.get (Mp.put H.rows ((H.last : Int) + 1) x) k = some z
    rw [Mp.get_put, if_neg (fun e => by rw [e, hf] at hz; cases hz)]
    exact hz
  · show Mp.get (Mp.put H.rows ((H.last : Int) + 1) x) o.row = some x
    rw [Mp.get_put, if_pos hrow]
  · intro k z hz
    have hz' : Mp.get (Mp.put H.rows ((H.last : Int) + 1) x) k = some z := hz
    rw [Mp.get_put] at hz'
    by_cases e : k = (H.last : Int) + 1
    · rw [if_pos e] at hz'
      injection hz' with hz'
      subst hz'
      have h0 : arrC H.objs k = 0 := by
        unfold arrC
        rw [List.length_eq_zero_iff, List.filter_eq_nil_iff]
        intro p hp
        have := hk p.1 p.2 (Mp.get_of_mem h.ndO hp)
        simp
        omega
      rw [if_pos (by rw [e, hrow]), h0, hx]
      simp
    · rw [if_neg e] at hz'
      rw [if_neg (by rw [hrow]; exact fun h2 => e h2.symm)]
      exact h.arr k z hz'
theorem Inv.part {H : Hp} {r : Int} {o : Ob} (h : Inv H []) (ho : Mp.get H.objs r = some o) (hk : o.kind = 2) (f t : Int) : Inv (addH (H.updR o.row Rw.inc) (partOb o f t)) [] := by
  obtain ⟨y, hy, hyA, hyt⟩ := h.row r o ho
  refine h.add (G := H.updR o.row Rw.inc) rfl rfl (by show ((mapAt H.rows o.row Rw.inc).map (·.1)).Nodup; rw [keys_mapAt]; exact h.ndR) rfl rfl ?_ ?_ ?_ ?_
  · intro x _
    show rowOcc x (mapAt H.rows o.row Rw.inc) + _ = _
    rw [rowOcc_mapAt x H.rows o.row Rw.inc (fun _ => rfl)]
    simp [partOb, tailOf]
  · intro k x hx
    show ∃ z, Mp.get (mapAt H.rows o.row Rw.inc) k = some z ∧ _
    rw [get_mapAt]
    by_cases e : k = o.row
    · rw [if_pos e, hx]; exact ⟨_, rfl, rfl⟩
    · rw [if_neg e, hx]; exact ⟨_, rfl, rfl⟩
  · refine ⟨y.inc, ?_, ?_, fun _ => rfl⟩
    · show Mp.get (mapAt H.rows o.row Rw.inc) o.row = _
      rw [get_mapAt, if_pos rfl, hy]; rfl
    · show y.isA = true ↔ (2 : Int) = 2
      rw [hyA, hk]
  · intro k x hx
    have hx' : Mp.get (mapAt H.rows o.row Rw.inc) k = some x := hx
    rw [get_mapAt] at hx'
    by_cases e : k = o.row
    · subst e
      rw [if_pos rfl, hy] at hx'
      injection hx' with hx'
      subst hx'
      obtain ⟨h1, h2, h3⟩ := h.arr _ _ hy
      rw [if_pos (show (partOb o f t).row = o.row from rfl)]
      refine ⟨by show y.arr + 1 = _; omega, by show 1 ≤ y.arr + 1; omega, ?_⟩
      intro e2
      have : y.isA = true := hyA.2 hk
      rw [show y.inc.isA = y.isA from rfl, this] at e2
      cases e2
    · rw [if_neg e] at hx'
      rw [if_neg (show ¬ (partOb o f t).row = k from fun h2 => e h2.symm)]
      exact h.arr k x hx'
theorem cut_refs (l : List Wd) : refsOf (l.map Wd.cut) = [] := by
  unfold refsOf
  rw [List.map_map, List.filter_eq_nil_iff]
  intro x hx
  obtain ⟨y, _, rfl⟩ := List.mem_map.1 hx
  simp [Wd.cut]
/-- An object's references are set to 0: they are to be taken away. -/
theorem Inv.cut {H : Hp} {r : Int} {o : Ob} (h : Inv H []) (ho : Mp.get H.objs r = some o) : Inv ((H.updR o.row cutRow).upd r Ob.cut) (targetsH H o).reverse := by
  obtain ⟨y, hy, hyA, hyt⟩ := h.row r o ho
  have hr := fun x => rowOcc_del h.ndR hy x
  have hgf : Mp.get (mapAt H.rows o.row cutRow) o.row = some (cutRow y) := by rw [get_mapAt, if_pos rfl, hy]; rfl
  have hn2 : ((mapAt H.rows o.row cutRow).map (·.1)).Nodup := by rw [keys_mapAt]; exact h.ndR
  have hdel : ∀ {α : Type} (L : List (Int × α)) (k : Int) (f : α → α), Mp.del (mapAt L k f) k = Mp.del L k := by
    intro α L k f
    unfold Mp.del mapAt
    rw [List.filter_map]
    have : ((fun p : Int × α => decide (p.1 ≠ k)) ∘ fun p => if p.1 = k then (p.1, f p.2) else p) = fun p => decide (p.1 ≠ k) := by
      funext p
      simp only [Function.comp]
      split <;> rfl
    rw [this]
    conv => rhs; rw [← List.map_id (List.filter _ _)]
    apply List.map_congr_left
    intro p hp
    have : p.1 ≠ k := by simpa using (List.mem_filter.1 hp).2
    rw [if_neg this]; rfl
  have hr2 := fun x => rowOcc_del hn2 hgf x
  have hgo : Mp.get (mapAt H.objs r Ob.cut) r = some o.cut := by rw [get_mapAt, if_pos rfl, ho]; rfl
  have hno : ((mapAt H.objs r Ob.cut).map (·.1)).Nodup := by rw [keys_mapAt]; exact h.ndO
  have ht := fun x => tailOcc_del h.ndO ho x
  have ht2 := fun x => tailOcc_del hno hgo x
  rw [hdel] at hr2 ht2
  have hI : ∀ x, inH ((H.updR o.row cutRow).upd r Ob.cut) x + ((targetsH H o).reverse).count x = inH H x := fun x => by
    have h3 : targetsH H o = refsOf y.words ++ tailOf o := by
      unfold targetsH Hp.rowOf
      rw [hy]; rfl
    have h1 := hr x
    have h2 := hr2 x
    have h4 := ht x
    have h5 := ht2 x
    rw [show (cutRow y).words = y.words.map Wd.cut from rfl, cut_refs] at h2
    rw [show tailOf o.cut = [] from rfl] at h5
    rw [List.count_reverse, h3, List.count_append]
    show rowOcc x (mapAt H.rows o.row cutRow) + tailOcc x (mapAt H.objs r Ob.cut) + _ = rowOcc x H.rows + tailOcc x H.objs
    simp only [List.count_nil] at h2 h5
    omega
  have hg : ∀ x z, Mp.get ((H.updR o.row cutRow).upd r Ob.cut).objs x = some z → ∃ z0, Mp.get H.objs x = some z0 ∧ z.rc = z0.rc ∧ z.holds = z0.holds ∧ z.row = z0.row ∧ z.kind = z0.kind ∧ (z0.tail = 0 → z.tail = 0) := fun x z hz => by
    rw [get_upd] at hz
    by_cases e : x = r
    · subst e
      have ho' : Mp.get (H.updR o.row cutRow).objs x = some o := ho
      rw [if_pos rfl, ho'] at hz
      injection hz with hz
      subst hz
      exact ⟨o, ho, rfl, rfl, rfl, rfl, fun _ => rfl⟩
    · rw [if_neg e] at hz
      exact ⟨z, hz, rfl, rfl, rfl, rfl, fun h => h⟩
  refine ⟨hno, hn2, ?_, ?_, ?_, ?_, ?_, ?_⟩
  · intro x z hz
    obtain ⟨z0, h1, _⟩ := hg x z hz
    exact h.rng x z0 h1
  · intro x z hz
    obtain ⟨z0, h1, h2, _⟩ := hg x z hz
    have h3 := h.cnt x z0 h1
    have h4 := hI x
    rw [List.count_nil] at h3
    omega
  · intro x z hz
    obtain ⟨z0, h1, h2, h3, _⟩ := hg x z hz
    rw [h2, h3]
    exact h.pos x z0 h1
  · intro x h0 hx
    have h4 := hI x
    have hx' : Mp.get H.objs x = none := by
      rw [get_upd] at hx
      by_cases e : x = r
      · subst e
        have ho' : Mp.get (H.updR o.row cutRow).objs x = some o := ho
        rw [if_pos rfl, ho'] at hx
        cases hx
      · rwa [if_neg e] at hx
    have := h.ref x h0 hx'
    rw [List.count_nil] at this
    omega
  · intro x z hz
    obtain ⟨z0, h1, h2, h3, h4, h5, h6⟩ := hg x z hz
    obtain ⟨y0, g1, g2, g3⟩ := h.row x z0 h1
    rw [h4, h5]
    show ∃ x, Mp.get (mapAt H.rows o.row cutRow) z0.row = some x ∧ _
    rw [get_mapAt]
    by_cases e : z0.row = o.row
    · rw [if_pos e, g1]; exact ⟨_, rfl, g2, fun hk => h6 (g3 hk)⟩
    · rw [if_neg e]; exact ⟨y0, g1, g2, fun hk => h6 (g3 hk)⟩
  · intro k x hx
    have hx' : Mp.get (mapAt H.rows o.row cutRow) k = some x := hx
    rw [show arrC ((H.updR o.row cutRow).upd r Ob.cut).objs k = arrC H.objs k from arrC_mapAt H.objs r k Ob.cut fun _ => rfl]
    rw [get_mapAt] at hx'
    by_cases e : k = o.row
    · subst e
      rw [if_pos rfl, hy] at hx'
      injection hx' with hx'
      subst hx'
      exact h.arr _ y hy
    · rw [if_neg e] at hx'
      exact h.arr k x hx'
/-- How often an object is referred to is bounded. -/
theorem inH_le (H : Hp) (x : Int) : inH H x ≤ wsum H.rows + H.objs.length := by
  have h1 : rowOcc x H.rows ≤ wsum H.rows := by
    unfold rowOcc wsum
    induction H.rows with
    | nil => exact Nat.le_refl _
    | cons p L ih =>
      simp only [List.map_cons, List.sum_cons]
      have := List.count_le_length (a := x) (l := refsOf p.2.words)
      have := len_refsOf p.2.words
      omega
  have h2 : tailOcc x H.objs ≤ H.objs.length := by
    unfold tailOcc
    induction H.objs with
    | nil => exact Nat.le_refl _
    | cons p L ih =>
      simp only [List.map_cons, List.sum_cons, List.length_cons]
      have := List.count_le_length (a := x) (l := tailOf p.2)
      have : (tailOf p.2).length ≤ 1 := by unfold tailOf; split <;> simp
      omega
  unfold inH
  omega
theorem words_le {H : Hp} {k : Int} {y : Rw} (h : Mp.get H.rows k = some y) : y.words.length ≤ wsum H.rows := sum_le_of_mem (fun p : Int × Rw => p.2.words.length) (Mp.mem_of_get h)
theorem mu_see (H : Hp) (r : Int) : muH (seeH H r) = muH H := by unfold muH; rw [seeH_rows, seeH_objs]
end Go.Proofs.Ytodfpclekihbhaa

/- What holds of every heap that calls have made: what does not concern the counts. -/
namespace Go.Proofs.Ytodfpclekihbhaa

/-- Objects with words have as many as their shape says. -/
def LenOk (H : Hp) : Prop := ∀ r o x, Mp.get H.objs r = some o → Mp.get H.rows o.row = some x → (o.kind ≠ 2 → o.kind ≠ 1 → o.kind ≠ 5 → x.words.length = o.refs.length) ∧ (o.kind = 2 → o.lo ≤ o.hi ∧ o.hi * o.refs.length ≤ x.words.length ∧ o.hi ≤ 100000) ∧ o.refs.length ≤ 256
theorem words_le_mu {H : Hp} {k : Int} {y : Rw} (h : Mp.get H.rows k = some y) : y.words.length ≤ muH H := by have := words_le h; unfold muH; omega
def HoldsLe (H : Hp) (n : Int) : Prop := ∀ r o, Mp.get H.objs r = some o → o.holds ≤ n
structure St (H : Hp) (N : Nat) : Prop where
  last : H.last ≤ N
  holds : HoldsLe H (N : Int)
  words : wsum H.rows ≤ 15000 * N
  own : ∀ r o, Mp.get H.objs r = some o → 1 ≤ o.row ∧ o.row ≤ H.last ∧ (o.kind ≠ 2 → o.row = r)
  len : LenOk H
  kind : ∀ r o, Mp.get H.objs r = some o → 1 ≤ o.kind ∧ o.kind ≤ 7
  tail : ∀ r o, Mp.get H.objs r = some o → o.tail ≠ 0 → o.kind = 3 ∧ o.tail < r ∧ ∀ t, Mp.get H.objs o.tail = some t → t.kind = 3
structure Sub (H G : Hp) : Prop where
  last : G.last = H.last
  words : wsum G.rows ≤ wsum H.rows
  obj : ∀ r o, Mp.get G.objs r = some o → ∃ o0, Mp.get H.objs r = some o0 ∧ o.kind = o0.kind ∧ o.refs = o0.refs ∧ o.row = o0.row ∧ o.lo = o0.lo ∧ o.hi = o0.hi ∧ (o.tail = o0.tail ∨ o.tail = 0) ∧ o.holds ≤ o0.holds
  row : ∀ k x, Mp.get G.rows k = some x → ∃ x0, Mp.get H.rows k = some x0 ∧ x.words.length = x0.words.length
theorem Sub.refl (H : Hp) : Sub H H := ⟨rfl, Nat.le_refl _, fun r o h => ⟨o, h, rfl, rfl, rfl, rfl, rfl, .inl rfl, Int.le_refl _⟩, fun k x h => ⟨x, h, rfl⟩⟩
theorem Sub.trans {H G F : Hp} (h : Sub H G) (k : Sub G F) : Sub H F := ⟨k.last.trans h.last, Nat.le_trans k.words h.words, fun r o ho => by
    obtain ⟨o1, h1, a1, a2, a3, a4, a5, a6, a7⟩ := k.obj r o ho
    obtain ⟨o0, h0, b1, b2, b3, b4, b5, b6, b7⟩ := h.obj r o1 h1
    refine ⟨o0, h0, a1.trans b1, a2.trans b2, a3.trans b3, a4.trans b4, a5.trans b5, ?_, Int.le_trans a7 b7⟩
    rcases a6 with a6 | a6
    · rcases b6 with b6 | b6
      · exact .inl (a6.trans b6)
      · exact .inr (a6.trans b6)
    · exact .inr a6, fun j x hx => by
    obtain ⟨x1, h1, a1⟩ := k.row j x hx
    obtain ⟨x0, h0, b1⟩ := h.row j x1 h1
    exact ⟨x0, h0, a1.trans b1⟩⟩
theorem St.sub {H G : Hp} {N : Nat} (h : St H N) (k : Sub H G) : St G N where
  last := by rw [k.last]; exact h.last
  holds := fun r o ho => by
    obtain ⟨o0, h0, _, _, _, _, _, _, b⟩ := k.obj r o ho
    exact Int.le_trans b (h.holds r o0 h0)
  words := Nat.le_trans k.words h.words
  own := fun r o ho => by
    obtain ⟨o0, h0, a1, a2, a3, _⟩ := k.obj r o ho
    rw [a1, a3, k.last]; exact h.own r o0 h0
  len := fun r o x ho hx => by
    obtain ⟨o0, h0, a1, a2, a3, a4, a5, _⟩ := k.obj r o ho
    obtain ⟨x0, h1, b1⟩ := k.row _ x hx
    rw [a3] at h1
    rw [a1, a2, a4, a5, b1]
    exact h.len r o0 x0 h0 h1
  kind := fun r o ho => by
    obtain ⟨o0, h0, a1, _⟩ := k.obj r o ho
    rw [a1]; exact h.kind r o0 h0
  tail := fun r o ho ht => by
    obtain ⟨o0, h0, a1, a2, a3, a4, a5, a6, _⟩ := k.obj r o ho
    rcases a6 with a6 | a6
    · rw [a6] at ht
      obtain ⟨b1, b2, b3⟩ := h.tail r o0 h0 ht
      rw [a1, a6]
      refine ⟨b1, b2, fun t hgt => ?_⟩
      obtain ⟨t0, c0, c1, _⟩ := k.obj _ t hgt
      rw [c1]; exact b3 t0 c0
    · exact absurd a6 ht
theorem Sub.see (H : Hp) (r : Int) : Sub H (seeH H r) := ⟨seeH_last H r, by rw [seeH_rows]; exact Nat.le_refl _, fun x o ho => by rw [seeH_objs] at ho; exact (Sub.refl H).obj x o ho, fun k x hx => by rw [seeH_rows] at hx; exact ⟨x, hx, rfl⟩⟩
theorem Sub.upd (H : Hp) (r : Int) (f : Ob → Ob) (hf : ∀ o0, (f o0).kind = o0.kind ∧ (f o0).refs = o0.refs ∧ (f o0).row = o0.row ∧ (f o0).lo = o0.lo ∧ (f o0).hi = o0.hi ∧ ((f o0).tail = o0.tail ∨ (f o0).tail = 0) ∧ (f o0).holds ≤ o0.holds) : Sub H (H.upd r f) :=
  ⟨rfl, Nat.le_refl _, fun x o ho => by
    rw [get_upd] at ho
    by_cases e : x = r
    · rw [if_pos e] at ho
      cases hz : Mp.get H.objs x with
      | none => rw [hz] at ho; cases ho
      | some z =>
        rw [hz] at ho
        injection ho with ho
        subst ho
        exact ⟨z, rfl, hf z⟩
    · rw [if_neg e] at ho
      exact (Sub.refl H).obj x o ho, fun k x hx => ⟨x, hx, rfl⟩⟩
theorem Sub.inc (H : Hp) (r : Int) : Sub H (H.upd r Ob.inc) := Sub.upd H r _ fun _ => ⟨rfl, rfl, rfl, rfl, rfl, .inl rfl, Int.le_refl _⟩
theorem Sub.dec (H : Hp) (r : Int) : Sub H (H.upd r Ob.dec) := Sub.upd H r _ fun _ => ⟨rfl, rfl, rfl, rfl, rfl, .inl rfl, Int.le_refl _⟩
theorem Sub.cut (H : Hp) (r : Int) : Sub H (H.upd r Ob.cut) := Sub.upd H r _ fun _ => ⟨rfl, rfl, rfl, rfl, rfl, .inr rfl, Int.le_refl _⟩
theorem Sub.drop (H : Hp) (r : Int) : Sub H (H.upd r Ob.drop) := Sub.upd H r _ fun o => ⟨rfl, rfl, rfl, rfl, rfl, .inl rfl, by show o.holds - 1 ≤ o.holds; omega⟩
theorem Sub.refer (H : Hp) (r : Int) : Sub H (referH H r) := by
  unfold referH
  split
  · exact Sub.refl H
  · exact Sub.inc H r
theorem Sub.updR (H : Hp) (k : Int) (f : Rw → Rw) (hf : ∀ x, (f x).words.length = x.words.length) : Sub H (H.updR k f) :=
  ⟨rfl, by show wsum (mapAt H.rows k f) ≤ _; rw [wsum_mapAt _ _ _ hf]; exact Nat.le_refl _, fun x o ho => (Sub.refl H).obj x o ho, fun j x hx => by
    have hx' : Mp.get (mapAt H.rows k f) j = some x := hx
    rw [get_mapAt] at hx'
    by_cases e : j = k
    · rw [if_pos e] at hx'
      cases hz : Mp.get H.rows j with
      | none => rw [hz] at hx'; cases hx'
      | some z =>
        rw [hz] at hx'
        injection hx' with hx'
        subst hx'
        exact ⟨z, rfl, hf z⟩
    · rw [if_neg e] at hx'
      exact ⟨x, hx', rfl⟩⟩
theorem Sub.setW (H : Hp) (k : Int) (i : Nat) (v : Wd) : Sub H (setW H k i v) := Sub.updR H k _ fun x => by simp
theorem Sub.seeAll (H : Hp) (l : List Int) : Sub H (seeAll H l) := by
  induction l generalizing H with
  | nil => exact Sub.refl H
  | cons x l ih => exact (Sub.see H x).trans (ih _)
theorem get_del_some {α : Type} {L : List (Int × α)} {r x : Int} {o : α} (h : Mp.get (Mp.del L r) x = some o) : Mp.get L x = some o := by
  rw [Mp.get_del] at h
  by_cases e : x = r
  · rw [if_pos e] at h; cases h
  · rw [if_neg e] at h; exact h
theorem wsum_del_le (L : List (Int × Rw)) (k : Int) : wsum (Mp.del L k) ≤ wsum L := by
  unfold wsum Mp.del
  induction L with
  | nil => exact Nat.le_refl _
  | cons p L ih =>
    simp only [List.filter_cons]
    split
    · simp only [List.map_cons, List.sum_cons]; omega
    · simp only [List.map_cons, List.sum_cons]; omega
theorem Sub.free (H : Hp) (r : Int) (o : Ob) : Sub H (freeH H r o).1 := by
  have ho : ∀ x y, Mp.get (freeH H r o).1.objs x = some y → Mp.get H.objs x = some y := fun x y hy => by
    rw [freeH_objs] at hy
    exact get_del_some hy
  have hrest : (freeH H r o).1.last = H.last ∧ wsum (freeH H r o).1.rows ≤ wsum H.rows ∧ ∀ k x, Mp.get (freeH H r o).1.rows k = some x → ∃ x0, Mp.get H.rows k = some x0 ∧ x.words.length = x0.words.length := by
    unfold freeH
    split
    · exact ⟨rfl, Nat.le_refl _, fun k x hx => ⟨x, hx, rfl⟩⟩
    · split
      · exact ⟨rfl, (Sub.updR H o.row Rw.dec fun _ => rfl).words, (Sub.updR H o.row Rw.dec fun _ => rfl).row⟩
      · exact ⟨rfl, wsum_del_le _ _, fun k x hx => ⟨x, get_del_some hx, rfl⟩⟩
  exact ⟨hrest.1, hrest.2.1, fun x y hy => (Sub.refl H).obj x y (ho x y hy), hrest.2.2⟩
theorem Sub.rel {H : Hp} {st : List Int} (h : Inv H st) : Sub H (relH H st) := by
  generalize hm : muH H + st.length = m
  induction m using Nat.strongRecOn generalizing H st with
  | ind m ih =>
    cases st with
    | nil => rw [relH_nil]; exact Sub.refl H
    | cons r st =>
      by_cases h0 : r = 0
      · subst h0
        rw [relH_zero]
        exact ih _ (by simp at hm; omega) h.zero rfl
      · obtain ⟨o, ho⟩ := h.some_of h0
        have hp := h.pos r o ho
        by_cases hc : o.holds + (o.rc - 1) = 0
        · rw [relH_free st h0 ho hc]
          refine ((Sub.dec H r).trans (Sub.free _ r o)).trans (ih _ ?_ (h.free ho hc) rfl)
          have h1 : Mp.get (H.upd r Ob.dec).objs r = some o.dec := by rw [get_upd, if_pos rfl, ho]; rfl
          have h2 := mu_free _ r o _ h1
          rw [mu_upd] at h2
          simp at hm ⊢
          omega
        · rw [relH_keep st h0 ho hc]
          refine (Sub.dec H r).trans (ih _ ?_ (h.dec ho (by omega)) rfl)
          rw [mu_upd]
          simp at hm
          omega
/-- What was seen has existed. -/
def SeenOk (H : Hp) : Prop := ∀ r b, Mp.get H.seen r = some b → 1 ≤ r ∧ r ≤ H.last
/-- A heap that calls have made. -/
structure Ok (H : Hp) (N : Nat) : Prop where
  inv : Inv H []
  st : St H N
  seen : SeenOk H
theorem St.mono {H : Hp} {N M : Nat} (h : St H N) (k : N ≤ M) : St H M := { h with last := Nat.le_trans h.last k, holds := fun r o ho => Int.le_trans (h.holds r o ho) (by omega), words := Nat.le_trans h.words (Nat.mul_le_mul_left _ k) }
theorem Ok.mono {H : Hp} {N M : Nat} (h : Ok H N) (k : N ≤ M) : Ok H M := ⟨h.inv, h.st.mono k, h.seen⟩
theorem nodup_length_le {α : Type} [DecidableEq α] {l m : List α} (hn : l.Nodup) (h : ∀ x ∈ l, x ∈ m) : l.length ≤ m.length := by
  induction l generalizing m with
  | nil => exact Nat.zero_le _
  | cons x l ih =>
    rw [List.nodup_cons] at hn
    have hx := h x (List.mem_cons_self ..)
    have h1 := ih (m := m.erase x) hn.2 fun y hy => (List.mem_erase_of_ne (fun e : y = x => hn.1 (by rw [← e]; exact hy))).2 (h y (List.mem_cons_of_mem _ hy))
    rw [List.length_erase_of_mem hx] at h1
    have := List.length_pos_of_mem hx
    simp only [List.length_cons]
    omega
theorem length_le_of_keys {α : Type} {L : List (Int × α)} {n : Nat} (hn : (L.map (·.1)).Nodup) (h : ∀ r o, Mp.get L r = some o → 1 ≤ r ∧ r ≤ (n : Int)) : L.length ≤ n := by
  have h1 : ∀ x ∈ L.map (·.1), x ∈ (List.range n).map fun i : Nat => (i : Int) + 1 := fun x hx => by
    obtain ⟨p, hp, rfl⟩ := List.mem_map.1 hx
    have := h p.1 p.2 (Mp.get_of_mem hn hp)
    exact List.mem_map.2 ⟨(p.1 - 1).toNat, List.mem_range.2 (by omega), by omega⟩
  have h2 := nodup_length_le hn h1
  simpa using h2
theorem Ok.objs_le {H : Hp} {N : Nat} (h : Ok H N) : H.objs.length ≤ N := Nat.le_trans (length_le_of_keys h.inv.ndO h.inv.rng) h.st.last
theorem Ok.mu {H : Hp} {N : Nat} (h : Ok H N) : muH H ≤ 15002 * N := by
  have h1 := h.objs_le
  have h2 := h.st.words
  unfold muH
  omega
theorem Ok.row_le {H : Hp} {N : Nat} (h : Ok H N) : ∀ r o, Mp.get H.objs r = some o → o.row ≤ H.last := fun r o ho => (h.st.own r o ho).2.1
end Go.Proofs.Ytodfpclekihbhaa

/- The heap of the examples, step by step. -/
namespace Go.Proofs.Ytodfpclekihbhaa

def xOb (r h c : Int) : Ob := ⟨4, 0, [true], emptyB, false, 0, r, 0, 0, h, c⟩
def xRw (x : Int) : Rw := ⟨[⟨0, x⟩], 1, false⟩
def xH (o : List (Int × Ob)) (r : List (Int × Rw)) (n : Nat) : Hp := ⟨o, r, n, false, []⟩
theorem x1 : makeH emptyH 4 0 [true] = (xH [(1, xOb 1 1 0)] [(1, xRw 0)] 1, 1, 0) := by rfl
theorem x2 : makeH (xH [(1, xOb 1 1 0)] [(1, xRw 0)] 1) 4 0 [true] = (xH [(1, xOb 1 1 0), (2, xOb 2 1 0)] [(1, xRw 0), (2, xRw 0)] 2, 2, 0) := by rfl
theorem x3 : setH (xH [(1, xOb 1 1 0), (2, xOb 2 1 0)] [(1, xRw 0), (2, xRw 0)] 2) 1 0 ⟨0, 2⟩ = (xH [(1, xOb 1 1 0), (2, xOb 2 1 1)] [(1, xRw 2), (2, xRw 0)] 2, 0) := by
  show (relH (xH [(1, xOb 1 1 0), (2, xOb 2 1 1)] [(1, xRw 2), (2, xRw 0)] 2) [0], (0 : Int)) = _
  rw [relH_zero, relH_nil]
theorem x4 : dropH (xH [(1, xOb 1 1 0), (2, xOb 2 1 1)] [(1, xRw 2), (2, xRw 0)] 2) 2 = (xH [(1, xOb 1 1 0), (2, xOb 2 0 1)] [(1, xRw 2), (2, xRw 0)] 2, 0) := by rfl
theorem sorted12 : ([1, 2] : List Int).mergeSort (fun x y => decide (x ≤ y)) = [1, 2] := List.mergeSort_of_pairwise (by decide)
theorem sort0 : ([] : List Int).mergeSort (fun x y => decide (x ≤ y)) = [] := List.mergeSort_of_pairwise (by decide)
theorem x4a : allH (xH [(1, xOb 1 1 0), (2, xOb 2 0 1)] [(1, xRw 2), (2, xRw 0)] 2) = [1, 2] := sorted12
theorem x5 : dropH (xH [(1, xOb 1 1 0), (2, xOb 2 0 1)] [(1, xRw 2), (2, xRw 0)] 2) 1 = (xH [] [] 2, 0) := by
  show (relH (xH [(2, xOb 2 0 1)] [(2, xRw 0)] 2) [2], (0 : Int)) = _
  rw [relH_free (o := xOb 2 0 1) [] (by decide) rfl rfl]
  show (relH (xH [] [] 2) [], (0 : Int)) = _
  rw [relH_nil]
theorem x5a (n : Nat) : allH (xH [] [] n) = [] := sort0
theorem x6 : makeH (xH [] [] 2) 4 0 [true] = (xH [(3, xOb 3 1 0)] [(3, xRw 0)] 3, 3, 0) := by rfl
theorem x7 : setH (xH [(3, xOb 3 1 0)] [(3, xRw 0)] 3) 3 0 ⟨0, 3⟩ = (xH [(3, xOb 3 1 1)] [(3, xRw 3)] 3, 0) := by
  show (relH (xH [(3, xOb 3 1 1)] [(3, xRw 3)] 3) [0], (0 : Int)) = _
  rw [relH_zero, relH_nil]
theorem x8 : dropH (xH [(3, xOb 3 1 1)] [(3, xRw 3)] 3) 3 = (xH [(3, xOb 3 0 1)] [(3, xRw 3)] 3, 0) := by rfl
theorem x8a : countH (xH [(3, xOb 3 0 1)] [(3, xRw 3)] 3) 3 = 1 := by rfl
theorem x9 : clearH (xH [(3, xOb 3 0 1)] [(3, xRw 3)] 3) 3 = (xH [] [] 3, 0) := by
  show (relH (xH [(3, xOb 3 0 1)] [(3, xRw 0)] 3) [3], (0 : Int)) = _
  rw [relH_free (o := xOb 3 0 1) [] (by decide) rfl rfl]
  show (relH (xH [] [] 3) [], (0 : Int)) = _
  rw [relH_nil]
end Go.Proofs.Ytodfpclekihbhaa

/- The calls keep what holds of a heap. -/
namespace Go.Proofs.Ytodfpclekihbhaa

theorem SeenOk.see {H : Hp} (h : SeenOk H) {r : Int} (hr : r = 0 ∨ 1 ≤ r ∧ r ≤ H.last) : SeenOk (seeH H r) := by
  unfold seeH
  by_cases hc : H.watched = true ∧ r ≠ 0
  · rw [if_pos hc]
    intro x b hx
    have hx' : Mp.get (Mp.put H.seen r true) x = some b := hx
    rw [Mp.get_put] at hx'
    by_cases e : x = r
    · rw [e]; exact hr.resolve_left hc.2
    · rw [if_neg e] at hx'; exact h x b hx'
  · rw [if_neg hc]; exact h
theorem SeenOk.same {H G : Hp} (h : SeenOk H) (h1 : G.seen = H.seen) (h2 : G.last = H.last) : SeenOk G := by unfold SeenOk; rw [h1, h2]; exact h
theorem freeH_seen (H : Hp) (r : Int) (o : Ob) : (freeH H r o).1.seen = H.seen ∧ (freeH H r o).1.watched = H.watched := by
  unfold freeH
  split
  · exact ⟨rfl, rfl⟩
  · split <;> exact ⟨rfl, rfl⟩
theorem relH_seen {H : Hp} {st : List Int} (h : Inv H st) : (relH H st).seen = H.seen ∧ (relH H st).watched = H.watched := by
  generalize hm : muH H + st.length = m
  induction m using Nat.strongRecOn generalizing H st with
  | ind m ih =>
    cases st with
    | nil => rw [relH_nil]; exact ⟨rfl, rfl⟩
    | cons r st =>
      by_cases h0 : r = 0
      · subst h0
        rw [relH_zero]
        exact ih _ (by simp at hm; omega) h.zero rfl
      · obtain ⟨o, ho⟩ := h.some_of h0
        have hp := h.pos r o ho
        by_cases hc : o.holds + (o.rc - 1) = 0
        · rw [relH_free st h0 ho hc]
          have h1 : Mp.get (H.upd r Ob.dec).objs r = some o.dec := by rw [get_upd, if_pos rfl, ho]; rfl
          have h2 := mu_free _ r o _ h1
          rw [mu_upd] at h2
          have h3 := ih (muH (freeH (H.upd r Ob.dec) r o).1 + ((freeH (H.upd r Ob.dec) r o).2.reverse ++ st).length) (by simp at hm ⊢; omega) (h.free ho hc) rfl
          have h4 := freeH_seen (H.upd r Ob.dec) r o
          exact ⟨h3.1.trans h4.1, h3.2.trans h4.2⟩
        · rw [relH_keep st h0 ho hc]
          exact ih (muH (H.upd r Ob.dec) + st.length) (by rw [mu_upd]; simp at hm; omega) (h.dec ho (by omega)) rfl
/-- Behind release. -/
theorem Ok.rel {H G : Hp} {N : Nat} {st : List Int} (h : Inv G st) (hs : St H N) (k : Sub H G) (hse : SeenOk G) : Ok (relH G st) N :=
  ⟨h.rel, hs.sub (k.trans (Sub.rel h)), hse.same (relH_seen h).1 (Sub.rel h).last⟩
theorem Inv.ref_in {H : Hp} {st : List Int} (h : Inv H st) {r : Int} (hr : r = 0 ∨ Mp.get H.objs r ≠ none) : r = 0 ∨ 1 ≤ r ∧ r ≤ H.last := by
  rcases hr with h0 | h0
  · exact .inl h0
  · cases ho : Mp.get H.objs r with
    | none => exact absurd ho h0
    | some o => exact .inr (h.rng r o ho)
theorem Inv.inH_in {H : Hp} {st : List Int} (h : Inv H st) {r : Int} (hr : 1 ≤ inH H r) : r = 0 ∨ Mp.get H.objs r ≠ none := by
  by_cases h0 : r = 0
  · exact .inl h0
  · refine .inr fun hn => ?_
    have := h.ref r h0 hn
    omega
theorem occ_row {H : Hp} {k : Int} {y : Rw} (hy : Mp.get H.rows k = some y) {x : Int} (hx : x ∈ refsOf y.words) : 1 ≤ inH H x := by
  have h1 : (refsOf y.words).count x ≤ rowOcc x H.rows := sum_le_of_mem (fun p : Int × Rw => (refsOf p.2.words).count x) (Mp.mem_of_get hy)
  have h2 := List.count_pos_iff.2 hx
  unfold inH
  omega
theorem occ_tail {H : Hp} {r : Int} {o : Ob} (ho : Mp.get H.objs r = some o) {x : Int} (hx : x ∈ tailOf o) : 1 ≤ inH H x := by
  have h1 : (tailOf o).count x ≤ tailOcc x H.objs := sum_le_of_mem (fun p : Int × Ob => (tailOf p.2).count x) (Mp.mem_of_get ho)
  have h2 := List.count_pos_iff.2 hx
  unfold inH
  omega
theorem Inv.refAt_in {H : Hp} {st : List Int} (h : Inv H st) (k : Int) (i : Nat) : refAt H k i = 0 ∨ Mp.get H.objs (refAt H k i) ≠ none := by
  unfold refAt Hp.rowOf
  cases hy : Mp.get H.rows k with
  | none => exact .inl rfl
  | some y =>
    simp only [Option.map_some, Option.getD_some]
    cases hw : y.words[i]? with
    | none => exact .inl rfl
    | some wd =>
      simp only [Option.map_some, Option.getD_some]
      by_cases h0 : wd.ref = 0
      · exact .inl h0
      · refine h.inH_in (occ_row hy ?_)
        unfold refsOf
        rw [List.mem_filter]
        exact ⟨List.mem_map.2 ⟨wd, List.mem_of_getElem? hw, rfl⟩, by simpa using h0⟩
theorem Inv.targets_in {H : Hp} {st : List Int} (h : Inv H st) {r : Int} {o : Ob} (ho : Mp.get H.objs r = some o) {x : Int} (hx : x ∈ targetsH H o) : x ≠ 0 ∧ Mp.get H.objs x ≠ none := by
  obtain ⟨y, hy, _⟩ := h.row r o ho
  have e : targetsH H o = refsOf y.words ++ tailOf o := by unfold targetsH Hp.rowOf; rw [hy]; rfl
  rw [e] at hx
  have h0 : x ≠ 0 := by
    rcases List.mem_append.1 hx with h1 | h1
    · unfold refsOf at h1
      simpa using (List.mem_filter.1 h1).2
    · unfold tailOf at h1
      split at h1
      · cases h1
      · rw [List.mem_singleton] at h1; rw [h1]; assumption
  refine ⟨h0, ?_⟩
  have : 1 ≤ inH H x := by
    rcases List.mem_append.1 hx with h1 | h1
    · exact occ_row hy h1
    · exact occ_tail ho h1
  exact (h.inH_in this).resolve_left h0
theorem fits_zero {H : Hp} {b : Bool} {w : Wd} (h : fitsH H b w = 0) : w.ref = 0 ∨ Mp.get H.objs w.ref ≠ none := by
  unfold fitsH at h
  by_cases h0 : w.ref = 0
  · exact .inl h0
  · refine .inr fun hn => ?_
    split at h
    · cases h
    · rw [if_pos ⟨h0, hn⟩] at h; cases h
theorem referH_seen (H : Hp) (r : Int) : (referH H r).seen = H.seen := by unfold referH; split <;> rfl
theorem referH_last' (H : Hp) (r : Int) : (referH H r).last = H.last := by unfold referH; split <;> rfl
theorem refAt_of {H G : Hp} (h : G.rows = H.rows) (k : Int) (i : Nat) : refAt G k i = refAt H k i := by unfold refAt Hp.rowOf; rw [h]
theorem Ok.replace {H : Hp} {N : Nat} (h : Ok H N) (k : Int) (i : Nat) (w : Wd) {y : Rw} (hy : Mp.get H.rows k = some y) (hi : i < y.words.length) (hr : w.ref = 0 ∨ Mp.get H.objs w.ref ≠ none) : Ok (replaceH H k i w) N := by
  unfold replaceH
  have h1 := h.inv.referH hr
  have hy4 : Mp.get (seeH (seeH (referH H w.ref) w.ref) (refAt H k i)).rows k = some y := by
    rw [seeH_rows, seeH_rows]
    unfold referH
    split <;> exact hy
  have h2 := Inv.setW (w := w) ((h1.see w.ref).see (refAt H k i)) hy4 hi
  have e : refAt (seeH (seeH (referH H w.ref) w.ref) (refAt H k i)) k i = refAt H k i := by
    have : (seeH (seeH (referH H w.ref) w.ref) (refAt H k i)).rows = H.rows := by
      rw [seeH_rows, seeH_rows]
      unfold referH
      split <;> rfl
    exact refAt_of this k i
  rw [e] at h2
  refine Ok.rel h2 h.st ((((Sub.refer H w.ref).trans (Sub.see _ _)).trans (Sub.see _ _)).trans (Sub.setW _ _ _ _)) ?_
  have s1 : SeenOk (referH H w.ref) := h.seen.same (referH_seen H _) (referH_last' H _)
  have s2 := s1.see (r := w.ref) (by rw [referH_last']; exact h.inv.ref_in hr)
  exact s2.see (r := refAt H k i) (by rw [seeH_last, referH_last']; exact h.inv.ref_in (h.inv.refAt_in k i))
theorem Ok.store {H : Hp} {N : Nat} (h : Ok H N) (r i : Int) (w : Wd) (p : Option (Int × Nat) × Int) (hp : ∀ k j, p.1 = some (k, j) → ∃ y, Mp.get H.rows k = some y ∧ j < y.words.length) : Ok (storeH H r i w p).1 N := by
  obtain ⟨q, e⟩ := p
  cases q with
  | none => exact h
  | some kj =>
    obtain ⟨k, j⟩ := kj
    unfold storeH
    simp only
    by_cases hf : fitsH H (isRef H r i) w ≠ 0
    · rw [if_pos hf]; exact h
    · rw [if_neg hf]
      obtain ⟨y, hy, hj⟩ := hp k j rfl
      exact h.replace k j w hy hj (fits_zero (Classical.not_not.1 hf))
theorem St.addNew {H : Hp} {N : Nat} (h : St H N) (hrng : ∀ r o, Mp.get H.objs r = some o → 1 ≤ r ∧ r ≤ (H.last : Int)) {o : Ob} {x : Rw} (hrow : o.row = H.last + 1) (hw : x.words.length ≤ 15000) (hf : Mp.get H.rows ((H.last : Int) + 1) = none)
    (hl : (o.kind ≠ 2 → o.kind ≠ 1 → o.kind ≠ 5 → x.words.length = o.refs.length) ∧ (o.kind = 2 → o.lo ≤ o.hi ∧ o.hi * o.refs.length ≤ x.words.length ∧ o.hi ≤ 100000) ∧ o.refs.length ≤ 256) (hk : 1 ≤ o.kind ∧ o.kind ≤ 7)
    (ht : o.tail ≠ 0 → o.kind = 3 ∧ o.tail ≤ H.last ∧ ∀ t, Mp.get H.objs o.tail = some t → t.kind = 3) : St (addH (newRow H x) o) (N + 1) := by
  have e1 : (addH (newRow H x) o).objs = Mp.put H.objs ((H.last : Int) + 1) { o with holds := 1 } := addH_objs _ _
  have e2 : (addH (newRow H x) o).rows = Mp.put H.rows ((H.last : Int) + 1) x := addH_rows _ _
  have e3 : (addH (newRow H x) o).last = H.last + 1 := addH_last _ _
  have hg : ∀ r y, Mp.get (addH (newRow H x) o).objs r = some y → (r = (H.last : Int) + 1 ∧ y = { o with holds := 1 }) ∨ (r ≠ (H.last : Int) + 1 ∧ Mp.get H.objs r = some y) := fun r y hy => by
    rw [e1, Mp.get_put] at hy
    by_cases e : r = (H.last : Int) + 1
    · rw [if_pos e] at hy; injection hy with hy; exact .inl ⟨e, hy.symm⟩
    · rw [if_neg e] at hy; exact .inr ⟨e, hy⟩
  refine ⟨by rw [e3]; have := h.last; omega, ?_, ?_, ?_, ?_, ?_, ?_⟩
  · intro r y hy
    rcases hg r y hy with ⟨_, rfl⟩ | ⟨_, h1⟩
    · show (1 : Int) ≤ _; omega
    · have := h.holds r y h1; omega
  · rw [e2, put_fresh hf]
    have := h.words
    unfold wsum at this ⊢
    rw [List.map_append, List.sum_append]
    simp only [List.map_cons, List.map_nil, List.sum_cons, List.sum_nil]
    omega
  · intro r y hy
    rw [e3]
    rcases hg r y hy with ⟨h1, rfl⟩ | ⟨_, h1⟩
    · show 1 ≤ o.row ∧ o.row ≤ _ ∧ (o.kind ≠ 2 → o.row = r)
      rw [hrow]
      exact ⟨by omega, by omega, fun _ => h1.symm⟩
    · have := h.own r y h1
      exact ⟨this.1, by omega, this.2.2⟩
  · intro r y z hy hz
    rw [e2, Mp.get_put] at hz
    rcases hg r y hy with ⟨h1, rfl⟩ | ⟨_, h1⟩
    · rw [if_pos hrow] at hz
      injection hz with hz
      subst hz
      exact hl
    · have := (h.own r y h1).2.1
      rw [if_neg (by omega)] at hz
      exact h.len r y z h1 hz
  · intro r y hy
    rcases hg r y hy with ⟨_, rfl⟩ | ⟨_, h1⟩
    · exact hk
    · exact h.kind r y h1
  · intro r y hy hty
    rcases hg r y hy with ⟨h1, rfl⟩ | ⟨_, h1⟩
    · obtain ⟨a, b, c⟩ := ht hty
      refine ⟨a, ?_, fun t hgt => ?_⟩
      · show o.tail < r; omega
      · rcases hg _ t hgt with ⟨d1, _⟩ | ⟨_, d2⟩
        · have : o.tail = (H.last : Int) + 1 := d1
          omega
        · exact c t d2
    · obtain ⟨a, b, c⟩ := h.tail r y h1 hty
      refine ⟨a, b, fun t hgt => ?_⟩
      rcases hg _ t hgt with ⟨d1, _⟩ | ⟨_, d2⟩
      · have := hrng r y h1
        omega
      · exact c t d2
/-- An object with a row of its own has been added. -/
theorem Ok.addNew {G : Hp} {N : Nat} {st : List Int} (hi : Inv G st) (hs : St G N) (hse : SeenOk G) {o : Ob} {x : Rw} (hk : ∀ r o, Mp.get G.objs r = some o → o.row ≤ G.last) (hrc : o.rc = 0) (hh : o.holds = 0) (hrow : o.row = G.last + 1) (hx : x.arr = 1) (hA : x.isA = true ↔ o.kind = 2) (ht : o.kind = 2 → o.tail = 0)
    (hc : ∀ y, y ≠ 0 → (refsOf x.words).count y + (tailOf o).count y = st.count y) (hw : x.words.length ≤ 15000)
    (hl : (o.kind ≠ 2 → o.kind ≠ 1 → o.kind ≠ 5 → x.words.length = o.refs.length) ∧ (o.kind = 2 → o.lo ≤ o.hi ∧ o.hi * o.refs.length ≤ x.words.length ∧ o.hi ≤ 100000) ∧ o.refs.length ≤ 256) (hkd : 1 ≤ o.kind ∧ o.kind ≤ 7)
    (htl : o.tail ≠ 0 → o.kind = 3 ∧ o.tail ≤ G.last ∧ ∀ t, Mp.get G.objs o.tail = some t → t.kind = 3) : Ok (addH (newRow G x) o) (N + 1) := by
  refine ⟨hi.addNew hk hrc hh hrow hx hA ht hc, hs.addNew hi.rng hrow hw (not_row_fresh hi hk) hl hkd htl, ?_⟩
  unfold addH
  refine SeenOk.see (H := { newRow G x with objs := Mp.put (newRow G x).objs (((newRow G x).last : Int) + 1) { o with holds := 1 }, last := (newRow G x).last + 1 }) ?_ ?_
  · intro r b hr
    have := hse r b hr
    exact ⟨this.1, by show r ≤ ((G.last + 1 : Nat) : Int); omega⟩
  · right
    constructor
    · show 1 ≤ (G.last : Int) + 1; omega
    · show (G.last : Int) + 1 ≤ ((G.last + 1 : Nat) : Int); omega
theorem refs_zeros (n : Nat) : refsOf (List.replicate n ⟨0, 0⟩) = [] := by
  unfold refsOf
  rw [List.filter_eq_nil_iff]
  intro x hx
  obtain ⟨y, hy, rfl⟩ := List.mem_map.1 hx
  rw [(List.mem_replicate.1 hy).2]
  simp
theorem Ok.make {H : Hp} {N : Nat} (h : Ok H N) (kind cls : Int) (refs : List Bool) : Ok (makeH H kind cls refs).1 (N + 1) := by
  unfold makeH
  split
  · exact h.mono (Nat.le_succ _)
  · rename_i hk
    split
    · exact h.mono (Nat.le_succ _)
    · rename_i hl
      have hz : refsOf (if kind = 5 then [] else List.replicate refs.length ⟨0, 0⟩) = [] := by
        split
        · rfl
        · exact refs_zeros _
      refine Ok.addNew h.inv h.st h.seen h.row_le rfl rfl rfl rfl ?_ ?_ ?_ ?_ ⟨?_, ?_, by show refs.length ≤ 256; omega⟩ ?_ ?_
      · show false = true ↔ kind = 2
        constructor
        · intro e; cases e
        · intro e; omega
      · intro _; rfl
      · intro y _
        show (refsOf (if kind = 5 then [] else List.replicate refs.length ⟨0, 0⟩)).count y + 0 = _
        rw [hz]; rfl
      · show (if kind = 5 then [] else List.replicate refs.length (⟨0, 0⟩ : Wd)).length ≤ 15000
        split
        · exact Nat.zero_le _
        · rw [List.length_replicate]; omega
      · intro _ _ h5
        have h5 : kind ≠ 5 := h5
        show (if kind = 5 then [] else List.replicate refs.length (⟨0, 0⟩ : Wd)).length = refs.length
        rw [if_neg h5, List.length_replicate]
      · intro h2
        have h2 : kind = 2 := h2
        omega
      · show 1 ≤ kind ∧ kind ≤ 7; omega
      · intro e; exact absurd rfl e
theorem Ok.text {H : Hp} {N : Nat} (h : Ok H N) (c : ByteArray) (wide : Bool) (len : Nat) : Ok (textH H c wide len).1 (N + 1) := by
  unfold textH
  split
  · exact h.mono (Nat.le_succ _)
  · refine Ok.addNew h.inv h.st h.seen h.row_le rfl rfl rfl rfl ?_ (fun _ => rfl) (fun y _ => rfl) (Nat.zero_le _) ⟨fun _ e => absurd rfl e, fun e => ?_, Nat.zero_le _⟩ ⟨(by show (1 : Int) ≤ 1; decide), (by show (1 : Int) ≤ 7; decide)⟩ fun e => absurd rfl e
    · constructor
      · intro e; cases e
      · intro e
        have : (1 : Int) = 2 := e
        omega
    · have : (1 : Int) = 2 := e
      omega
theorem Ok.array {H : Hp} {N : Nat} (h : Ok H N) (cls : Int) (refs : List Bool) (n : Int) (hn : refs.length ≤ 256 → 0 ≤ n → n ≤ 65536 → n * refs.length ≤ 1048576 → n.toNat * refs.length ≤ 15000) : Ok (arrayH H cls refs n).1 (N + 1) := by
  unfold arrayH
  split
  · exact h.mono (Nat.le_succ _)
  · split
    · exact h.mono (Nat.le_succ _)
    · split
      · exact h.mono (Nat.le_succ _)
      · rename_i h1 h2 h3
        have hb := hn (by omega) (by omega) (by omega) (by omega)
        refine Ok.addNew h.inv h.st h.seen h.row_le rfl rfl rfl rfl ⟨fun _ => rfl, fun _ => rfl⟩ (fun _ => rfl) (fun y _ => ?_) ?_ ⟨fun e => absurd rfl e, fun _ => ⟨Nat.zero_le _, ?_, ?_⟩, by show refs.length ≤ 256; omega⟩ ⟨(by show (1 : Int) ≤ 2; decide), (by show (2 : Int) ≤ 7; decide)⟩ fun e => absurd rfl e
        · show (refsOf (List.replicate (n.toNat * refs.length) ⟨0, 0⟩)).count y + 0 = _
          rw [refs_zeros]; rfl
        · show (List.replicate (n.toNat * refs.length) (⟨0, 0⟩ : Wd)).length ≤ 15000
          rw [List.length_replicate]; exact hb
        · show n.toNat * refs.length ≤ (List.replicate (n.toNat * refs.length) (⟨0, 0⟩ : Wd)).length
          rw [List.length_replicate]; exact Nat.le_refl _
        · show n.toNat ≤ 100000; omega
theorem Ok.part {H : Hp} {N : Nat} (h : Ok H N) (r f t : Int) : Ok (partH H r f t).1 (N + 1) := by
  unfold partH
  split
  · exact h.mono (Nat.le_succ _)
  · rename_i o ho
    split
    · exact h.mono (Nat.le_succ _)
    · rename_i hk
      have hk : o.kind = 2 := Classical.not_not.1 hk
      split
      · exact h.mono (Nat.le_succ _)
      · rename_i hr
        obtain ⟨x, hx, _⟩ := h.inv.row r o ho
        obtain ⟨hl1, hl2, hl3⟩ := (h.st.len r o x ho hx).2.1 hk
        have e1 : (addH (H.updR o.row Rw.inc) (partOb o f t)).objs = Mp.put H.objs ((H.last : Int) + 1) { partOb o f t with holds := 1 } := addH_objs _ _
        have e2 : (addH (H.updR o.row Rw.inc) (partOb o f t)).rows = mapAt H.rows o.row Rw.inc := addH_rows _ _
        have e3 : (addH (H.updR o.row Rw.inc) (partOb o f t)).last = H.last + 1 := addH_last _ _
        have hg : ∀ r y, Mp.get (addH (H.updR o.row Rw.inc) (partOb o f t)).objs r = some y → (r = (H.last : Int) + 1 ∧ y = { partOb o f t with holds := 1 }) ∨ (r ≠ (H.last : Int) + 1 ∧ Mp.get H.objs r = some y) := fun r y hy => by
          rw [e1, Mp.get_put] at hy
          by_cases e : r = (H.last : Int) + 1
          · rw [if_pos e] at hy; injection hy with hy; exact .inl ⟨e, hy.symm⟩
          · rw [if_neg e] at hy; exact .inr ⟨e, hy⟩
        have hrw : ∀ k z, Mp.get (mapAt H.rows o.row Rw.inc) k = some z → ∃ z0, Mp.get H.rows k = some z0 ∧ z.words = z0.words := fun k z hz => by
          rw [get_mapAt] at hz
          by_cases e : k = o.row
          · rw [if_pos e] at hz
            cases hq : Mp.get H.rows k with
            | none => rw [hq] at hz; cases hz
            | some q =>
              rw [hq] at hz
              injection hz with hz
              subst hz
              exact ⟨q, rfl, rfl⟩
          · rw [if_neg e] at hz; exact ⟨z, hz, rfl⟩
        refine ⟨h.inv.part ho hk f t, ⟨by rw [e3]; have := h.st.last; omega, ?_, ?_, ?_, ?_, ?_, ?_⟩, ?_⟩
        · intro r y hy
          rcases hg r y hy with ⟨_, rfl⟩ | ⟨_, h1⟩
          · show (1 : Int) ≤ _; omega
          · have := h.st.holds r y h1; omega
        · rw [e2, wsum_mapAt _ _ Rw.inc (fun _ => rfl)]
          have := h.st.words
          omega
        · intro r y hy
          rw [e3]
          rcases hg r y hy with ⟨h1, rfl⟩ | ⟨_, h1⟩
          · have := h.st.own _ o ho
            exact ⟨this.1, by show o.row ≤ _; omega, fun e => absurd rfl e⟩
          · have := h.st.own r y h1
            exact ⟨this.1, by omega, this.2.2⟩
        · intro r y z hy hz
          rw [e2] at hz
          obtain ⟨z0, hz0, hzw⟩ := hrw _ _ hz
          rcases hg r y hy with ⟨h1, rfl⟩ | ⟨_, h1⟩
          · have hz1 : Mp.get H.rows o.row = some z0 := hz0
            rw [hx] at hz1
            injection hz1 with hz1
            subst hz1
            refine ⟨fun e => absurd rfl e, fun _ => ⟨?_, ?_, ?_⟩, (h.st.len _ o x ho hx).2.2⟩
            · show o.lo + f.toNat ≤ o.lo + t.toNat; omega
            · show (o.lo + t.toNat) * o.refs.length ≤ z.words.length
              rw [hzw]
              exact Nat.le_trans (Nat.mul_le_mul_right _ (by omega)) hl2
            · show o.lo + t.toNat ≤ 100000; omega
          · have := h.st.len r y z0 h1 hz0
            rw [← hzw] at this
            exact this
        · intro r y hy
          rcases hg r y hy with ⟨_, rfl⟩ | ⟨_, h1⟩
          · exact ⟨by show (1 : Int) ≤ 2; decide, by show (2 : Int) ≤ 7; decide⟩
          · exact h.st.kind r y h1
        · intro r y hy hty
          rcases hg r y hy with ⟨h1, rfl⟩ | ⟨_, h1⟩
          · exact absurd rfl hty
          · obtain ⟨a, b, c⟩ := h.st.tail r y h1 hty
            refine ⟨a, b, fun t hgt => ?_⟩
            rcases hg _ t hgt with ⟨d1, _⟩ | ⟨_, d2⟩
            · have := h.inv.rng r y h1
              omega
            · exact c t d2
        · unfold addH
          refine SeenOk.see (H := { H.updR o.row Rw.inc with objs := Mp.put (H.updR o.row Rw.inc).objs (((H.updR o.row Rw.inc).last : Int) + 1) { partOb o f t with holds := 1 }, last := (H.updR o.row Rw.inc).last + 1 }) ?_ ?_
          · intro r b hr
            have := h.seen r b hr
            exact ⟨this.1, by show r ≤ ((H.last + 1 : Nat) : Int); omega⟩
          · right
            constructor
            · show 1 ≤ (H.last : Int) + 1; omega
            · show (H.last : Int) + 1 ≤ ((H.last + 1 : Nat) : Int); omega
theorem placeO_row {H : Hp} {r i : Int} {l : Bool} {k : Int} {j : Nat} (he : (placeO H r i l).1 = some (k, j)) : ∃ y, Mp.get H.rows k = some y ∧ j < y.words.length := by
  unfold placeO at he
  cases ho : Mp.get H.objs r with
  | none => rw [ho] at he; cases he
  | some o =>
    rw [ho] at he
    simp only at he
    split at he
    · cases he
    · split at he
      · cases he
      · rename_i h2
        simp only [Option.some.injEq, Prod.mk.injEq] at he
        obtain ⟨rfl, rfl⟩ := he
        unfold Hp.rowOf at h2
        cases hy : Mp.get H.rows o.row with
        | none => rw [hy] at h2; simp at h2; omega
        | some y => rw [hy] at h2; simp only [Option.map_some, Option.getD_some] at h2; exact ⟨y, rfl, by omega⟩
theorem el_lt {lo a hi n i m : Nat} (h1 : a < hi - lo) (h2 : i < n) (h3 : hi * n ≤ m) : (lo + a) * n + i < m := by
  have : (lo + a + 1) * n ≤ hi * n := Nat.mul_le_mul_right n (by omega)
  rw [Nat.add_mul, Nat.one_mul] at this
  omega
theorem placeA_row {H : Hp} {N : Nat} (h : Ok H N) {r el i : Int} {k : Int} {j : Nat} (he : (placeA H r el i).1 = some (k, j)) : ∃ y, Mp.get H.rows k = some y ∧ j < y.words.length := by
  unfold placeA at he
  cases ho : Mp.get H.objs r with
  | none => rw [ho] at he; cases he
  | some o =>
    rw [ho] at he
    simp only at he
    split at he
    · cases he
    · rename_i hk
      split at he
      · cases he
      · rename_i h2
        simp only [Option.some.injEq, Prod.mk.injEq] at he
        obtain ⟨rfl, rfl⟩ := he
        obtain ⟨x, hx, _⟩ := h.inv.row r o ho
        obtain ⟨hl1, hl2, hl3⟩ := (h.st.len r o x ho hx).2.1 (Classical.not_not.1 hk)
        exact ⟨x, hx, el_lt (by omega) (by omega) hl2⟩
theorem Ok.set {H : Hp} {N : Nat} (h : Ok H N) (r i : Int) (w : Wd) : Ok (setH H r i w).1 N := h.store r i w _ fun _ _ he => placeO_row he
theorem Ok.put {H : Hp} {N : Nat} (h : Ok H N) (r el i : Int) (w : Wd) : Ok (putH H r el i w).1 N := h.store r i w _ fun _ _ he => placeA_row h he
theorem seeAll_seen {H : Hp} (h : SeenOk H) (l : List Int) (hl : ∀ x ∈ l, x = 0 ∨ 1 ≤ x ∧ x ≤ H.last) : SeenOk (seeAll H l) := by
  induction l generalizing H with
  | nil => exact h
  | cons x l ih =>
    exact ih (h.see (hl x (List.mem_cons_self ..))) fun y hy => by rw [seeH_last]; exact hl y (List.mem_cons_of_mem _ hy)
theorem Ok.clear {H : Hp} {N : Nat} (h : Ok H N) (r : Int) : Ok (clearH H r).1 N := by
  unfold clearH
  split
  · exact h
  · rename_i o ho
    have hc := h.inv.cut ho
    refine Ok.rel (H := H) (hc.same (seeAll_objs _ _) (seeAll_rows _ _) (seeAll_last _ _)) h.st (((Sub.updR H o.row cutRow fun x => by simp [cutRow]).trans (Sub.cut _ r)).trans (Sub.seeAll _ _)) ?_
    refine seeAll_seen (H := (H.updR o.row cutRow).upd r Ob.cut) h.seen _ fun x hx => ?_
    exact h.inv.ref_in (.inr (h.inv.targets_in ho hx).2)
theorem Ok.drop {H : Hp} {N : Nat} (h : Ok H N) (r : Int) : Ok (dropH H r).1 N := by
  unfold dropH
  split
  · exact h
  · rename_i o ho
    split
    · exact h
    · rename_i h0
      split
      · rename_i hc
        have hd := h.inv.drop0 ho h0 hc
        rw [List.append_nil] at hd
        exact Ok.rel (H := H) hd h.st ((Sub.drop H r).trans (Sub.free _ r o)) (h.seen.same (freeH_seen _ r o).1 (Sub.free (H.upd r Ob.drop) r o).last)
      · rename_i hc
        exact ⟨h.inv.drop ho h0 hc, h.st.sub (Sub.drop H r), h.seen⟩
theorem Ok.hold {H : Hp} {N : Nat} (h : Ok H N) (r : Int) : Ok (holdH H r).1 (N + 1) := by
  unfold holdH
  split
  · exact h.mono (Nat.le_succ _)
  · rename_i hn
    cases ho : Mp.get H.objs r with
    | none => exact absurd ho hn
    | some o =>
      have hs : St (H.upd r Ob.hold) (N + 1) := by
        have key : ∀ x y, Mp.get (H.upd r Ob.hold).objs x = some y → ∃ z, Mp.get H.objs x = some z ∧ y.kind = z.kind ∧ y.refs = z.refs ∧ y.row = z.row ∧ y.lo = z.lo ∧ y.hi = z.hi ∧ y.tail = z.tail ∧ y.holds ≤ z.holds + 1 := fun x y hy => by
          rw [get_upd] at hy
          by_cases e : x = r
          · rw [if_pos e] at hy
            cases hz : Mp.get H.objs x with
            | none => rw [hz] at hy; cases hy
            | some z =>
              rw [hz] at hy
              injection hy with hy
              subst hy
              exact ⟨z, rfl, rfl, rfl, rfl, rfl, rfl, rfl, Int.le_refl _⟩
          · rw [if_neg e] at hy
            exact ⟨y, hy, rfl, rfl, rfl, rfl, rfl, rfl, by omega⟩
        refine ⟨Nat.le_succ_of_le h.st.last, ?_, by have := h.st.words; show wsum H.rows ≤ _; omega, ?_, ?_, ?_, ?_⟩
        · intro x y hy
          obtain ⟨z, hz, _, _, _, _, _, _, hh⟩ := key x y hy
          have := h.st.holds x z hz
          omega
        · intro x y hy
          obtain ⟨z, hz, a1, a2, a3, _⟩ := key x y hy
          rw [a1, a3]; exact h.st.own x z hz
        · intro x y q hy hq
          obtain ⟨z, hz, a1, a2, a3, a4, a5, _⟩ := key x y hy
          rw [a3] at hq
          rw [a1, a2, a4, a5]; exact h.st.len x z q hz hq
        · intro x y hy
          obtain ⟨z, hz, a1, _⟩ := key x y hy
          rw [a1]; exact h.st.kind x z hz
        · intro x y hy ht
          obtain ⟨z, hz, a1, a2, a3, a4, a5, a6, _⟩ := key x y hy
          rw [a6] at ht
          obtain ⟨b1, b2, b3⟩ := h.st.tail x z hz ht
          rw [a1, a6]
          refine ⟨b1, b2, fun t hgt => ?_⟩
          obtain ⟨t0, c0, c1, _⟩ := key _ t hgt
          rw [c1]; exact b3 t0 c0
      exact ⟨(h.inv.hold ho).see r, hs.sub (Sub.see _ _), SeenOk.see (H := H.upd r Ob.hold) h.seen (h.inv.ref_in (.inr (by rw [ho]; simp)))⟩
theorem Ok.watch {H : Hp} {N : Nat} (h : Ok H N) (on : Bool) : Ok (watchH H on) N := ⟨h.inv.same rfl rfl rfl, ⟨h.st.last, h.st.holds, h.st.words, h.st.own, h.st.len, h.st.kind, h.st.tail⟩, fun r b hr => by cases hr⟩
theorem Ok.seenOp {H : Hp} {N : Nat} (h : Ok H N) : Ok (seenH H).1 N := ⟨h.inv.same rfl rfl rfl, ⟨h.st.last, h.st.holds, h.st.words, h.st.own, h.st.len, h.st.kind, h.st.tail⟩, fun r b hr => by cases hr⟩
theorem Ok.empty : Ok emptyH 0 := ⟨⟨List.nodup_nil, List.nodup_nil, fun r o h => (by cases h), fun r o h => (by cases h), fun r o h => (by cases h), fun r _ _ => rfl, fun r o h => (by cases h), fun k x h => (by cases h)⟩, ⟨Nat.le_refl _, fun r o h => (by cases h), Nat.zero_le _, fun r o h => (by cases h), fun r o x h => (by cases h), fun r o h => (by cases h), fun r o h => (by cases h)⟩, fun r b h => (by cases h)⟩
end Go.Proofs.Ytodfpclekihbhaa

