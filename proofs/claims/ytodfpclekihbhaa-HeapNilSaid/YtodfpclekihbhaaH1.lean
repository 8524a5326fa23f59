/- The heap in plain Lean: what each call answers and leaves. -/
import Derived.Test.YtodfpclekihbhaaMp
namespace Go.Proofs.Ytodfpclekihbhaa

/-- A word: a number or a reference. -/
structure Wd where
  num : Int
  ref : Int
/-- An object, as a struct of the program's has it; row names its row of words. -/
structure Ob where
  kind : Int
  cls : Int
  refs : List Bool
  chars : ByteArray
  wide : Bool
  tail : Int
  row : Int
  lo : Nat
  hi : Nat
  holds : Int
  rc : Int
def Ob.dec (o : Ob) : Ob := { o with rc := o.rc - 1 }
def Ob.inc (o : Ob) : Ob := { o with rc := o.rc + 1 }
/-- A row of words: of one object, or of the arrays that share it. -/
structure Rw where
  words : List Wd
  arr : Int
  isA : Bool
def Rw.dec (x : Rw) : Rw := { x with arr := x.arr - 1 }
/-- A heap. -/
structure Hp where
  objs : List (Int × Ob)
  rows : List (Int × Rw)
  last : Nat
  watched : Bool
  seen : List (Int × Bool)

def emptyH : Hp := ⟨[], [], 0, false, []⟩
def Hp.get (H : Hp) (r : Int) : Option Ob := Mp.get H.objs r
def Hp.rowOf (H : Hp) (k : Int) : List Wd := ((Mp.get H.rows k).map (·.words)).getD []
/-- An entry of a list of pairs is turned. -/
def mapAt {α : Type} (L : List (Int × α)) (r : Int) (f : α → α) : List (Int × α) := L.map fun p => if p.1 = r then (p.1, f p.2) else p
def Hp.upd (H : Hp) (r : Int) (f : Ob → Ob) : Hp := { H with objs := mapAt H.objs r f }
def Hp.updR (H : Hp) (k : Int) (f : Rw → Rw) : Hp := { H with rows := mapAt H.rows k f }
def refsOf (l : List Wd) : List Int := (l.map (·.ref)).filter fun x => decide (x ≠ 0)
def tailOf (o : Ob) : List Int := if o.tail = 0 then [] else [o.tail]
/-- The references of an object. -/
def targetsH (H : Hp) (o : Ob) : List Int := refsOf (H.rowOf o.row) ++ tailOf o
def seeH (H : Hp) (r : Int) : Hp := if H.watched = true ∧ r ≠ 0 then { H with seen := Mp.put H.seen r true } else H
def seeAll (H : Hp) (l : List Int) : Hp := l.foldl seeH H
def referH (H : Hp) (r : Int) : Hp := if r = 0 then H else H.upd r Ob.inc
/-- free: the heap without the object, and what is to be released. -/
def freeH (H : Hp) (r : Int) (o : Ob) : Hp × List Int :=
  match Mp.get H.rows o.row with
  | none => ({ H with objs := Mp.del H.objs r }, [])
  | some rw => if rw.isA = true ∧ 0 < rw.arr - 1 then ({ H with objs := Mp.del H.objs r, rows := mapAt H.rows o.row Rw.dec }, [])
    else ({ H with objs := Mp.del H.objs r, rows := Mp.del H.rows o.row }, targetsH H o)
theorem len_mapAt {α : Type} (L : List (Int × α)) (r : Int) (f : α → α) : (mapAt L r f).length = L.length := by simp [mapAt]
theorem len_del_lt {α : Type} {L : List (Int × α)} {r : Int} {o : α} (h : Mp.get L r = some o) : (Mp.del L r).length < L.length := by
  have hm := Mp.mem_of_get h
  unfold Mp.del
  rcases Nat.lt_or_ge (L.filter fun p => decide (p.1 ≠ r)).length L.length with h1 | h1
  · exact h1
  · have h2 := List.filter_eq_self.1 (List.Sublist.eq_of_length_le (List.filter_sublist (l := L) (p := fun p => decide (p.1 ≠ r))) h1) _ hm
    simp at h2
theorem freeH_objs (H : Hp) (r : Int) (o : Ob) : (freeH H r o).1.objs = Mp.del H.objs r := by
  unfold freeH
  split
  · rfl
  · split <;> rfl
theorem get_mapAt {α : Type} (L : List (Int × α)) (r x : Int) (f : α → α) : Mp.get (mapAt L r f) x = if x = r then (Mp.get L x).map f else Mp.get L x := by
  induction L with
  | nil => simp [mapAt, Mp.get]
  | cons p L ih =>
    obtain ⟨k, o⟩ := p
    have e1 : mapAt ((k, o) :: L) r f = (if k = r then (k, f o) else (k, o)) :: mapAt L r f := rfl
    have e2 : ∀ (a : α) (M : List (Int × α)), Mp.get ((k, a) :: M) x = if k = x then some a else Mp.get M x := fun a M => by
      by_cases h : k = x <;> simp [Mp.get, h]
    rw [e1, e2]
    by_cases h1 : k = r
    · rw [if_pos h1, e2, ih]
      by_cases h2 : k = x
      · rw [if_pos h2, if_pos h2, if_pos (h2.symm.trans h1)]; rfl
      · rw [if_neg h2, if_neg h2]
    · rw [if_neg h1, e2, ih]
      by_cases h2 : k = x
      · rw [if_pos h2, if_pos h2, if_neg (fun e => h1 (h2.trans e))]
      · rw [if_neg h2, if_neg h2]
theorem keys_mapAt {α : Type} (L : List (Int × α)) (r : Int) (f : α → α) : (mapAt L r f).map (·.1) = L.map (·.1) := by
  unfold mapAt
  rw [List.map_map]
  apply List.map_congr_left
  intro p _
  simp only [Function.comp]
  split <;> rfl
def wsum (L : List (Int × Rw)) : Nat := (L.map fun p => p.2.words.length).sum
theorem wsum_mapAt (L : List (Int × Rw)) (k : Int) (f : Rw → Rw) (h : ∀ x, (f x).words.length = x.words.length) : wsum (mapAt L k f) = wsum L := by
  unfold wsum mapAt
  rw [List.map_map]
  congr 1
  apply List.map_congr_left
  intro p _
  simp only [Function.comp]
  split
  · exact h _
  · rfl
theorem wsum_del {L : List (Int × Rw)} {k : Int} {rw : Rw} (h : Mp.get L k = some rw) : wsum (Mp.del L k) + rw.words.length ≤ wsum L := by
  induction L with
  | nil => cases h
  | cons p L ih =>
    obtain ⟨q, a⟩ := p
    have e : wsum ((q, a) :: L) = a.words.length + wsum L := by simp [wsum]
    have mono : wsum (Mp.del L k) ≤ wsum L := by
      clear ih h e
      induction L with
      | nil => exact Nat.le_refl _
      | cons p L ih =>
        by_cases h1 : p.1 = k
        · have : Mp.del (p :: L) k = Mp.del L k := by simp [Mp.del, h1]
          rw [this]; simp only [wsum, List.map_cons, List.sum_cons] at ih ⊢; omega
        · have : Mp.del (p :: L) k = p :: Mp.del L k := by simp [Mp.del, h1]
          rw [this]; simp only [wsum, List.map_cons, List.sum_cons] at ih ⊢; omega
    by_cases h1 : q = k
    · have e1 : Mp.del ((q, a) :: L) k = Mp.del L k := by simp [Mp.del, h1]
      have e2 : a = rw := by simp [Mp.get, h1] at h; exact h
      rw [e1, e, ← e2]; omega
    · have e1 : Mp.del ((q, a) :: L) k = (q, a) :: Mp.del L k := by simp [Mp.del, h1]
      have e2 : Mp.get L k = some rw := by simpa [Mp.get, h1] using h
      have := ih e2
      rw [e1, e]
      have : wsum ((q, a) :: Mp.del L k) = a.words.length + wsum (Mp.del L k) := by simp [wsum]
      omega
/-- How much there is to release at most. -/
def muH (H : Hp) : Nat := wsum H.rows + 2 * H.objs.length
theorem mu_upd (H : Hp) (r : Int) (f : Ob → Ob) : muH (H.upd r f) = muH H := by simp [muH, Hp.upd, len_mapAt]
theorem len_refsOf (l : List Wd) : (refsOf l).length ≤ l.length := by
  unfold refsOf
  exact Nat.le_trans (List.length_filter_le _ _) (by simp)
theorem mu_free (H : Hp) (r : Int) (o o' : Ob) (h : Mp.get H.objs r = some o') : muH (freeH H r o).1 + (freeH H r o).2.length < muH H := by
  have h1 := len_del_lt h
  unfold freeH
  split
  · simp only [muH, List.length_nil]; omega
  · rename_i rw hr
    split
    · simp only [muH, List.length_nil]
      rw [wsum_mapAt _ _ Rw.dec (fun _ => rfl)]
      omega
    · have h2 := wsum_del hr
      have h3 : (targetsH H o).length ≤ rw.words.length + 1 := by
        unfold targetsH Hp.rowOf
        rw [hr]
        have := len_refsOf rw.words
        simp only [Option.map_some, Option.getD_some, List.length_append]
        unfold tailOf
        split <;> simp <;> omega
      simp only [muH]
      omega
/-- release, with a stack: its first is taken next. -/
def relH (H : Hp) (st : List Int) : Hp :=
  match st with
  | [] => H
  | r :: st =>
    if r = 0 then relH H st
    else match h : Mp.get H.objs r with
      | none => relH H st
      | some o =>
        if o.holds + (o.rc - 1) = 0 then relH (freeH (H.upd r Ob.dec) r o).1 ((freeH (H.upd r Ob.dec) r o).2.reverse ++ st)
        else relH (H.upd r Ob.dec) st
termination_by muH H + st.length
decreasing_by
  · simp_wf
  · simp_wf
  · simp_wf
    have h1 : Mp.get (H.upd r Ob.dec).objs r = some o.dec := by
      show Mp.get (mapAt H.objs r Ob.dec) r = _
      rw [get_mapAt, if_pos rfl, h]; rfl
    have := mu_free _ r o _ h1
    rw [mu_upd] at this
    omega
  · simp_wf
    rw [mu_upd]
    omega
theorem relH_nil (H : Hp) : relH H [] = H := by rw [relH]
theorem relH_zero (H : Hp) (st : List Int) : relH H (0 :: st) = relH H st := by rw [relH]; simp
theorem relH_keep {H : Hp} {r : Int} {o : Ob} (st : List Int) (hr : r ≠ 0) (h : Mp.get H.objs r = some o) (hc : o.holds + (o.rc - 1) ≠ 0) : relH H (r :: st) = relH (H.upd r Ob.dec) st := by
  rw [relH]
  rw [if_neg hr]
  split
  · rename_i h2; rw [h] at h2; cases h2
  · rename_i o2 h2
    rw [h] at h2
    cases h2
    rw [if_neg hc]
theorem relH_free {H : Hp} {r : Int} {o : Ob} (st : List Int) (hr : r ≠ 0) (h : Mp.get H.objs r = some o) (hc : o.holds + (o.rc - 1) = 0) :
    relH H (r :: st) = relH (freeH (H.upd r Ob.dec) r o).1 ((freeH (H.upd r Ob.dec) r o).2.reverse ++ st) := by
  rw [relH]
  rw [if_neg hr]
  split
  · rename_i h2; rw [h] at h2; cases h2
  · rename_i o2 h2
    rw [h] at h2
    cases h2
    rw [if_pos hc]
end Go.Proofs.Ytodfpclekihbhaa
