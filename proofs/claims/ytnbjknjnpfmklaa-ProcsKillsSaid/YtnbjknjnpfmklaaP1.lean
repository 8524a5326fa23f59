/- The table of processes in plain Lean: what each call answers and leaves. -/
import Derived.Test.YtnbjknjnpfmklaaP0
namespace Go.Proofs.Ytnbjknjnpfmklaa
open Go.RowKit

structure Pr where
  pid : Int
  group : Int
  state : Int
  why : ByteArray
  ticks : Int
structure Tb where
  q : Int
  s : List Int
  used : Nat
  ticks : Int
  P : List Pr
  ready : List Int
  cur : Int
  left : Int
  last : Int
def prV (p : Pr) : Value := .agg #[.int .i64 p.pid, .int .i64 p.group, .int .i64 p.state, .string p.why, .int .i64 p.ticks]
def kV (i : Int) : Value := .int .i64 i
def ints (zs : List Int) : List Value := zs.map (Value.int .i64)
/-- The entries of the map: the keys k, k + 1, .. -/
def prsFrom (k : Int) : List Pr → List (Int × Pr)
  | [] => []
  | p :: ps => (k, p) :: prsFrom (k + 1) ps
def prs (P : List Pr) : List (Int × Pr) := prsFrom 1 P
def prAt (P : List Pr) (x : Int) : Option Pr := if 1 ≤ x then P[(x - 1).toNat]? else none

theorem get_prsFrom (P : List Pr) (k x : Int) : Mp.get (prsFrom k P) x = if k ≤ x then P[(x - k).toNat]? else none := by
  induction P generalizing k with
  | nil => simp [prsFrom, Mp.get]
  | cons p ps ih =>
    by_cases e : k = x
    · subst e; simp [prsFrom, Mp.get]
    · have h1 : Mp.get (prsFrom k (p :: ps)) x = Mp.get (prsFrom (k + 1) ps) x := by simp [prsFrom, Mp.get, e]
      rw [h1, ih]
      by_cases h2 : k ≤ x
      · rw [if_pos h2, if_pos (by omega), show (x - k).toNat = (x - (k + 1)).toNat + 1 by omega]; rfl
      · rw [if_neg h2, if_neg (by omega)]
theorem get_prs (P : List Pr) (x : Int) : Mp.get (prs P) x = prAt P x := get_prsFrom P 1 x
theorem len_prsFrom (P : List Pr) (k : Int) : (prsFrom k P).length = P.length := by
  induction P generalizing k with
  | nil => rfl
  | cons p ps ih => simp [prsFrom, ih]
theorem prsFrom_get (P : List Pr) (k : Int) (j : Nat) : (prsFrom k P)[j]? = (P[j]?).map fun p => (k + j, p) := by
  induction P generalizing k j with
  | nil => simp [prsFrom]
  | cons p ps ih =>
    cases j with
    | zero => simp [prsFrom]
    | succ j => simp only [prsFrom, List.getElem?_cons_succ, ih]; congr 1; funext p; congr 1; omega
theorem put_prs_new (P : List Pr) (p : Pr) : Mp.put (prs P) ((P.length : Int) + 1) p = prs (P ++ [p]) := by
  have h1 : Mp.get (prs P) ((P.length : Int) + 1) = none := by
    rw [get_prs, prAt, if_pos (by omega)]
    rw [show ((P.length : Int) + 1 - 1).toNat = P.length by omega]
    exact List.getElem?_eq_none (Nat.le_refl _)
  unfold Mp.put
  rw [h1, if_neg (by simp)]
  apply List.ext_getElem?
  intro j
  unfold prs
  rw [List.getElem?_append, prsFrom_get, prsFrom_get, len_prsFrom, List.getElem?_append]
  by_cases h : j < P.length
  · simp [h]
  · rw [if_neg h, if_neg h]
    by_cases h2 : j = P.length
    · subst h2; simp; omega
    · have h3 : j - P.length = (j - P.length - 1) + 1 := by omega
      rw [h3]; rfl
theorem put_prs_old (P : List Pr) (x : Int) (p : Pr) (h1 : 1 ≤ x) (h2 : (x - 1).toNat < P.length) : Mp.put (prs P) x p = prs (P.set (x - 1).toNat p) := by
  have h0 : (Mp.get (prs P) x).isSome = true := by rw [get_prs, prAt, if_pos h1, List.getElem?_eq_getElem h2]; rfl
  unfold Mp.put
  rw [if_pos h0]
  apply List.ext_getElem?
  intro j
  unfold prs
  rw [List.getElem?_map, prsFrom_get, prsFrom_get, List.getElem?_set]
  by_cases e : (x - 1).toNat = j
  · subst e
    rw [if_pos rfl, if_pos h2, List.getElem?_eq_getElem h2]
    have e1 : (1 : Int) + (((x - 1).toNat : Nat) : Int) = x := by omega
    simp only [Option.map_some]
    rw [if_pos e1, e1]
  · rw [if_neg e]
    cases hj : P[j]? with
    | none => rfl
    | some r =>
      have : ¬ (1 : Int) + (j : Int) = x := by omega
      simp [this]

/-- Choose. -/
def chooseI (T : Tb) (n : Int) : Int := if n < 2 ∨ T.s.length ≤ T.used then 0 else if (T.s.getD T.used 0).tmod n < 0 then (T.s.getD T.used 0).tmod n + n else (T.s.getD T.used 0).tmod n
def chooseT (T : Tb) (n : Int) : Tb := if n < 2 ∨ T.s.length ≤ T.used then T else { T with used := T.used + 1 }
def aliveP (P : List Pr) : Nat := (P.filter fun p => decide (p.state ≠ 6)).length
/-- Make. -/
def makeE (T : Tb) (parent : Int) : Int := if parent ≠ 0 ∧ prAt T.P parent = none then 4 else if 64 ≤ aliveP T.P then 24 else 0
def groupI (T : Tb) (parent : Int) : Int := match prAt T.P parent with | none => (T.P.length : Int) + 1 | some p => if parent = 0 then (T.P.length : Int) + 1 else p.group
def makeI (T : Tb) (parent : Int) : Int := if makeE T parent = 0 then (T.P.length : Int) + 1 else 0
def makeT (T : Tb) (parent : Int) : Tb := if makeE T parent = 0 then { T with P := T.P ++ [⟨(T.P.length : Int) + 1, groupI T parent, 0, ⟨#[]⟩, 0⟩], ready := T.ready ++ [(T.P.length : Int) + 1], last := (T.P.length : Int) + 1 } else T
/-- Turn. -/
def turnI (T : Tb) : Int := if T.cur ≠ 0 then T.cur else if T.ready.length = 0 then 0 else T.ready.getD (chooseI T T.ready.length).toNat 0
def turnB (T : Tb) : Bool := decide (T.cur ≠ 0) || decide (T.ready.length ≠ 0)
def turnT (T : Tb) : Tb := if T.cur ≠ 0 then T else if T.ready.length = 0 then T else { chooseT T T.ready.length with cur := T.ready.getD (chooseI T T.ready.length).toNat 0, ready := T.ready.eraseIdx (chooseI T T.ready.length).toNat, left := T.q }
def setP (P : List Pr) (x : Int) (f : Pr → Pr) : List Pr := P.modify (x - 1).toNat f
end Go.Proofs.Ytnbjknjnpfmklaa
