/- The calls of a heap in plain Lean. -/
import Derived.Test.YtodfpclekihbhaaL1
namespace Go.Proofs.Ytodfpclekihbhaa

def emptyB : ByteArray := ⟨#[]⟩
/-- Is a word right for a place? -/
def fitsH (H : Hp) (ref : Bool) (w : Wd) : Int :=
  if ref = true ∧ w.num ≠ 0 ∨ ref = false ∧ w.ref ≠ 0 then 13 else if w.ref ≠ 0 ∧ Mp.get H.objs w.ref = none then 4 else 0
/-- add: the object gets the next number. -/
def addH (H : Hp) (o : Ob) : Hp := seeH { H with objs := Mp.put H.objs ((H.last : Int) + 1) { o with holds := 1 }, last := H.last + 1 } ((H.last : Int) + 1)
def newRow (H : Hp) (x : Rw) : Hp := { H with rows := Mp.put H.rows ((H.last : Int) + 1) x }
def textH (H : Hp) (c : ByteArray) (wide : Bool) (len : Nat) : Hp × Int × Int :=
  if len = 0 then (H, 0, 0) else (addH (newRow H ⟨[], 1, false⟩) ⟨1, 0, [], c, wide, 0, H.last + 1, 0, 0, 0, 0⟩, H.last + 1, 0)
def arrayH (H : Hp) (cls : Int) (refs : List Bool) (n : Int) : Hp × Int × Int :=
  if 256 < refs.length then (H, 0, 3)
  else if n < 0 ∨ 65536 < n then (H, 0, 11)
  else if 1048576 < n * refs.length then (H, 0, 3)
  else (addH (newRow H ⟨List.replicate (n.toNat * refs.length) ⟨0, 0⟩, 1, true⟩) ⟨2, cls, refs, emptyB, false, 0, H.last + 1, 0, n.toNat, 0, 0⟩, H.last + 1, 0)
def Rw.inc (x : Rw) : Rw := { x with arr := x.arr + 1 }
def partOb (o : Ob) (f t : Int) : Ob := ⟨2, o.cls, o.refs, emptyB, false, 0, o.row, o.lo + f.toNat, o.lo + t.toNat, 0, 0⟩
def partH (H : Hp) (r f t : Int) : Hp × Int × Int :=
  match Mp.get H.objs r with
  | none => (H, 0, 4)
  | some o => if o.kind ≠ 2 then (H, 0, 13) else if f < 0 ∨ t < f ∨ (o.hi : Int) - o.lo < t then (H, 0, 11)
    else (addH (H.updR o.row Rw.inc) (partOb o f t), H.last + 1, 0)
def makeH (H : Hp) (kind cls : Int) (refs : List Bool) : Hp × Int × Int :=
  if kind ≠ 4 ∧ kind ≠ 5 ∧ kind ≠ 6 ∧ kind ≠ 7 then (H, 0, 13)
  else if 256 < refs.length then (H, 0, 3)
  else (addH (newRow H ⟨if kind = 5 then [] else List.replicate refs.length ⟨0, 0⟩, 1, false⟩) ⟨kind, cls, refs, emptyB, false, 0, H.last + 1, 0, 0, 0, 0⟩, H.last + 1, 0)
/-- The first error of words for a shape. -/
def fitsAll (H : Hp) : List Bool → List Wd → Int
  | b :: bs, w :: ws => if fitsH H b w ≠ 0 then fitsH H b w else fitsAll H bs ws
  | _, _ => 0
def noteH (H : Hp) (x : Int) : Hp := seeH (referH H x) x
def consH (H : Hp) (cls : Int) (refs : List Bool) (front : List Wd) (tail : Int) : Hp × Int × Int :=
  if 256 < refs.length then (H, 0, 3)
  else if front.length ≠ refs.length then (H, 0, 14)
  else if fitsAll H refs front ≠ 0 then (H, 0, fitsAll H refs front)
  else if tail ≠ 0 ∧ Mp.get H.objs tail = none then (H, 0, 4)
  else if tail ≠ 0 ∧ (Mp.get H.objs tail).map (·.kind) ≠ some 3 then (H, 0, 13)
  else
    let G := (refsOf front ++ if tail = 0 then [] else [tail]).foldl noteH H
    (addH (newRow G ⟨front, 1, false⟩) ⟨3, cls, refs, emptyB, false, tail, H.last + 1, 0, 0, 0, 0⟩, H.last + 1, 0)
def setW (H : Hp) (k : Int) (i : Nat) (w : Wd) : Hp := H.updR k fun x => { x with words := x.words.set i w }
def refAt (H : Hp) (k : Int) (i : Nat) : Int := (((H.rowOf k)[i]?).map (·.ref)).getD 0
def replaceH (H : Hp) (k : Int) (i : Nat) (w : Wd) : Hp :=
  relH (setW (seeH (seeH (referH H w.ref) w.ref) (refAt H k i)) k i w) [refAt H k i]
/-- Where a word of an object is: its row and its index there. -/
def placeO (H : Hp) (r i : Int) (list : Bool) : Option (Int × Nat) × Int :=
  match Mp.get H.objs r with
  | none => (none, 4)
  | some o => if ¬ (o.kind = 4 ∨ o.kind = 6 ∨ o.kind = 7 ∨ o.kind = 3 ∧ list = true) then (none, 13)
    else if i < 0 ∨ (H.rowOf o.row).length ≤ i then (none, 11) else (some (o.row, i.toNat), 0)
/-- Where a word of an element is. -/
def placeA (H : Hp) (r el i : Int) : Option (Int × Nat) × Int :=
  match Mp.get H.objs r with
  | none => (none, 4)
  | some o => if o.kind ≠ 2 then (none, 13)
    else if el < 0 ∨ (o.hi : Int) - o.lo ≤ el ∨ i < 0 ∨ o.refs.length ≤ i then (none, 11) else (some (o.row, (o.lo + el.toNat) * o.refs.length + i.toNat), 0)
def wordAt (H : Hp) : Option (Int × Nat) × Int → Wd × Int
  | (some (k, i), e) => (((H.rowOf k)[i]?).getD ⟨0, 0⟩, e)
  | (none, e) => (⟨0, 0⟩, e)
def getH (H : Hp) (r i : Int) : Wd × Int := wordAt H (placeO H r i true)
def atH (H : Hp) (r el i : Int) : Wd × Int := wordAt H (placeA H r el i)
def isRef (H : Hp) (r : Int) (i : Int) : Bool := ((((Mp.get H.objs r).map (·.refs)).getD [])[i.toNat]?).getD false
def storeH (H : Hp) (r i : Int) (w : Wd) : Option (Int × Nat) × Int → Hp × Int
  | (some (k, j), _) => if fitsH H (isRef H r i) w ≠ 0 then (H, fitsH H (isRef H r i) w) else (replaceH H k j w, 0)
  | (none, e) => (H, e)
def setH (H : Hp) (r i : Int) (w : Wd) : Hp × Int := storeH H r i w (placeO H r i false)
def putH (H : Hp) (r el i : Int) (w : Wd) : Hp × Int := storeH H r i w (placeA H r el i)
/-- Words are copied one by one; what they replace is noted. -/
def copyW (H : Hp) (k : Int) : Nat → List Wd → Hp × List Int
  | _, [] => (H, [])
  | i, x :: l => ((copyW (setW (seeH (seeH (referH H x.ref) x.ref) (refAt H k i)) k i x) k (i + 1) l).1, refAt H k i :: (copyW (setW (seeH (seeH (referH H x.ref) x.ref) (refAt H k i)) k i x) k (i + 1) l).2)
def copyH (H : Hp) (to_ at_ from_ : Int) : Hp × Int :=
  match Mp.get H.objs to_, Mp.get H.objs from_ with
  | some a, some b =>
    if a.kind ≠ 2 ∨ b.kind ≠ 2 then (H, 13)
    else if a.refs ≠ b.refs then (H, 14)
    else if at_ < 0 ∨ (a.hi : Int) - a.lo - (b.hi - b.lo) < at_ then (H, 11)
    else
      let l := ((H.rowOf b.row).drop (b.lo * a.refs.length)).take ((b.hi - b.lo) * a.refs.length)
      let c := copyW H a.row ((a.lo + at_.toNat) * a.refs.length) l
      (relH c.1 c.2.reverse, 0)
  | _, _ => (H, 4)
def Wd.cut (w : Wd) : Wd := { w with ref := 0 }
def cutRow (x : Rw) : Rw := { x with words := x.words.map Wd.cut }
def Ob.cut (o : Ob) : Ob := { o with tail := 0 }
def clearH (H : Hp) (r : Int) : Hp × Int :=
  match Mp.get H.objs r with
  | none => (H, 4)
  | some o => (relH (seeAll ((H.updR o.row cutRow).upd r Ob.cut) (targetsH H o)) (targetsH H o).reverse, 0)
def Ob.hold (o : Ob) : Ob := { o with holds := o.holds + 1 }
def Ob.drop (o : Ob) : Ob := { o with holds := o.holds - 1 }
def holdH (H : Hp) (r : Int) : Hp × Int := if Mp.get H.objs r = none then (H, 4) else (seeH (H.upd r Ob.hold) r, 0)
def dropH (H : Hp) (r : Int) : Hp × Int :=
  match Mp.get H.objs r with
  | none => (H, 4)
  | some o => if o.holds = 0 then (H, 6)
    else if o.holds - 1 + o.rc = 0 then (relH (freeH (H.upd r Ob.drop) r o).1 (freeH (H.upd r Ob.drop) r o).2.reverse, 0)
    else (H.upd r Ob.drop, 0)
def keysS {α : Type} (L : List (Int × α)) : List Int := (L.map (·.1)).mergeSort (· ≤ ·)
def allH (H : Hp) : List Int := keysS H.objs
def refsH (H : Hp) (r : Int) : List Int := match Mp.get H.objs r with | none => [] | some o => targetsH H o
def watchH (H : Hp) (on : Bool) : Hp := { H with watched := on, seen := [] }
def seenH (H : Hp) : Hp × List Int := ({ H with seen := [] }, (keysS H.seen).filter fun r => (Mp.get H.objs r).isSome)
def kindH (H : Hp) (r : Int) : Int := ((Mp.get H.objs r).map (·.kind)).getD 0
def holdsH (H : Hp) (r : Int) : Int := ((Mp.get H.objs r).map (·.holds)).getD 0
def countH (H : Hp) (r : Int) : Int := ((Mp.get H.objs r).map fun o => o.holds + o.rc).getD 0
end Go.Proofs.Ytodfpclekihbhaa
