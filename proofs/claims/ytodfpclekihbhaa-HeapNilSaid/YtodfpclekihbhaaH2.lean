/- The heap in memory. -/
import Derived.Test.YtodfpclekihbhaaH1
import Derived.Test.YtodfpclekihbhaaR0
import Derived.KernelRfl
import Derived.Lib.Hide
import Derived.BigQuiet
import Derived.Deep.RegionHeld3
import Derived.Deep.RegionLaw
import Derived.Deep.AppendLies
import Derived.Deep.Onto
import Derived.Test.YtodfpclekihbhaaProg
namespace Go.Proofs.Ytodfpclekihbhaa
open Go.RowKit

theorem cell_of_heap {w : World} {b j : Nat} {cs : Array Value} {t : TypeId} {fr : Nat × Nat} {v : Value} (h : w.heap[b]? = some (.cells cs t fr)) (hv : cs[j]? = some v) : w.cell? ⟨b, j, none⟩ = some v := by
  unfold World.cell?
  rw [h]
  simpa using hv
theorem frozen_of_heap {w : World} {b : Nat} {cs : Array Value} {t : TypeId} (h : w.heap[b]? = some (.cells cs t (0, 0))) (i : Nat) : w.frozen? ⟨b, i, none⟩ = false := by simp [World.frozen?, h]
theorem lt_of_heap {w : World} {b : Nat} {o : Obj} (h : w.heap[b]? = some o) : b < w.heap.size := (Array.getElem?_eq_some_iff.1 h).1
theorem _root_.Go.RowKit.Below.step2 {a b c : World} (h : Below a.heap.size a b) (k : Below b.heap.size b c) : Below a.heap.size a c := h.trans (k.mono h.size)
theorem _root_.Go.RowKit.Below.dn {B : Nat} {a w : World} (h : Below B a w) (n : Nat) : Below B a (w.drewN n) := h.trans ⟨rfl, rfl, rfl, Nat.le_refl _, fun _ _ => rfl⟩
def kV (i : Int) : Value := .int .i64 i
def ptrV (n : Nat) : Value := .pointer (some ⟨n, 0, none⟩)
def ints (zs : List Int) : List Value := zs.map (Value.int .i64)
/-- The cells of words. -/
def wcs : List Wd → List Value
  | [] => []
  | x :: l => .int .i64 x.num :: .int .i64 x.ref :: wcs l
theorem len_wcs (l : List Wd) : (wcs l).length = l.length * 2 := by
  induction l with
  | nil => rfl
  | cons x l ih => simp only [wcs, List.length_cons, ih]; omega
theorem wcs_get0 (l : List Wd) (j : Nat) (h : j < l.length) : (wcs l)[j * 2]? = some (.int .i64 (l[j]'h).num) := by
  induction l generalizing j with
  | nil => exact absurd h (Nat.not_lt_zero _)
  | cons x l ih =>
    cases j with
    | zero => rfl
    | succ j =>
      rw [show (j + 1) * 2 = j * 2 + 1 + 1 by omega]
      simp only [wcs, List.getElem?_cons_succ, List.getElem_cons_succ]
      exact ih j (by simpa using h)
theorem wcs_get1 (l : List Wd) (j : Nat) (h : j < l.length) : (wcs l)[j * 2 + 1]? = some (.int .i64 (l[j]'h).ref) := by
  induction l generalizing j with
  | nil => exact absurd h (Nat.not_lt_zero _)
  | cons x l ih =>
    cases j with
    | zero => rfl
    | succ j =>
      rw [show (j + 1) * 2 + 1 = (j * 2 + 1) + 1 + 1 by omega]
      simp only [wcs, List.getElem?_cons_succ, List.getElem_cons_succ]
      exact ih j (by simpa using h)
theorem wcs_set0 (l : List Wd) (j : Nat) (n : Int) : (wcs l).set (j * 2) (.int .i64 n) = wcs (l.modify j fun x => { x with num := n }) := by
  induction l generalizing j with
  | nil => simp [wcs]
  | cons x l ih =>
    cases j with
    | zero => rfl
    | succ j =>
      rw [show (j + 1) * 2 = j * 2 + 1 + 1 by omega]
      simp only [wcs, List.set_cons_succ, List.modify_succ_cons]
      rw [ih j]
theorem wcs_set1 (l : List Wd) (j : Nat) (n : Int) : (wcs l).set (j * 2 + 1) (.int .i64 n) = wcs (l.modify j fun x => { x with ref := n }) := by
  induction l generalizing j with
  | nil => simp [wcs]
  | cons x l ih =>
    cases j with
    | zero => rfl
    | succ j =>
      rw [show (j + 1) * 2 + 1 = (j * 2 + 1) + 1 + 1 by omega]
      simp only [wcs, List.set_cons_succ, List.modify_succ_cons]
      rw [ih j]
/-- A row of words in memory. -/
def WordsAt (w : World) (A : Option Addr) (C : Nat) (l : List Wd) : Prop := w.ownsRow 0 42 2 (.slice A l.length C) l.length (wcs l)
/-- A list of booleans that can be read. -/
def BoolsAt (w : World) (A : Option Addr) (l : List Bool) : Prop := ∀ j (h : j < l.length), ∃ g o, A = some ⟨g, o, none⟩ ∧ g < w.heap.size ∧ w.cell? ⟨g, o + j, none⟩ = some (.bool (l[j]'h))
theorem own_blk {w : World} {base n C size : Nat} {e : TypeId} {A : Option Addr} {xs : List Value} (h : w.ownsRow base e size (.slice A n C) n xs) (a : Addr) (ha : A = some a) : base ≤ a.block ∧ a.block < w.heap.size := h.lt a.block (by rw [ha]; rfl)
theorem ownB {A : Option Addr} {n C k : Nat} (h : (Value.slice A n C).ownBlock = some k) : ∃ a, A = some a ∧ a.block = k := by
  cases A with
  | none => cases h
  | some a => exact ⟨a, rfl, by injection h⟩
theorem own_mut2 {S : Nat → Prop} {w w' : World} {base n C size : Nat} {e : TypeId} {A : Option Addr} {xs : List Value} (h : w.ownsRow base e size (.slice A n C) n xs) (hm : Mut S w w') (hn : ∀ a, A = some a → ¬ S a.block) : w'.ownsRow base e size (.slice A n C) n xs :=
  own_mut h hm fun k hk => by
    obtain ⟨a, ha, rfl⟩ := ownB hk
    exact hn a ha
/-- One cell of a row is written. -/
theorem own_put {w : World} {base n C size g i : Nat} {e : TypeId} {xs : List Value} (h : w.ownsRow base e size (.slice (some ⟨g, 0, none⟩) n C) n xs) (v : Value) : (w.setCell ⟨g, i, none⟩ v).ownsRow base e size (.slice (some ⟨g, 0, none⟩) n C) n (xs.set i v) := by
  refine ⟨by rw [List.length_set]; exact h.1, ?_⟩
  rcases h.2 with ⟨h1, h2⟩ | ⟨g', cap, cur, h1, h2, h3, h4, h5, h6, h7⟩
  · injection h1 with h1; cases h1
  · injection h1 with e1 e2 e3
    injection e1 with e1
    injection e1 with e1
    subst e1 e3
    exact .inr ⟨g, C, cur.setIfInBounds i v, rfl, h2, heap_setCell_same w g i _ _ v h3, h4, h5, by simpa using h6, by rw [Array.toList_setIfInBounds, List.take_set, h7]⟩
/-- The cells of a word, for a walk. -/
theorem WordsAt.cell {w : World} {A : Option Addr} {C : Nat} {l : List Wd} (h : WordsAt w A C l) (j : Nat) (hj : j < l.length) : ∃ g, A = some ⟨g, 0, none⟩ ∧ g < w.heap.size ∧ l.length ≤ C ∧ (∀ i, w.frozen? ⟨g, i, none⟩ = false) ∧
    w.cell? ⟨g, j * 2, none⟩ = some (.int .i64 (l[j]'hj).num) ∧ w.cell? ⟨g, j * 2 + 1, none⟩ = some (.int .i64 (l[j]'hj).ref) := by
  rcases h.2 with ⟨h1, h2⟩ | ⟨g, cap, cur, h1, h2, h3, h4, h5, h6, h7⟩
  · omega
  · injection h1 with e1 e2 e3
    have key : ∀ i, i < l.length * 2 → w.cell? ⟨g, i, none⟩ = (wcs l)[i]? := fun i hi => by
      rw [← h7, List.getElem?_take_of_lt hi]
      unfold World.cell?
      rw [h3]
      simp
    exact ⟨g, e1, lt_of_heap h3, e3 ▸ h4, fun i => frozen_of_heap h3 i, by rw [key _ (by omega), wcs_get0 l j hj], by rw [key _ (by omega), wcs_get1 l j hj]⟩
theorem BoolsAt.mut {S : Nat → Prop} {w w' : World} {A : Option Addr} {l : List Bool} (h : BoolsAt w A l) (hm : Mut S w w') (hn : l ≠ [] → ∀ a, A = some a → ¬ S a.block) : BoolsAt w' A l := fun j hj => by
  obtain ⟨g, o, h1, h2, h3⟩ := h j hj
  exact ⟨g, o, h1, Nat.lt_of_lt_of_le h2 hm.size, (hm.cell h2 (hn (fun e => by subst e; exact absurd hj (Nat.not_lt_zero _)) _ h1)).trans h3⟩
/-- Where a heap's parts lie. -/
structure HA where
  mb : Nat
  sb : Option Nat
  ob : Int → Nat
  wA : Int → Option Addr
  wC : Int → Nat
  st : Int → Nat
  sA : Int → Option Addr
  sC : Int → Nat
def HA.wF (A : HA) (o : Ob) (n : Nat) : Value := if o.kind = 2 then .slice none 0 0 else .slice (A.wA o.row) n (A.wC o.row)
def HA.pF (A : HA) (o : Ob) : Value := .pointer (if o.kind = 2 then some ⟨A.st o.row, 0, none⟩ else none)
def obC (A : HA) (r : Int) (o : Ob) (n : Nat) : Array Value := #[.int .i64 o.kind, .int .i64 o.cls, .slice (A.sA r) o.refs.length (A.sC r), A.wF o n, .string o.chars, .bool o.wide, .int .i64 o.tail, A.pF o, .int .i64 (o.lo : Int), .int .i64 (o.hi : Int), .int .i64 o.holds, .int .i64 o.rc]
def hpC (A : HA) (H : Hp) : Array Value := #[.map (some A.mb), .int .i64 (H.last : Int), .bool H.watched, .map A.sb]
def stC (A : HA) (k : Int) (x : Rw) : Array Value := #[.int .i64 k, .slice (A.wA k) x.words.length (A.wC k), .int .i64 x.arr]
def obAdr (A : HA) (L : List (Int × Ob)) : List (Int × Nat) := L.map fun p => (p.1, A.ob p.1)
structure HpAt (w : World) (hb : Nat) (A : HA) (H : Hp) (S : Nat → Prop) : Prop where
  blk : w.heap[hb]? = some (.cells (hpC A H) 95 (0, 0))
  omap : Mp.MapIs w A.mb kV ptrV (obAdr A H.objs)
  smap : ∀ b, A.sb = some b → Mp.MapIs w b kV Value.bool H.seen
  snil : A.sb = none → H.watched = false ∧ H.seen = []
  obj : ∀ r o, Mp.get H.objs r = some o → w.heap[A.ob r]? = some (.cells (obC A r o (H.rowOf o.row).length) 104 (0, 0))
  row : ∀ k x, Mp.get H.rows k = some x → WordsAt w (A.wA k) (A.wC k) x.words
  sto : ∀ k x, Mp.get H.rows k = some x → x.isA = true → w.heap[A.st k]? = some (.cells (stC A k x) 99 (0, 0))
  shp : ∀ r o, Mp.get H.objs r = some o → BoolsAt w (A.sA r) o.refs
  oinj : ∀ r r' o o', Mp.get H.objs r = some o → Mp.get H.objs r' = some o' → A.ob r = A.ob r' → r = r'
  winj : ∀ k k' x x' a b, Mp.get H.rows k = some x → Mp.get H.rows k' = some x' → A.wA k = some a → A.wA k' = some b → a.block = b.block → k = k'
  sinj : ∀ k k' x x', Mp.get H.rows k = some x → Mp.get H.rows k' = some x' → x.isA = true → x'.isA = true → A.st k = A.st k' → k = k'
  mne : A.sb ≠ some A.mb
  Sh : S hb
  Sm : S A.mb
  Ss : ∀ b, A.sb = some b → S b
  So : ∀ r o, Mp.get H.objs r = some o → S (A.ob r)
  Sw : ∀ k x a, Mp.get H.rows k = some x → A.wA k = some a → S a.block
  St : ∀ k x, Mp.get H.rows k = some x → x.isA = true → S (A.st k)
  Sp : ∀ r o a, Mp.get H.objs r = some o → o.refs ≠ [] → A.sA r = some a → S a.block ∧ ∃ cs fr, w.heap[a.block]? = some (.cells cs 4 fr)
  Slt : ∀ k, S k → k < w.heap.size
theorem HpAt.mut {T S : Nat → Prop} {w w' : World} {hb : Nat} {A : HA} {H : Hp} (h : HpAt w hb A H S) (hm : Mut T w w') (hd : ∀ k, S k → ¬ T k) : HpAt w' hb A H S where
  blk := (hm.block _ (lt_of_heap h.blk) (hd _ h.Sh)).trans h.blk
  omap := h.omap.of_block (hm.block _ h.omap.lt (hd _ h.Sm))
  smap := fun b e => (h.smap b e).of_block (hm.block _ (h.smap b e).lt (hd _ (h.Ss b e)))
  snil := h.snil
  obj := fun r o ho => (hm.block _ (lt_of_heap (h.obj r o ho)) (hd _ (h.So r o ho))).trans (h.obj r o ho)
  row := fun k x hx => own_mut2 (h.row k x hx) hm fun a ha => hd _ (h.Sw k x a hx ha)
  sto := fun k x hx hi => (hm.block _ (lt_of_heap (h.sto k x hx hi)) (hd _ (h.St k x hx hi))).trans (h.sto k x hx hi)
  shp := fun r o ho => (h.shp r o ho).mut hm fun he a ha => hd _ (h.Sp r o a ho he ha).1
  oinj := h.oinj
  winj := h.winj
  sinj := h.sinj
  mne := h.mne
  Sh := h.Sh
  Sm := h.Sm
  Ss := h.Ss
  So := h.So
  Sw := h.Sw
  St := h.St
  Sp := fun r o a ho he ha => by
    obtain ⟨h1, cs, fr, h2⟩ := h.Sp r o a ho he ha
    exact ⟨h1, cs, fr, (hm.block _ (lt_of_heap h2) (hd _ h1)).trans h2⟩
  Slt := fun k hk => Nat.lt_of_lt_of_le (h.Slt k hk) hm.size
theorem HpAt.below {S : Nat → Prop} {w w' : World} {hb : Nat} {A : HA} {H : Hp} (h : HpAt w hb A H S) (hb' : Below w.heap.size w w') : HpAt w' hb A H S :=
  h.mut (T := fun _ => False) (Mut.of_below hb') fun _ _ h => h
/-- The set of blocks may be taken greater. -/
theorem HpAt.grow {S S' : Nat → Prop} {w : World} {hb : Nat} {A : HA} {H : Hp} (h : HpAt w hb A H S) (hs : ∀ k, S k → S' k) (hl : ∀ k, S' k → k < w.heap.size) : HpAt w hb A H S' :=
  { h with Sh := hs _ h.Sh, Sm := hs _ h.Sm, Ss := fun b e => hs _ (h.Ss b e), So := fun r o ho => hs _ (h.So r o ho), Sw := fun k x a hx ha => hs _ (h.Sw k x a hx ha), St := fun k x hx hi => hs _ (h.St k x hx hi), Sp := fun r o a ho he ha => ⟨hs _ (h.Sp r o a ho he ha).1, (h.Sp r o a ho he ha).2⟩, Slt := hl }
end Go.Proofs.Ytodfpclekihbhaa
