/- The table in memory. -/
import Derived.Test.YtnbjknjnpfmklaaP1
import Derived.Test.YtnbjknjnpfmklaaShelf
import Derived.WalkKit
import Derived.KernelRfl
import Derived.Lib.Hide
import Derived.BigQuiet
import Derived.Deep.RegionHeld3
import Derived.Deep.Onto
namespace Go.Proofs.Ytnbjknjnpfmklaa
open Go.RowKit

theorem cell_of_heap {w : World} {b j : Nat} {cs : Array Value} {t : TypeId} {fr : Nat × Nat} {v : Value} (h : w.heap[b]? = some (.cells cs t fr)) (hv : cs[j]? = some v) : w.cell? ⟨b, j, none⟩ = some v := by
  unfold World.cell?
  rw [h]
  simpa using hv
theorem _root_.Go.RowKit.Below.step2 {a b c : World} (h : Below a.heap.size a b) (k : Below b.heap.size b c) : Below a.heap.size a c := h.trans (k.mono h.size)
theorem _root_.Go.RowKit.Below.dn {B : Nat} {a w : World} (h : Below B a w) (n : Nat) : Below B a (w.drewN n) := h.trans ⟨rfl, rfl, rfl, Nat.le_refl _, fun _ _ => rfl⟩
/-- A list of numbers that can be read. -/
def RowI (w : World) (A : Option Addr) (zs : List Int) : Prop := ∀ j, j < zs.length → ∃ g o, A = some ⟨g, o, none⟩ ∧ g < w.heap.size ∧ w.cell? ⟨g, o + j, none⟩ = some (.int .i64 (zs.getD j 0))
theorem RowI.mut {S : Nat → Prop} {w w' : World} {A : Option Addr} {zs : List Int} (h : RowI w A zs) (hm : Mut S w w') (hn : ∀ a, A = some a → ¬ S a.block) : RowI w' A zs := fun j hj => by
  obtain ⟨g, o, h1, h2, h3⟩ := h j hj
  exact ⟨g, o, h1, Nat.lt_of_lt_of_le h2 hm.size, (hm.cell h2 (hn _ h1)).trans h3⟩
/-- Where a table's parts lie. -/
structure TA where
  mb : Nat
  sA : Option Addr
  sC : Nat
  rA : Option Addr
  rC : Nat
def tabC (p : TA) (T : Tb) : Array Value := #[.int .i64 T.q, .slice p.sA T.s.length p.sC, .int .i64 (T.used : Int), .int .i64 T.ticks, .map (some p.mb), .slice p.rA T.ready.length p.rC, .int .i64 T.cur, .int .i64 T.left, .int .i64 T.last]
/-- The blocks that a call may turn. -/
def TA.fp (tb : Nat) (p : TA) (k : Nat) : Prop := k = tb ∨ k = p.mb ∨ ∃ a, p.rA = some a ∧ a.block = k
structure TabAt (w : World) (tb : Nat) (p : TA) (T : Tb) : Prop where
  blk : w.heap[tb]? = some (.cells (tabC p T) 63 (0, 0))
  map : Mp.MapIs w p.mb kV prV (prs T.P)
  scr : RowI w p.sA T.s
  rdy : w.ownsRow 0 3 1 (.slice p.rA T.ready.length p.rC) T.ready.length (ints T.ready)
  nr : ∀ a, p.rA = some a → a.block ≠ tb
  ns : ∀ a, p.sA = some a → a.block ≠ tb ∧ a.block ≠ p.mb ∧ ∀ b, p.rA = some b → a.block ≠ b.block
  sl : ∀ a, p.sA = some a → a.block < w.heap.size
theorem TabAt.lt {w : World} {tb : Nat} {p : TA} {T : Tb} (h : TabAt w tb p T) : tb < w.heap.size := (Array.getElem?_eq_some_iff.1 h.blk).1
theorem TabAt.mne {w : World} {tb : Nat} {p : TA} {T : Tb} (h : TabAt w tb p T) : p.mb ≠ tb := fun e => by
  obtain ⟨es, clk, h1, _⟩ := h.map
  rw [e, h.blk] at h1
  cases h1
theorem TabAt.rne {w : World} {tb : Nat} {p : TA} {T : Tb} (h : TabAt w tb p T) (a : Addr) (ha : p.rA = some a) : a.block ≠ p.mb := fun e => by
  rcases h.rdy.2 with ⟨h1, _⟩ | ⟨g, cap, cur, h1, _, h3, _⟩
  · injection h1 with h1; rw [ha] at h1; cases h1
  · injection h1 with h1
    rw [ha] at h1
    injection h1 with h1
    subst h1
    obtain ⟨es, clk, h4, _⟩ := h.map
    rw [← e] at h4
    rw [h4] at h3
    cases h3
theorem TabAt.fp_lt {w : World} {tb : Nat} {p : TA} {T : Tb} (h : TabAt w tb p T) (k : Nat) (hk : p.fp tb k) : k < w.heap.size := by
  rcases hk with rfl | rfl | ⟨a, ha, rfl⟩
  · exact h.lt
  · exact h.map.lt
  · exact (h.rdy.lt a.block (by rw [ha]; rfl)).2
theorem TabAt.mut {S : Nat → Prop} {w w' : World} {tb : Nat} {p : TA} {T : Tb} (h : TabAt w tb p T) (hm : Mut S w w') (h1 : ∀ k, p.fp tb k → ¬ S k) (h2 : ∀ a, p.sA = some a → ¬ S a.block) : TabAt w' tb p T where
  blk := (hm.block tb h.lt (h1 _ (.inl rfl))).trans h.blk
  map := h.map.of_block (hm.block p.mb h.map.lt (h1 _ (.inr (.inl rfl))))
  scr := h.scr.mut hm h2
  rdy := own_mut h.rdy hm fun k hk => h1 k (.inr (.inr (by
    cases hr : p.rA with
    | none => rw [hr] at hk; cases hk
    | some a => rw [hr] at hk; exact ⟨a, rfl, by injection hk⟩)))
  nr := h.nr
  ns := h.ns
  sl := fun a ha => Nat.lt_of_lt_of_le (h.sl a ha) hm.size
theorem TabAt.below {w w' : World} {tb : Nat} {p : TA} {T : Tb} (h : TabAt w tb p T) (hb : Below w.heap.size w w') : TabAt w' tb p T :=
  h.mut (S := fun _ => False) (Mut.of_below hb) (fun _ _ h => h) (fun _ _ h => h)
/-- A cell of the table is written. -/
theorem TabAt.set {w : World} {tb : Nat} {p : TA} {T : Tb} (h : TabAt w tb p T) (i : Nat) (v : Value) (p' : TA) (T' : Tb) (hc : (tabC p T).setIfInBounds i v = tabC p' T') (hm : p'.mb = p.mb) (hP : T'.P = T.P) (hs : T'.s = T.s) (hsA : p'.sA = p.sA)
    (hr : w.ownsRow 0 3 1 (.slice p'.rA T'.ready.length p'.rC) T'.ready.length (ints T'.ready)) (hnr : ∀ a, p'.rA = some a → a.block ≠ tb) (hns : ∀ a b, p.sA = some a → p'.rA = some b → a.block ≠ b.block) : TabAt (w.setCell ⟨tb, i, none⟩ v) tb p' T' := by
  have hmut : Mut (· = tb) w (w.setCell ⟨tb, i, none⟩ v) := Mut.setCell w tb i v rfl
  refine ⟨?_, ?_, ?_, ?_, hnr, ?_, ?_⟩
  · rw [heap_setCell_same w tb i _ _ v h.blk, hc]
  · rw [hm, hP]; exact h.map.of_block (hmut.block _ h.map.lt h.mne)
  · rw [hsA, hs]; exact h.scr.mut hmut fun a ha => (h.ns a ha).1
  · refine own_mut hr hmut fun k hk => ?_
    cases hrr : p'.rA with
    | none => rw [hrr] at hk; cases hk
    | some a => rw [hrr] at hk; injection hk with hk; exact hk ▸ hnr a hrr
  · rw [hsA, hm]; exact fun a ha => ⟨(h.ns a ha).1, (h.ns a ha).2.1, fun b hb => hns a b ha hb⟩
  · rw [hsA]; exact fun a ha => Nat.lt_of_lt_of_le (h.sl a ha) hmut.size
theorem TabAt.upd {w : World} {tb : Nat} {p : TA} {T : Tb} (h : TabAt w tb p T) (i : Nat) (v : Value) (T' : Tb) (hc : (tabC p T).setIfInBounds i v = tabC p T') (hP : T'.P = T.P) (hs : T'.s = T.s) (hr : T'.ready = T.ready) : TabAt (w.setCell ⟨tb, i, none⟩ v) tb p T' :=
  h.set i v p T' hc rfl hP hs rfl (by rw [hr]; exact h.rdy) h.nr fun a b ha hb => (h.ns a ha).2.2 b hb
/-- The map is written. -/
theorem TabAt.store {w w1 : World} {tb : Nat} {p : TA} {T : Tb} (h : TabAt w tb p T) (P' : List Pr) (hm : Mp.MapIs w1 p.mb kV prV (prs P')) (hg : Mut (· = p.mb) w w1) : TabAt w1 tb p { T with P := P' } where
  blk := (hg.block tb h.lt h.mne.symm).trans h.blk
  map := hm
  scr := h.scr.mut hg fun a ha => (h.ns a ha).2.1
  rdy := own_mut h.rdy hg fun k hk => by
    cases hr : p.rA with
    | none => rw [hr] at hk; cases hk
    | some a => rw [hr] at hk; injection hk with hk; exact hk ▸ h.rne a hr
  nr := h.nr
  ns := h.ns
  sl := fun a ha => Nat.lt_of_lt_of_le (h.sl a ha) hg.size
/-- A number is appended to the ready list, and the list is written back. -/
theorem TabAt.push {w w1 : World} {tb : Nat} {p : TA} {T : Tb} (h : TabAt w tb p T) (A1 : Option Addr) (C1 : Nat) (ys : List Int) (hr : w1.ownsRow 0 3 1 (.slice A1 ys.length C1) ys.length (ints ys))
    (hg : w.grownBy w1 (Value.slice p.rA T.ready.length p.rC).ownBlock) (hl : ∀ a, A1 = some a → (Value.slice p.rA T.ready.length p.rC).ownBlock = some a.block ∨ w.heap.size ≤ a.block) :
    TabAt (w1.setCell ⟨tb, 5, none⟩ (.slice A1 ys.length C1)) tb { p with rA := A1, rC := C1 } { T with ready := ys } := by
  have hob : ∀ k, (Value.slice p.rA T.ready.length p.rC).ownBlock = some k → ∃ a, p.rA = some a ∧ a.block = k := fun k hk => by
    cases hr : p.rA with
    | none => rw [hr] at hk; cases hk
    | some a => rw [hr] at hk; exact ⟨a, rfl, by injection hk⟩
  have hm : Mut (fun k => ∃ a, p.rA = some a ∧ a.block = k) w w1 := Mut.of_grown hg fun k hk => .inl (hob k hk)
  have hb : w1.heap[tb]? = some (.cells (tabC p T) 63 (0, 0)) := (hm.block tb h.lt (fun ⟨a, ha, e⟩ => h.nr a ha e)).trans h.blk
  have hnr : ∀ a, A1 = some a → a.block ≠ tb := fun a ha e => by
    rcases hl a ha with h1 | h1
    · obtain ⟨c, hc, e2⟩ := hob _ h1
      exact h.nr c hc (e2.trans e)
    · have := h.lt; omega
  have hns : ∀ a b, p.sA = some a → A1 = some b → a.block ≠ b.block := fun a b ha hb' e => by
    rcases hl b hb' with h1 | h1
    · obtain ⟨c, hc, e2⟩ := hob _ h1
      exact (h.ns a ha).2.2 c hc (e.trans e2.symm)
    · have := h.sl a ha; omega
  have hm1 : Mut (fun k => k = tb ∨ ∃ a, p.rA = some a ∧ a.block = k) w w1 := hm.mono fun k hk => .inl (.inr hk)
  have hm2 : Mut (fun k => k = tb ∨ ∃ a, p.rA = some a ∧ a.block = k) w (w1.setCell ⟨tb, 5, none⟩ (.slice A1 ys.length C1)) := hm1.then (Mut.setCell w1 tb 5 _ (.inl rfl))
  refine ⟨?_, ?_, ?_, ?_, hnr, ?_, ?_⟩
  · rw [heap_setCell_same w1 tb 5 _ _ _ hb]; rfl
  · exact h.map.of_block (hm2.block _ h.map.lt (by rintro (e | ⟨a, ha, e⟩); exact h.mne e; exact h.rne a ha e))
  · exact h.scr.mut hm2 fun a ha => by rintro (e | ⟨b, hb', e⟩); exact (h.ns a ha).1 e; exact (h.ns a ha).2.2 b hb' e.symm
  · exact own_mut hr (S := (· = tb)) (Mut.setCell w1 tb 5 _ rfl) fun k hk e => by
      cases hA : A1 with
      | none => rw [hA] at hk; cases hk
      | some a => rw [hA] at hk; injection hk with hk; exact hnr a hA (hk.trans e)
  · exact fun a ha => ⟨(h.ns a ha).1, (h.ns a ha).2.1, fun b hb' => hns a b ha hb'⟩
  · exact fun a ha => Nat.lt_of_lt_of_le (h.sl a ha) hm2.size
/-- What a call leaves: the table T' at the same place; nothing else has turned. -/
def Nx (w : World) (tb : Nat) (p : TA) (T' : Tb) (w' : World) : Prop := ∃ p', TabAt w' tb p' T' ∧ Mut (p.fp tb) w w' ∧ (∀ k, p'.fp tb k → p.fp tb k ∨ w.heap.size ≤ k) ∧ p'.sA = p.sA
theorem Nx.same {w w' : World} {tb : Nat} {p : TA} {T' : Tb} (h : TabAt w' tb p T') (hm : Mut (p.fp tb) w w') : Nx w tb p T' w' := ⟨p, h, hm, fun _ => .inl, rfl⟩
theorem Nx.refl {w : World} {tb : Nat} {p : TA} {T : Tb} (h : TabAt w tb p T) : Nx w tb p T w := Nx.same h (Mut.refl _ _)
theorem Nx.trans {w w1 w2 : World} {tb : Nat} {p p1 : TA} {T2 : Tb} (hm : Mut (p.fp tb) w w1) (hf : ∀ k, p1.fp tb k → p.fp tb k ∨ w.heap.size ≤ k) (hs : p1.sA = p.sA) (h2 : Nx w1 tb p1 T2 w2) : Nx w tb p T2 w2 := by
  obtain ⟨p2, ht2, hm2, hf2, hs2⟩ := h2
  refine ⟨p2, ht2, hm.trans hm2 hf, fun k hk => ?_, hs2.trans hs⟩
  rcases hf2 k hk with h | h
  · exact hf k h
  · exact .inr (Nat.le_trans hm.size h)
/-- The table's cells, for a walk. -/
def Cells (w : World) (tb : Nat) (p : TA) (T : Tb) : Prop := w.cell? ⟨tb, 0, none⟩ = some (.int .i64 T.q) ∧ w.cell? ⟨tb, 1, none⟩ = some (.slice p.sA T.s.length p.sC) ∧ w.cell? ⟨tb, 2, none⟩ = some (.int .i64 (T.used : Int)) ∧ w.cell? ⟨tb, 3, none⟩ = some (.int .i64 T.ticks) ∧ w.cell? ⟨tb, 4, none⟩ = some (.map (some p.mb)) ∧ w.cell? ⟨tb, 5, none⟩ = some (.slice p.rA T.ready.length p.rC) ∧ w.cell? ⟨tb, 6, none⟩ = some (.int .i64 T.cur) ∧ w.cell? ⟨tb, 7, none⟩ = some (.int .i64 T.left) ∧ w.cell? ⟨tb, 8, none⟩ = some (.int .i64 T.last) ∧ ∀ i, w.frozen? ⟨tb, i, none⟩ = false
theorem TabAt.cells {w : World} {tb : Nat} {p : TA} {T : Tb} (h : TabAt w tb p T) : Cells w tb p T :=
  ⟨cell_of_heap h.blk rfl, cell_of_heap h.blk rfl, cell_of_heap h.blk rfl, cell_of_heap h.blk rfl, cell_of_heap h.blk rfl, cell_of_heap h.blk rfl, cell_of_heap h.blk rfl, cell_of_heap h.blk rfl, cell_of_heap h.blk rfl, fun i => by simp [World.frozen?, h.blk]⟩
end Go.Proofs.Ytnbjknjnpfmklaa
