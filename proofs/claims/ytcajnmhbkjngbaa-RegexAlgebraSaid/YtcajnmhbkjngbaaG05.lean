/- Texts on regular expressions, merged: X9, X10. -/
import Derived.Test.YtcajnmhbkjngbaaG04
/- The compiler's brackets. -/
namespace Go.Proofs.Ytcajnmhbkjngbaa
open Go.RowKit Go.Shelf
variable {w w' : World} {cb : Nat} {A : CA} {S : Nat → Prop} {cs : List Int} {ats : AT} {K : CS}

def spC (l : List (Int × Int)) : List Value := l.flatMap fun p => [.int .i32 p.1, .int .i32 p.2]
theorem spC_len (l : List (Int × Int)) : (spC l).length = l.length * 2 := by
  induction l with
  | nil => rfl
  | cons x c ih => simp only [spC, List.flatMap_cons, List.length_append, List.length_cons] at ih ⊢; rw [ih]; simp; omega
theorem spC_append (a b : List (Int × Int)) : spC (a ++ b) = spC a ++ spC b := by simp [spC]
theorem spC_get : ∀ {l : List (Int × Int)} {k : Nat} (h : k < l.length), (spC l)[2 * k]? = some (.int .i32 (l[k]'h).1) ∧ (spC l)[2 * k + 1]? = some (.int .i32 (l[k]'h).2)
  | p :: l, 0, _ => ⟨rfl, rfl⟩
  | p :: l, k + 1, h => by
    have ih := spC_get (l := l) (k := k) (by simpa using h)
    have e : spC (p :: l) = [.int .i32 p.1, .int .i32 p.2] ++ spC l := by simp [spC]
    rw [e, List.getElem?_append_right (by simp; omega), List.getElem?_append_right (by simp; omega)]
    exact ih
theorem RdP.of_own {w : World} {C n : Nat} {sa : Option Addr} {l : List (Int × Int)} (h : w.ownsRow 0 151 2 (.slice sa n C) n (spC l)) : RdP w sa l := ⟨fun j hj => by
  have hn : n = l.length := by have := h.1; rw [spC_len] at this; omega
  subst hn
  obtain ⟨g, h1, _, h3, h4, _⟩ := own_cell h (2 * j) (by omega)
  obtain ⟨g', h1', _, _, h5, _⟩ := own_cell h (2 * j + 1) (by omega)
  have e : g' = g := by rw [h1] at h1'; injection h1' with h1'; injection h1' with h1'; exact h1'.symm
  subst e
  exact ⟨g', h1, h3, by rw [h4]; exact (spC_get hj).1, by rw [h5]; exact (spC_get hj).2⟩, fun a ha => by
  rcases h.2 with ⟨h1, _⟩ | ⟨g, cap, cur, h1, _, h3, _⟩
  · injection h1 with h1; rw [ha] at h1; cases h1
  · injection h1 with h1; rw [ha] at h1; injection h1 with h1; subst h1; exact ⟨_, _, h3⟩⟩
theorem info_span : (Try.prog.info? 151).map (fun i => (i.zero, i.size, i.bytes)) = some (some (.agg #[.int .i32 0, .int .i32 0]), 2, 8) := by kernel_rfl
/-- While the set is read. -/
structure BrAt (w0 w : World) (cb b0 b1 : Nat) (A : CA) (S : Nat → Prop) (cs : List Int) (ats : AT) (K : CS) (j : Nat) (L : List (Int × Int)) (inv : Bool) (sa : Option Addr) (sc : Nat) : Prop where
  cp : CpAt w cb A S cs ats { K with i := j }
  h0 : w.heap[b0]? = some (.cells #[.slice none 0 0, .bool false] 97 (0, 0))
  h1 : w.heap[b1]? = some (.cells #[.slice sa L.length sc, .bool inv] 97 (0, 0))
  own : w.ownsRow 0 151 2 (.slice sa L.length sc) L.length (spC L)
  fresh : ∀ a, sa = some a → w0.heap.size ≤ a.block
  mm : Mut (· = cb) w0 w
  l0 : w0.heap.size ≤ b0 ∧ w0.heap.size ≤ b1 ∧ b0 ≠ b1
  c0 : CpAt w0 cb A S cs ats K
variable {w0 w1 : World} {b0 b1 j j' sc : Nat} {L : List (Int × Int)} {inv : Bool} {sa : Option Addr}
theorem BrAt.cl (h : BrAt w0 w cb b0 b1 A S cs ats K j L inv sa sc) : cb < w0.heap.size := lt_of_heap h.c0.blk
theorem BrAt.step (h : BrAt w0 w cb b0 b1 A S cs ats K j L inv sa sc) (hc : CpAt w1 cb A S cs ats { K with i := j' }) (hm : Mut (· = cb) w w1) : BrAt w0 w1 cb b0 b1 A S cs ats K j' L inv sa sc where
  cp := hc
  h0 := (hm.block _ (lt_of_heap h.h0) (by have := h.l0; have := h.cl; omega)).trans h.h0
  h1 := (hm.block _ (lt_of_heap h.h1) (by have := h.l0; have := h.cl; omega)).trans h.h1
  own := own_mut2 h.own hm fun a ha e => by have := h.fresh a ha; have := h.cl; omega
  fresh := h.fresh
  mm := h.mm.then hm
  l0 := h.l0
  c0 := h.c0
theorem BrAt.below (h : BrAt w0 w cb b0 b1 A S cs ats K j L inv sa sc) (hb : Below w.heap.size w w1) : BrAt w0 w1 cb b0 b1 A S cs ats K j L inv sa sc :=
  h.step (h.cp.below hb) (Mut.of_below hb)
/-- A span is added. -/
theorem BrAt.push (h : BrAt w0 w cb b0 b1 A S cs ats K j L inv sa sc) {p : Int × Int} {A1 : Option Addr} {C1 : Nat} (hm : Mut (fun k => ∃ a, sa = some a ∧ a.block = k) w w1) (ho : w1.ownsRow 0 151 2 (.slice A1 (L.length + 1) C1) (L.length + 1) (spC (L ++ [p]))) (hl : ∀ a1, A1 = some a1 → (∃ a, sa = some a ∧ a.block = a1.block) ∨ w.heap.size ≤ a1.block) :
    BrAt w0 (w1.setCell ⟨b1, 0, none⟩ (.slice A1 (L.length + 1) C1)) cb b0 b1 A S cs ats K j (L ++ [p]) inv A1 C1 := by
  have hsp : ∀ k, (∃ a, sa = some a ∧ a.block = k) → ∃ cur, w.heap[k]? = some (.cells cur 151 (0, 0)) := fun k ⟨a, ha, e⟩ => by
    rcases h.own.2 with ⟨h1, _⟩ | ⟨g, cap, cur, h1, _, h3, _⟩
    · injection h1 with h1; rw [ha] at h1; cases h1
    · injection h1 with h1; rw [ha] at h1; injection h1 with h1; subst h1; subst e; exact ⟨cur, h3⟩
  have hA1 : ∀ a, A1 = some a → ∃ cur, w1.heap[a.block]? = some (.cells cur 151 (0, 0)) := fun a ha => by
    rcases ho.2 with ⟨h1, _⟩ | ⟨g, cap, cur, h1, _, h3, _⟩
    · injection h1 with h1; rw [ha] at h1; cases h1
    · injection h1 with h1; rw [ha] at h1; injection h1 with h1; subst h1; exact ⟨cur, h3⟩
  have hnb1 : ¬ ∃ a, sa = some a ∧ a.block = b1 := fun e => by obtain ⟨cur, hc⟩ := hsp b1 e; exact ne_ty hc h.h1 (by decide) rfl
  have hnb0 : ¬ ∃ a, sa = some a ∧ a.block = b0 := fun e => by obtain ⟨cur, hc⟩ := hsp b0 e; exact ne_ty hc h.h0 (by decide) rfl
  have e1 : w1.heap[b1]? = some (.cells #[.slice sa L.length sc, .bool inv] 97 (0, 0)) := (hm.block _ (lt_of_heap h.h1) hnb1).trans h.h1
  have hs : Mut (· = b1) w1 (w1.setCell ⟨b1, 0, none⟩ (.slice A1 (L.length + 1) C1)) := Mut.setCell _ _ _ _ rfl
  have hlt : ∀ a, sa = some a → w0.heap.size ≤ a.block := h.fresh
  have hall : Mut (fun k => w0.heap.size ≤ k) w (w1.setCell ⟨b1, 0, none⟩ (.slice A1 (L.length + 1) C1)) := (hm.mono fun k hk => .inl (by obtain ⟨a, ha, rfl⟩ := hk; exact hlt a ha)).then (hs.mono fun k hk => .inl (hk ▸ h.l0.2.1))
  refine { cp := ?_, h0 := ?_, h1 := ?_, own := ?_, fresh := ?_, mm := ?_, l0 := h.l0, c0 := h.c0 }
  · exact h.cp.mut hall (fun k _ h1 h2 => by have := h.c0.Slt k h2; omega) (fun a ha e => by have := (h.c0.nch a ha).1; omega) (fun a ha e => by have := (h.c0.nat a ha).1; omega) fun x hx a ha e => by have := (h.c0.nsp x hx a ha).1; omega
  · exact (hs.block _ (Nat.lt_of_lt_of_le (lt_of_heap h.h0) hm.size) h.l0.2.2).trans ((hm.block _ (lt_of_heap h.h0) hnb0).trans h.h0)
  · rw [heap_setCell_same w1 b1 0 _ _ _ e1, List.length_append]; rfl
  · rw [List.length_append]
    exact own_mut2 ho hs fun a ha e => by obtain ⟨cur, hc⟩ := hA1 a ha; exact ne_ty hc e1 (by decide) e
  · intro a ha
    rcases hl a ha with ⟨b, hb, e⟩ | e
    · rw [← e]; exact h.fresh b hb
    · exact Nat.le_trans h.mm.size e
  · exact h.mm.trans hall fun k hk => .inr hk
/-- What brackets leaves. -/
def BrPo (w : World) (cb : Nat) (A : CA) (S : Nat → Prop) (cs : List Int) (ats : AT) (K : CS) (R : (CSet × Nat) ⊕ (Nat × Int)) (e : Ending) (w' : World) : Prop :=
  match R with
  | .inl (t, k) => ∃ sa sc, e = .returned (.agg #[.slice sa t.spans.length sc, .bool t.inv]) ∧ CpAt w' cb A S cs ats { K with i := k } ∧ RdP w' sa t.spans ∧ (∀ a, sa = some a → w.heap.size ≤ a.block ∧ a.block < w'.heap.size) ∧ Mut (· = cb) w w'
  | .inr (p, c) => ∃ q, ats.l[p]? = some q ∧ e = thrown q c ∧ Mut S w w'
/-- The spans that were read, ahead of those that follow. -/
def preS (L : List (Int × Int)) : SpR → SpR
  | .inl (l, k) => .inl (L ++ l, k)
  | .inr f => .inr f
theorem preS_consS (L : List (Int × Int)) (p : Int × Int) (r : SpR) : preS L (consS p r) = preS (L ++ [p]) r := by
  cases r with
  | inl x => obtain ⟨l, k⟩ := x; simp [preS, consS]
  | inr f => rfl
def toSet (inv : Bool) : SpR → (CSet × Nat) ⊕ (Nat × Int)
  | .inl (l, k) => .inl (⟨l, inv⟩, k)
  | .inr f => .inr f
theorem pSet2_eq (cs : List Int) (inv : Bool) (j : Nat) (h : cs[j]? ≠ some 93) : pSet2 cs inv j = toSet inv (preS [] (pSpn cs (cs.length + 1 - j) j)) := by
  unfold pSet2
  rw [if_neg h]
  cases pSpn cs (cs.length + 1 - j) j with
  | inl x => obtain ⟨l, k⟩ := x; rfl
  | inr f => rfl
/-- The end of a set. -/
theorem BrAt.finish (h : BrAt w0 w cb b0 b1 A S cs ats K j L inv sa sc) {W : World} (hm : Mut (· = b0) w W) {e : Ending} (he : e = .returned (.agg #[.slice sa L.length sc, .bool inv])) : BrPo w0 cb A S cs ats K (.inl (⟨L, inv⟩, j)) e W := by
  have hg : ∀ k, k = b0 → w0.heap.size ≤ k := fun k e => e ▸ h.l0.1
  have hsp : ∀ a, sa = some a → ∃ cur, w.heap[a.block]? = some (.cells cur 151 (0, 0)) := fun a ha => by
    rcases h.own.2 with ⟨h1, _⟩ | ⟨g, cap, cur, h1, _, h3, _⟩
    · injection h1 with h1; rw [ha] at h1; cases h1
    · injection h1 with h1; rw [ha] at h1; injection h1 with h1; subst h1; exact ⟨cur, h3⟩
  refine ⟨sa, sc, he, h.cp.mut hm (fun k _ h1 h2 => by have := h.c0.Slt k h2; have := hg k h1; omega) (fun a ha e => by have := (h.c0.nch a ha).1; have := hg _ e; omega) (fun a ha e => by have := (h.c0.nat a ha).1; have := hg _ e; omega) (fun x hx a ha e => by have := (h.c0.nsp x hx a ha).1; have := hg _ e; omega), (RdP.of_own h.own).mut hm fun a ha e => ?_, fun a ha => ⟨h.fresh a ha, ?_⟩, h.mm.trans hm fun k hk => .inr (hg k hk)⟩
  · obtain ⟨cur, hc⟩ := hsp a ha
    exact ne_ty hc h.h0 (by decide) e
  · obtain ⟨cur, hc⟩ := hsp a ha
    exact Nat.lt_of_lt_of_le (lt_of_heap hc) hm.size
/-- What a walk in the loop wants. -/
structure BrCells (w : World) (cb b0 b1 : Nat) (ats : AT) (n : Nat) (j : Nat) (L : List (Int × Int)) (inv : Bool) (sa : Option Addr) (sc : Nat) : Prop where
  c0 : w.cell? ⟨cb, 0, none⟩ = some (.slice ats.ch n ats.chC)
  c2 : w.cell? ⟨cb, 2, none⟩ = some (.int .i64 (j : Nat))
  cf : ∀ i, w.frozen? ⟨cb, i, none⟩ = false
  a0 : w.cell? ⟨b0, 0, none⟩ = some (.slice none 0 0)
  a1 : w.cell? ⟨b0, 1, none⟩ = some (.bool false)
  af : ∀ i, w.frozen? ⟨b0, i, none⟩ = false
  s0 : w.cell? ⟨b1, 0, none⟩ = some (.slice sa L.length sc)
  s1 : w.cell? ⟨b1, 1, none⟩ = some (.bool inv)
  sf : ∀ i, w.frozen? ⟨b1, i, none⟩ = false
theorem BrAt.cells (h : BrAt w0 w cb b0 b1 A S cs ats K j L inv sa sc) : BrCells w cb b0 b1 ats cs.length j L inv sa sc where
  c0 := cell_of_heap h.cp.blk rfl
  c2 := cell_of_heap h.cp.blk rfl
  cf := fun i => frozen_of_heap h.cp.blk i
  a0 := cell_of_heap h.h0 rfl
  a1 := cell_of_heap h.h0 rfl
  af := fun i => frozen_of_heap h.h0 i
  s0 := cell_of_heap h.h1 rfl
  s1 := cell_of_heap h.h1 rfl
  sf := fun i => frozen_of_heap h.h1 i
theorem BrAt.start (h : CpAt w cb A S cs ats K) : BrAt w ((w.alloc (.cells #[.slice none 0 0, .bool false] 97)).alloc (.cells #[.slice none 0 0, .bool false] 97)) cb w.heap.size (w.heap.size + 1) A S cs ats K K.i [] false none 0 where
  cp := h.below (((Below.refl _ w).alloc (Nat.le_refl _) _).alloc (by simp) _)
  h0 := (heap2 w _ _).1
  h1 := (heap2 w _ _).2
  own := World.ownsRow_nil _ _ _ _
  fresh := fun a ha => by cases ha
  mm := Mut.of_below (((Below.refl _ w).alloc (Nat.le_refl _) _).alloc (by simp) _)
  l0 := by omega
  c0 := h
/-- The set's mark is written. -/
theorem BrAt.mark (h : BrAt w0 w cb b0 b1 A S cs ats K j L inv sa sc) : BrAt w0 (w.setCell ⟨b1, 1, none⟩ (.bool true)) cb b0 b1 A S cs ats K j L true sa sc := by
  have hs : Mut (· = b1) w (w.setCell ⟨b1, 1, none⟩ (.bool true)) := Mut.setCell _ _ _ _ rfl
  have hg : ∀ k, k = b1 → w0.heap.size ≤ k := fun k e => e ▸ h.l0.2.1
  refine { cp := h.cp.mut hs (fun k _ h1 h2 => by have := h.c0.Slt k h2; have := hg k h1; omega) (fun a ha e => by have := (h.c0.nch a ha).1; have := hg _ e; omega) (fun a ha e => by have := (h.c0.nat a ha).1; have := hg _ e; omega) (fun x hx a ha e => by have := (h.c0.nsp x hx a ha).1; have := hg _ e; omega), h0 := (hs.block _ (lt_of_heap h.h0) h.l0.2.2).trans h.h0, h1 := ?_, own := ?_, fresh := h.fresh, mm := h.mm.trans hs fun k hk => .inr (hg k hk), l0 := h.l0, c0 := h.c0 }
  · rw [heap_setCell_same w b1 1 _ _ _ h.h1]; rfl
  · exact own_mut2 h.own hs fun a ha e => by
      rcases h.own.2 with ⟨h1, _⟩ | ⟨g, cap, cur, h1, _, h3, _⟩
      · injection h1 with h1; rw [ha] at h1; cases h1
      · injection h1 with h1; rw [ha] at h1; injection h1 with h1; subst h1; exact ne_ty h3 h.h1 (by decide) e
/-- The compiler's place is written. -/
theorem BrAt.place (h : BrAt w0 w cb b0 b1 A S cs ats K j L inv sa sc) (j' : Nat) : BrAt w0 (w.setCell ⟨cb, 2, none⟩ (.int .i64 (j' : Nat))) cb b0 b1 A S cs ats K j' L inv sa sc :=
  h.step (h.cp.set 2 _ { K with i := j' } rfl rfl) (Mut.setCell _ _ _ _ rfl)
theorem BrAt.place1 (h : BrAt w0 w cb b0 b1 A S cs ats K j L inv sa sc) : BrAt w0 (w.setCell ⟨cb, 2, none⟩ (.int .i64 ((j : Int) + 1))) cb b0 b1 A S cs ats K (j + 1) L inv sa sc := h.place (j + 1)
/-- A block of the call's own is written. -/
theorem BrAt.other (h : BrAt w0 w cb b0 b1 A S cs ats K j L inv sa sc) {bx : Nat} (hm : Mut (· = bx) w w1) (hx : w0.heap.size ≤ bx) (h0 : b0 ≠ bx) (h1 : b1 ≠ bx) (hs : ∀ a, sa = some a → a.block ≠ bx) : BrAt w0 w1 cb b0 b1 A S cs ats K j L inv sa sc where
  cp := h.cp.mut hm (fun k _ h1 h2 => by have := h.c0.Slt k h2; have h1 : k = bx := h1; omega) (fun a ha e => by have := (h.c0.nch a ha).1; have e : a.block = bx := e; omega) (fun a ha e => by have := (h.c0.nat a ha).1; have e : a.block = bx := e; omega) fun x hx' a ha e => by have := (h.c0.nsp x hx' a ha).1; have e : a.block = bx := e; omega
  h0 := (hm.block _ (lt_of_heap h.h0) h0).trans h.h0
  h1 := (hm.block _ (lt_of_heap h.h1) h1).trans h.h1
  own := own_mut2 h.own hm fun a ha e => hs a ha e
  fresh := h.fresh
  mm := h.mm.trans hm fun k hk => .inr (by have hk : k = bx := hk; omega)
  l0 := h.l0
  c0 := h.c0
theorem BrAt.salt (h : BrAt w0 w cb b0 b1 A S cs ats K j L inv sa sc) : ∀ a, sa = some a → a.block < w.heap.size := fun a ha => by
  rcases h.own.2 with ⟨h1, _⟩ | ⟨g, cap, cur, h1, _, h3, _⟩
  · injection h1 with h1; rw [ha] at h1; cases h1
  · injection h1 with h1; rw [ha] at h1; injection h1 with h1; subst h1; exact lt_of_heap h3
theorem BrAt.nb1 (h : BrAt w0 w cb b0 b1 A S cs ats K j L inv sa sc) : ¬ ∃ a, sa = some a ∧ a.block = b1 := fun ⟨a, ha, e⟩ => by
  rcases h.own.2 with ⟨h1, _⟩ | ⟨g, cap, cur, h1, _, h3, _⟩
  · injection h1 with h1; rw [ha] at h1; cases h1
  · injection h1 with h1; rw [ha] at h1; injection h1 with h1; subst h1; exact ne_ty h3 h.h1 (by decide) e
/-- What is still to be read, and what was. -/
def Todo (cs : List Int) (R : (CSet × Nat) ⊕ (Nat × Int)) (inv : Bool) (L : List (Int × Int)) (f j : Nat) : Prop := toSet inv (preS L (pSpn cs f j)) = R ∧ j ≤ cs.length ∧ cs.length + 1 ≤ f + j
variable {R : (CSet × Nat) ⊕ (Nat × Int)} {f : Nat}
theorem Todo.end_ (h : Todo cs R inv L f j) (hj : cs[j]? = none) : R = .inr (cs.length, 16) := by
  obtain ⟨h1, h2, h3⟩ := h
  obtain ⟨f', rfl⟩ : ∃ f', f = f' + 1 := ⟨f - 1, by omega⟩
  rw [pSpn, hj] at h1
  exact h1.symm
theorem Todo.close (h : Todo cs R inv L f j) (hj : cs[j]? = some 93) : R = .inl (⟨L, inv⟩, j + 1) := by
  obtain ⟨h1, h2, h3⟩ := h
  obtain ⟨f', rfl⟩ : ∃ f', f = f' + 1 := ⟨f - 1, by omega⟩
  rw [pSpn, hj] at h1
  simp only [if_pos, preS, toSet, List.append_nil] at h1
  exact h1.symm
theorem Todo.none (h : Todo cs R inv L f j) {c : Int} (hj : cs[j]? = some c) (hc : c ≠ 93) (hs : pSng cs j = Option.none) : R = .inr (cs.length, 16) := by
  obtain ⟨h1, h2, h3⟩ := h
  obtain ⟨f', rfl⟩ : ∃ f', f = f' + 1 := ⟨f - 1, by omega⟩
  rw [pSpn, hj] at h1
  simp only [if_neg hc, hs, preS, toSet] at h1
  exact h1.symm
theorem Todo.one (h : Todo cs R inv L f j) {c a : Int} {m : Nat} (hj : cs[j]? = some c) (hc : c ≠ 93) (hs : pSng cs j = some (a, m)) (hd : dash cs m = false) : ∃ f', Todo cs R inv (L ++ [(a, a)]) f' m ∧ j < m ∧ m ≤ cs.length := by
  obtain ⟨h1, h2, h3⟩ := h
  obtain ⟨f', rfl⟩ : ∃ f', f = f' + 1 := ⟨f - 1, by omega⟩
  have hm := pSng_le hs
  rw [pSpn, hj] at h1
  simp only [if_neg hc, hs, hd, Bool.false_eq_true, if_false, preS_consS] at h1
  exact ⟨f', ⟨h1, hm.2, by omega⟩, hm.1, hm.2⟩
theorem Todo.bad (h : Todo cs R inv L f j) {c a : Int} {m : Nat} (hj : cs[j]? = some c) (hc : c ≠ 93) (hs : pSng cs j = some (a, m)) (hd : dash cs m = true) (hs2 : pSng cs (m + 1) = Option.none) : R = .inr (cs.length, 16) := by
  obtain ⟨h1, h2, h3⟩ := h
  obtain ⟨f', rfl⟩ : ∃ f', f = f' + 1 := ⟨f - 1, by omega⟩
  rw [pSpn, hj] at h1
  simp only [if_neg hc, hs, hd, if_true, hs2, preS, toSet] at h1
  exact h1.symm
theorem Todo.order (h : Todo cs R inv L f j) {c a b : Int} {m q : Nat} (hj : cs[j]? = some c) (hc : c ≠ 93) (hs : pSng cs j = some (a, m)) (hd : dash cs m = true) (hs2 : pSng cs (m + 1) = some (b, q)) (hb : b < a) : R = .inr (m + 1, 11) := by
  obtain ⟨h1, h2, h3⟩ := h
  obtain ⟨f', rfl⟩ : ∃ f', f = f' + 1 := ⟨f - 1, by omega⟩
  rw [pSpn, hj] at h1
  simp only [if_neg hc, hs, hd, if_true, hs2, if_pos hb, preS, toSet] at h1
  exact h1.symm
theorem Todo.two (h : Todo cs R inv L f j) {c a b : Int} {m q : Nat} (hj : cs[j]? = some c) (hc : c ≠ 93) (hs : pSng cs j = some (a, m)) (hd : dash cs m = true) (hs2 : pSng cs (m + 1) = some (b, q)) (hb : ¬ b < a) : ∃ f', Todo cs R inv (L ++ [(a, b)]) f' q ∧ j < q ∧ q ≤ cs.length := by
  obtain ⟨h1, h2, h3⟩ := h
  obtain ⟨f', rfl⟩ : ∃ f', f = f' + 1 := ⟨f - 1, by omega⟩
  have hm := pSng_le hs
  have hq := pSng_le hs2
  rw [pSpn, hj] at h1
  simp only [if_neg hc, hs, hd, if_true, hs2, if_neg hb, preS_consS] at h1
  exact ⟨f', ⟨h1, hq.2, by omega⟩, by omega, hq.2⟩
theorem quiet_add {P : Program} {f : FuncId} {args : Array Value} {w : World} {a n : Nat} {v : Value}
    (h : Calls P f args (w.drewN (a + n)) fun e w' => e = .returned v ∧ ∃ m, w' = (w.drewN (a + n)).drewN m) : Calls P f args (w.drewN (a + n)) fun e w'' => e = .returned v ∧ ∃ m, w'' = w.drewN (a + m) :=
  h.mono fun _ _ ⟨he, m, hm⟩ => ⟨he, n + m, by rw [hm, World.drewN_drewN, Nat.add_assoc]⟩
theorem more_q (h : CpAt w cb A S cs ats K) {b : Bool} (hb : decide (K.i < cs.length) = b) (n : Nat) : Calls Try.prog 82 #[.pointer (some ⟨cb, 0, none⟩)] (w.drewN n) fun e w' => e = .returned (.bool b) ∧ ∃ m, w' = (w.drewN n).drewN m :=
  more_calls (h.below (below_dn (Below.refl _ _) n)) hb
end Go.Proofs.Ytcajnmhbkjngbaa

/- The compiler's brackets: the walk. -/
namespace Go.Proofs.Ytcajnmhbkjngbaa
open Go.RowKit Go.Shelf
variable {w w' : World} {cb : Nat} {A : CA} {S : Nat → Prop} {cs : List Int} {ats : AT} {K : CS}

set_option maxRecDepth 100000 in
set_option maxHeartbeats 2000000 in
theorem brackets_calls (h : CpAt w cb A S cs ats K) (hi : K.i ≤ cs.length) (hats : ats.l.length = cs.length + 1) (hl : cs.length ≤ 100000) :
    Calls Try.prog 115 #[.pointer (some ⟨cb, 0, none⟩)] w (BrPo w cb A S cs ats K (pSet cs K.i)) := by
  have HT := Lib.hid h
  have HB0 := Lib.hid (BrAt.start h)
  have HI := Lib.hid hi
  have HATS := Lib.hid hats
  have hcl := lt_of_heap h.blk
  clear h hi hats
  go_enter Try.func115, Try.ntmps115
  go_upto_region 2 with (fail)
  go_cut [21] from 7 to 21 (fun s21 wx => ∃ (b : Bool) (n : Nat), s21 = .bool b ∧ Hid (b = decide (cs[K.i]? = some 94)) ∧ wx = (((w.alloc (.cells #[.slice none 0 0, .bool false] 97)).alloc (.cells #[.slice none 0 0, .bool false] 97)).drewN n))
  case first =>
    obtain ⟨c0, c1, c2, c3, c4, c5, hf⟩ := HT.out.cells
    by_cases hlt : K.i < cs.length
    · obtain ⟨g, hA, hg, c6⟩ := HT.out.chs K.i hlt
      rw [hA] at c0
      have hne : g ≠ cb := fun e => (HT.out.nch _ hA).2 (e ▸ HT.out.Sb)
      have HM := Lib.hid (more_q HB0.out.cp (b := true) (decide_eq_true hlt))
      have HIG : Hid (cs[K.i]? = some cs[K.i]) := Lib.hid (List.getElem?_eq_getElem _)
      by_cases h94 : cs[K.i] = 94
      · have HPS : Hid (true = decide (cs[K.i]? = some 94)) := Lib.hid (by rw [HIG.out, h94]; rfl)
        rw [h94] at c6
        go_quiet ((go_at_call 82; exact Calls.quiet_of (HM.out _)))
        go_wp2_with (fail)
        go_meet
        case rel => exact ⟨true, nq, rfl, HPS, rfl⟩
      · have HPS : Hid (false = decide (cs[K.i]? = some 94)) := Lib.hid (by rw [HIG.out]; exact (decide_eq_false (fun e => h94 (by injection e))).symm)
        have hb94 : (cs[K.i] == 94) = false := by simpa using h94
        go_quiet ((go_at_call 82; exact Calls.quiet_of (HM.out _)))
        go_wp2_with (fail)
        go_meet
        case rel => exact ⟨false, nq, rfl, HPS, rfl⟩
    · have HM := Lib.hid (more_q HB0.out.cp (b := false) (decide_eq_false hlt))
      have HPS : Hid (false = decide (cs[K.i]? = some 94)) := Lib.hid (by rw [List.getElem?_eq_none (by omega)]; rfl)
      go_quiet ((go_at_call 82; exact Calls.quiet_of (HM.out _)))
      go_wp2_with (fail)
      go_meet
      case rel => exact ⟨false, nq, rfl, HPS, rfl⟩
  case rest =>
    obtain ⟨b, n, rfl, HPB, rfl⟩ := hcut
    go_upto_if 21 with (fail)
    go_cut [] from 22 to 29 (fun wx => ∃ (inv : Bool) (j : Nat), Hid (pSet cs K.i = pSet2 cs inv j ∧ j ≤ cs.length) ∧ Hid (BrAt w wx cb w.heap.size (w.heap.size + 1) A S cs ats K j [] inv none 0))
    case first =>
      obtain ⟨c0, c1, c2, c3, c4, c5, hf⟩ := HT.out.cells
      have q5 : K.i ≤ cs.length := HI.out
      cases b
      · have HPS : Hid (pSet cs K.i = pSet2 cs false K.i ∧ K.i ≤ cs.length) := Lib.hid ⟨by unfold pSet; rw [if_neg (of_decide_eq_false HPB.out.symm)], HI.out⟩
        go_wp2_with (fail)
        go_meet
        case rel => exact ⟨false, K.i, HPS, Lib.hid (HB0.out.below (below_dn (Below.refl _ _) n))⟩
      · have HPS : Hid (pSet cs K.i = pSet2 cs true (K.i + 1) ∧ K.i + 1 ≤ cs.length) := Lib.hid ⟨by unfold pSet; rw [if_pos (of_decide_eq_true HPB.out.symm)], (List.getElem?_eq_some_iff.1 (of_decide_eq_true HPB.out.symm)).1⟩
        go_wp2_with (fail)
        go_meet
        case rel => exact ⟨true, K.i + 1, HPS, Lib.hid ((HB0.out.below (below_dn (Below.refl _ _) n)).mark).place1⟩
    case rest =>
      obtain ⟨inv, j, HPS, HB⟩ := hcut
      have HJL : Hid (j ≤ cs.length) := Lib.hid HPS.out.2
      go_upto_region 5 with (fail)
      go_cut [44] from 30 to 44 (fun s44 wx => ∃ (b2 : Bool), s44 = .bool b2 ∧ Hid (b2 = decide (cs[j]? = some 93)) ∧ Hid (BrAt w wx cb w.heap.size (w.heap.size + 1) A S cs ats K j [] inv none 0))
      case first =>
        obtain ⟨c0, c2, cf, a0, a1, af, s0, s1, sf⟩ := HB.out.cells
        by_cases hlt : j < cs.length
        · obtain ⟨g, hA, hg, c6⟩ := HB.out.cp.chs j hlt
          rw [hA] at c0
          have HM := Lib.hid (more_q HB.out.cp (b := true) (decide_eq_true hlt))
          have HIG : Hid (cs[j]? = some cs[j]) := Lib.hid (List.getElem?_eq_getElem _)
          by_cases h93 : cs[j] = 93
          · have HPS : Hid (true = decide (cs[j]? = some 93)) := Lib.hid (by rw [HIG.out, h93]; rfl)
            rw [h93] at c6
            go_quiet ((go_at_call 82; exact Calls.quiet_of (HM.out _)))
            go_wp2_with (fail)
            go_meet
            case rel => exact ⟨true, rfl, HPS, Lib.hid (HB.out.below (below_dn (Below.refl _ _) nq))⟩
          · have HPS : Hid (false = decide (cs[j]? = some 93)) := Lib.hid (by rw [HIG.out]; exact (decide_eq_false (fun e => h93 (by injection e))).symm)
            have hb93 : (cs[j] == 93) = false := by simpa using h93
            go_quiet ((go_at_call 82; exact Calls.quiet_of (HM.out _)))
            go_wp2_with (fail)
            go_meet
            case rel => exact ⟨false, rfl, HPS, Lib.hid (HB.out.below (below_dn (Below.refl _ _) nq))⟩
        · have HM := Lib.hid (more_q HB.out.cp (b := false) (decide_eq_false hlt))
          have HPS : Hid (false = decide (cs[j]? = some 93)) := Lib.hid (by rw [List.getElem?_eq_none (by omega)]; rfl)
          go_quiet ((go_at_call 82; exact Calls.quiet_of (HM.out _)))
          go_wp2_with (fail)
          go_meet
          case rel => exact ⟨false, rfl, HPS, Lib.hid (HB.out.below (below_dn (Below.refl _ _) nq))⟩
      case rest =>
        obtain ⟨b2, rfl, HB2, HB⟩ := hcut
        obtain ⟨c0, c2, cf, a0, a1, af, s0, s1, sf⟩ := HB.out.cells
        cases b2
        · have HTD : Hid (Todo cs (pSet cs K.i) inv [] (cs.length + 1 - j) j) := Lib.hid ⟨by rw [HPS.out.1, pSet2_eq cs inv j (of_decide_eq_false HB2.out.symm)], HJL.out, by have := HJL.out; omega⟩
          go_wp2_with (fail)
          clear c0 c2 cf a0 a1 af s0 s1 sf HB2 HPB HB0 HT
          generalize pSet cs K.i = R at *
          go_loopg [] (cs.length + 1 - j) (fun k wr => ∃ (j' : Nat) (L : List (Int × Int)) (sa : Option Addr) (sc f : Nat), Hid (cs.length + 1 - j' = k) ∧ Hid (Todo cs R inv L f j' ∧ L.length ≤ j') ∧ Hid (BrAt w wr cb w.heap.size (w.heap.size + 1) A S cs ats K j' L inv sa sc))
          case atStart => exact ⟨j, [], none, 0, _, Lib.hid rfl, Lib.hid ⟨HTD.out, Nat.zero_le _⟩, HB⟩
          case round =>
            clear HTD HB HPS HJL
            obtain ⟨j', L, sa, sc, f, HK, HTD, HB⟩ := hrel
            obtain ⟨c0, c2, cf, a0, a1, af, s0, s1, sf⟩ := HB.out.cells
            have hjn : j' ≤ cs.length := HTD.out.1.2.1
            have HMU : Hid (Mut S w wr) := Lib.hid (HB.out.mm.mono fun k hk => .inl (hk ▸ HB.out.cp.Sb))
            by_cases hlt : j' < cs.length
            · obtain ⟨g, hA, hg, c6⟩ := HB.out.cp.chs j' hlt
              rw [hA] at c0
              have HCH := Lib.hid hA
              have HM := Lib.hid (more_calls HB.out.cp (b := true) (decide_eq_true hlt))
              have HIG : Hid (cs[j']? = some cs[j']) := Lib.hid (List.getElem?_eq_getElem _)
              have q0 : (j' : Int) < (cs.length : Int) := by omega
              have q1 : (cs.length : Int) ≤ 100000 := by omega
              generalize cs[j'] = c at *
              by_cases h93 : c = 93
              · subst h93
                have HPR := Lib.hid (HTD.out.1.close HIG.out)
                have HEN : Hid (∀ n, BrAt w ((wr.drewN n).setCell ⟨cb, 2, none⟩ (.int .i64 ((j' : Int) + 1))) cb w.heap.size (w.heap.size + 1) A S cs ats K (j' + 1) L inv sa sc) := Lib.hid fun n => (HB.out.below (below_dn (Below.refl _ _) n)).place1
                clear hA
                go_wp2_with (go_at_call 82; refine HM.out.mono ?_; rintro e w2 ⟨rfl, n, rfl⟩)
                go_quiet (fail)
                go_wp2_with (fail)
                rw [HPR.out]
                exact bodyPost_ret (v := .agg #[.slice sa L.length sc, .bool inv]) (by simp [results, Try.results115, go_sem, a0, a1]) rfl ((HEN.out (n + nq)).finish ((Mut.setCell (S := (· = w.heap.size)) _ _ _ _ rfl).then (Mut.setCell _ _ _ _ rfl)) rfl)
              · have hb93 : (c == 93) = false := by simpa using h93
                have hatl : cs.length < ats.l.length := by rw [HATS.out]; omega
                have HAT := Lib.hid (List.getElem?_eq_getElem hatl)
                generalize ats.l[cs.length] = qe at *
                clear hA hatl
                go_wp2_with (go_at_call 82; refine HM.out.mono ?_; rintro e w2 ⟨rfl, n, rfl⟩)
                go_quiet (fail)
                have HBN := Lib.hid ((HB.out.below (below_dn (Below.refl _ _) n)).below (below_dn (Below.refl _ _) nq))
                clear HB c0 c2 cf a0 a1 af s0 s1 sf HM HMU c6 hg
                generalize (wr.drewN n).drewN nq = wq at *
                clear wr
                obtain ⟨c0, c2, cf, a0, a1, af, s0, s1, sf⟩ := HBN.out.cells
                have HAL : Hid (Below wq.heap.size wq (wq.alloc (.cells #[.int .i32 0, .int .i32 0] 151))) := Lib.hid ((Below.refl _ _).alloc (Nat.le_refl _) _)
                have HX0 := Lib.hid (heap_alloc_new wq (.cells #[.int .i32 0, .int .i32 0] 151))
                have HMU : Hid (Mut S w wq) := Lib.hid (HBN.out.mm.mono fun k hk => .inl (hk ▸ HBN.out.cp.Sb))
                cases hs : pSng cs j' with
                | none =>
                  have HPR := Lib.hid (HTD.out.1.none HIG.out h93 hs)
                  have H1 := Lib.hid (single_bad (HBN.out.below HAL.out).cp hjn HAT.out hl hs)
                  clear hs
                  go_wp2_with (go_at_call 122; refine H1.out.mono ?_; rintro e w3 ⟨rfl, hm⟩; have HM3 := Lib.hid hm; clear hm)
                  rw [HPR.out]
                  exact ⟨rfl, _, HAT.out, rfl, (HMU.out.then (Mut.of_below HAL.out)).then HM3.out⟩
                | some am =>
                  obtain ⟨a, m⟩ := am
                  have H1 := Lib.hid (single_ok (HBN.out.below HAL.out).cp hl hs)
                  have HS := Lib.hid hs
                  have HML : Hid (m ≤ cs.length) := Lib.hid (pSng_le hs).2
                  clear hs
                  go_upto_region 15 with (go_at_call 122; refine H1.out.mono ?_; rintro e w3 ⟨rfl, hc3, hm3⟩
                                          have HB3 := Lib.hid ((HBN.out.below HAL.out).step hc3 hm3)
                                          have hk := (hm3.block wq.heap.size (by simp) (by have := lt_of_heap HBN.out.cp.blk; omega)).trans HX0.out
                                          have HX3 := Lib.hid hk
                                          have x0 := cell_of_heap (v := .int .i32 0) hk (j := 0) rfl
                                          have x1 := cell_of_heap (v := .int .i32 0) hk (j := 1) rfl
                                          have xf0 := frozen_of_heap hk 0
                                          have xf1 := frozen_of_heap hk 1
                                          clear hk hc3 hm3)
                  have hm3 : Mut (· = wq.heap.size) w3 ((w3.setCell ⟨wq.heap.size, 0, none⟩ (.int .i32 a)).setCell ⟨wq.heap.size, 1, none⟩ (.int .i32 a)) := (Mut.setCell (S := (· = wq.heap.size)) _ _ _ _ rfl).then (Mut.setCell _ _ _ _ rfl)
                  have HBZ := Lib.hid (HB3.out.other hm3 HBN.out.mm.size (by have := lt_of_heap HBN.out.h0; omega) (by have := lt_of_heap HBN.out.h1; omega) fun e he => by have := HBN.out.salt e he; omega)
                  have hz : ((w3.setCell ⟨wq.heap.size, 0, none⟩ (.int .i32 a)).setCell ⟨wq.heap.size, 1, none⟩ (.int .i32 a)).heap[wq.heap.size]? = some (.cells #[.int .i32 a, .int .i32 a] 151 (0, 0)) := by
                    rw [heap_setCell_same _ wq.heap.size 1 _ _ _ (heap_setCell_same _ wq.heap.size 0 _ _ _ HX3.out)]; rfl
                  have HXZ := Lib.hid hz
                  have HBX : Hid (w.heap.size ≤ wq.heap.size ∧ w.heap.size + 1 < wq.heap.size) := Lib.hid ⟨HBN.out.mm.size, lt_of_heap HBN.out.h1⟩
                  have HSB : Hid (∀ e, sa = some e → e.block < wq.heap.size) := Lib.hid HBN.out.salt
                  clear hm3 hz x0 x1 xf0 xf1 HX3 HB3 H1 HX0 HAL HMU HBN c0 c2 cf a0 a1 af s0 s1 sf
                  generalize (w3.setCell ⟨wq.heap.size, 0, none⟩ (.int .i32 a)).setCell ⟨wq.heap.size, 1, none⟩ (.int .i32 a) = wz at *
                  generalize wq.heap.size = bx at *
                  clear w3
                  go_cut [123] from 86 to 123 (fun s123 wx => ∃ (bd : Bool) (n : Nat), s123 = .bool bd ∧ Hid (bd = dash cs m) ∧ wx = wz.drewN n)
                  case first =>
                    obtain ⟨c0, c2, cf, a0, a1, af, s0, s1, sf⟩ := HBZ.out.cells
                    rw [HCH.out] at c0
                    have q2 : m ≤ cs.length := HML.out
                    have q3 : (m : Int) ≤ (cs.length : Int) := by omega
                    by_cases h1 : m + 1 < cs.length
                    · obtain ⟨g1, hA1, _, c6⟩ := HBZ.out.cp.chs m (by omega)
                      obtain ⟨g2, hA2, _, c7⟩ := HBZ.out.cp.chs (m + 1) h1
                      have e1 : g1 = g := by have := HCH.out.symm.trans hA1; simpa using this.symm
                      have e2 : g2 = g := by have := HCH.out.symm.trans hA2; simpa using this.symm
                      subst e1
                      subst e2
                      have HG1 : Hid (cs[m]? = some cs[m]) := Lib.hid (List.getElem?_eq_getElem _)
                      have HG2 : Hid (cs[m + 1]? = some cs[m + 1]) := Lib.hid (List.getElem?_eq_getElem _)
                      have HL1 : Hid (m + 1 < cs.length) := Lib.hid h1
                      have d1 : decide ((m : Int) + 1 < (cs.length : Int)) = true := decide_eq_true (by omega)
                      have d2 : decide (m + 1 < cs.length) = true := decide_eq_true (by omega)
                      have q4 : (m : Int) + 1 < (cs.length : Int) := by omega
                      have q5 : (0 : Int) ≤ (m : Int) + 1 := by omega
                      have q6 : ((m : Int) + 1).toNat = m + 1 := by omega
                      have q7 : IntKind.i64.wrap ((m : Int) + 1) = (m : Int) + 1 := by rw [IntKind.wrap_i64]; omega
                      generalize cs[m] = y1 at *
                      generalize cs[m + 1] = y2 at *
                      clear hA1 hA2
                      by_cases h2 : y1 = 45
                      · by_cases h3 : y2 = 93
                        · subst h2 h3
                          have HD : Hid (false = dash cs m) := Lib.hid (by unfold dash; rw [HG2.out]; simp)
                          go_quiet (fail)
                          go_wp2_with (fail)
                          go_meet
                          case rel => exact ⟨false, _, rfl, HD, rfl⟩
                        · subst h2
                          have d3 : (y2 != 93) = true := by simpa using h3
                          have d4 : (y2 == 93) = false := by simpa using h3
                          have HD : Hid (true = dash cs m) := Lib.hid (by unfold dash; rw [HG1.out, HG2.out]; simp [HL1.out, h3])
                          go_quiet (fail)
                          go_wp2_with (fail)
                          go_meet
                          case rel => exact ⟨true, _, rfl, HD, rfl⟩
                      · have d3 : (y1 == 45) = false := by simpa using h2
                        have HD : Hid (false = dash cs m) := Lib.hid (by unfold dash; rw [HG1.out]; simp [h2])
                        go_quiet (fail)
                        go_wp2_with (fail)
                        go_meet
                        case rel => exact ⟨false, _, rfl, HD, rfl⟩
                    · have HD : Hid (false = dash cs m) := Lib.hid (by unfold dash; simp [h1])
                      have d1 : decide ((m : Int) + 1 < (cs.length : Int)) = false := decide_eq_false (by omega)
                      have d2 : decide (m + 1 < cs.length) = false := decide_eq_false (by omega)
                      go_quiet (fail)
                      go_wp2_with (fail)
                      go_meet
                      case rel => exact ⟨false, _, rfl, HD, rfl⟩
                  case rest =>
                    obtain ⟨bd, n2, rfl, HD, rfl⟩ := hcut
                    have HBY := Lib.hid (HBZ.out.below (below_dn (Below.refl _ _) n2))
                    have HXY : Hid ((wz.drewN n2).heap[bx]? = some (.cells #[.int .i32 a, .int .i32 a] 151 (0, 0))) := Lib.hid HXZ.out
                    clear HBZ HXZ
                    generalize wz.drewN n2 = wy at *
                    clear wz
                    have HMU : Hid (Mut S w wy) := Lib.hid (HBY.out.mm.mono fun k hk => .inl (hk ▸ HBY.out.cp.Sb))
                    go_upto_if 123 with (fail)
                    go_cut [5] from 124 to 145 (fun s5 wx => ∃ (b' : Int) (q f' : Nat), Hid (Todo cs R inv (L ++ [(a, b')]) f' q ∧ j' < q ∧ q ≤ cs.length) ∧ Hid (BrAt w wx cb w.heap.size (w.heap.size + 1) A S cs ats K q L inv sa sc) ∧ Hid (wx.heap[bx]? = some (.cells #[.int .i32 a, .int .i32 b'] 151 (0, 0))))
                    case first =>
                      cases bd
                      · have HT1 : Hid (∃ f', Todo cs R inv (L ++ [(a, a)]) f' m ∧ j' < m ∧ m ≤ cs.length) := Lib.hid (HTD.out.1.one HIG.out h93 HS.out HD.out.symm)
                        go_wp2_with (fail)
                        go_meet
                        case rel =>
                          obtain ⟨f', h1, h2, h3⟩ := HT1.out
                          exact ⟨a, m, f', Lib.hid ⟨h1, h2, h3⟩, HBY, HXY⟩
                      · obtain ⟨c0, c2, cf, a0, a1, af, s0, s1, sf⟩ := HBY.out.cells
                        have q2 : m ≤ cs.length := HML.out
                        have hx := HXY.out
                        have x0 := cell_of_heap (v := .int .i32 a) hx (j := 0) rfl
                        have x1 := cell_of_heap (v := .int .i32 a) hx (j := 1) rfl
                        have xf0 := frozen_of_heap hx 0
                        have xf1 := frozen_of_heap hx 1
                        have HP := Lib.hid (HBY.out.place1)
                        have hne2 : bx ≠ cb := by have := HBX.out; omega
                        have hxp : (wy.setCell ⟨cb, 2, none⟩ (.int .i64 ((m : Int) + 1))).heap[bx]? = some (.cells #[.int .i32 a, .int .i32 a] 151 (0, 0)) := ((Mut.setCell (S := (· = cb)) wy cb 2 _ rfl).block bx (lt_of_heap hx) hne2).trans hx
                        have HXP := Lib.hid hxp
                        have HMP : Hid (Mut S w (wy.setCell ⟨cb, 2, none⟩ (.int .i64 ((m : Int) + 1)))) := Lib.hid (HMU.out.then (Mut.setCell _ _ _ _ HBY.out.cp.Sb))
                        have HM1 : Hid (m + 1 ≤ cs.length) := Lib.hid (by
                          have h1 := HD.out.symm
                          unfold dash at h1
                          simp only [Bool.and_eq_true, decide_eq_true_eq] at h1
                          omega)
                        have q4 : (m : Int) ≤ (cs.length : Int) := by omega
                        clear hx hxp
                        cases hs : pSng cs (m + 1) with
                        | none =>
                          have HPR := Lib.hid (HTD.out.1.bad HIG.out h93 HS.out HD.out.symm hs)
                          have H1 := Lib.hid (single_bad HP.out.cp HM1.out HAT.out hl hs)
                          clear hs
                          go_wp2_with (go_at_call 122; refine H1.out.mono ?_; rintro e w4 ⟨rfl, hm⟩; have HM4 := Lib.hid hm; clear hm)
                          rw [HPR.out]
                          exact ⟨rfl, _, HAT.out, rfl, HMP.out.then HM4.out⟩
                        | some bq =>
                          obtain ⟨b', q⟩ := bq
                          have H1 := Lib.hid (single_ok HP.out.cp hl hs)
                          have HS2 := Lib.hid hs
                          clear hs
                          by_cases hlt2 : b' < a
                          · have HPR := Lib.hid (HTD.out.1.order HIG.out h93 HS.out HD.out.symm HS2.out hlt2)
                            have hat1 : m + 1 < ats.l.length := by rw [HATS.out]; have := HM1.out; omega
                            have HAT1 := Lib.hid (List.getElem?_eq_getElem hat1)
                            generalize ats.l[m + 1] = qr at *
                            have HF : Hid (∀ W, CpAt W cb A S cs ats { K with i := q } → Calls Try.prog 97 #[.pointer (some ⟨cb, 0, none⟩), .int .i64 11, .int .i64 ((m : Int) + 1)] W fun e w' => e = thrown qr 11 ∧ W = w') := Lib.hid fun W hW => fail_calls hW 11 HAT1.out
                            clear hat1
                            go_wp2_with (first
                              | (go_at_call 122; refine H1.out.mono ?_; rintro e w4 ⟨rfl, hc4, hm4⟩
                                 have HB4 := Lib.hid (HP.out.step hc4 hm4)
                                 have hk := (hm4.block bx (lt_of_heap HXP.out) hne2).trans HXP.out
                                 have x0 := cell_of_heap (v := .int .i32 a) hk (j := 0) rfl
                                 have x1 := cell_of_heap (v := .int .i32 a) hk (j := 1) rfl
                                 have xf0 := frozen_of_heap hk 0
                                 have xf1 := frozen_of_heap hk 1
                                 have hb5 := HB4.out.other (Mut.setCell (S := (· = bx)) w4 bx 1 (.int .i32 b') rfl) HBX.out.1 (by have := HBX.out; omega) (by have := HBX.out; omega) (fun e he => by have := HSB.out e he; omega)
                                 have HF5 := Lib.hid (HF.out _ hb5.cp)
                                 have HM5 : Hid (Mut S w (w4.setCell ⟨bx, 1, none⟩ (.int .i32 b'))) := Lib.hid (hb5.mm.mono fun k hk => .inl (hk ▸ hb5.cp.Sb))
                                 clear hk hc4 hm4 hb5)
                              | (go_at_call 97; refine HF5.out.mono ?_; rintro e w5 ⟨rfl, rfl⟩))
                            rw [HPR.out]
                            exact ⟨rfl, _, HAT1.out, rfl, HM5.out⟩
                          · have HT2 : Hid (∃ f', Todo cs R inv (L ++ [(a, b')]) f' q ∧ j' < q ∧ q ≤ cs.length) := Lib.hid (HTD.out.1.two HIG.out h93 HS.out HD.out.symm HS2.out hlt2)
                            go_wp2_with (first
                              | (go_at_call 122; refine H1.out.mono ?_; rintro e w4 ⟨rfl, hc4, hm4⟩
                                 have HB4 := Lib.hid (HP.out.step hc4 hm4)
                                 have hk := (hm4.block bx (lt_of_heap HXP.out) hne2).trans HXP.out
                                 have x0 := cell_of_heap (v := .int .i32 a) hk (j := 0) rfl
                                 have x1 := cell_of_heap (v := .int .i32 a) hk (j := 1) rfl
                                 have xf0 := frozen_of_heap hk 0
                                 have xf1 := frozen_of_heap hk 1
                                 have HB5 := Lib.hid (HB4.out.other (Mut.setCell (S := (· = bx)) w4 bx 1 (.int .i32 b') rfl) HBX.out.1 (by have := HBX.out; omega) (by have := HBX.out; omega) (fun e he => by have := HSB.out e he; omega))
                                 have HX5 : Hid ((w4.setCell ⟨bx, 1, none⟩ (.int .i32 b')).heap[bx]? = some (.cells #[.int .i32 a, .int .i32 b'] 151 (0, 0))) := Lib.hid (by rw [heap_setCell_same w4 bx 1 _ _ _ hk]; rfl)
                                 clear hk hc4 hm4))
                            go_meet
                            case rel =>
                              obtain ⟨f', h1, h2, h3⟩ := HT2.out
                              exact ⟨b', q, f', Lib.hid ⟨h1, h2, h3⟩, HB5, HX5⟩
                    case rest =>
                      obtain ⟨b', q, f', HT, HB, HX⟩ := hcut
                      obtain ⟨c0, c2, cf, a0, a1, af, s0, s1, sf⟩ := HB.out.cells
                      have hx := HX.out
                      have x0 := cell_of_heap (v := .int .i32 a) hx (j := 0) rfl
                      have x1 := cell_of_heap (v := .int .i32 b') hx (j := 1) rfl
                      have xf0 := frozen_of_heap hx 0
                      have xf1 := frozen_of_heap hx 1
                      have hbl := lt_of_heap hx
                      have hb1 := lt_of_heap HB.out.h1
                      have HLL : Hid (L.length ≤ 100000) := Lib.hid (by have := HTD.out.2; omega)
                      clear hx
                      go_wp2_with (at_builtin
                                   refine app_gen Try.underlying95 info_span rfl (by decide) (by decide) rfl _ _ rfl 0 sa sc L.length (spC L) #[.int .i32 a, .int .i32 b'] rfl HB.out.own rfl rfl rfl ?k1 (by have := HLL.out; omega) (Nat.zero_le _) ?_
                                   case k1 => intro u hu; simp only [List.mem_cons, List.not_mem_nil, or_false] at hu; rcases hu with rfl | rfl <;> rfl
                                   intro A1 C1 w6 ho hm hl
                                   have HB6 := Lib.hid (HB.out.push (p := (a, b')) hm (by rw [spC_append]; exact ho) hl)
                                   have hk1 := (hm.block (w.heap.size + 1) hb1 HB.out.nb1).trans HB.out.h1
                                   have y0 := cell_of_heap (v := .slice sa L.length sc) hk1 (j := 0) rfl
                                   have yf0 := frozen_of_heap hk1 0
                                   clear ho hm hl hk1)
                      go_roundg (cs.length + 1 - q)
                      case measure => have h1 := HT.out; have h2 := HK.out; omega
                      case rel => exact ⟨q, L ++ [(a, b')], A1, C1, f', Lib.hid rfl, Lib.hid ⟨HT.out.1, by have h1 := HT.out; have h2 := HTD.out.2; rw [List.length_append, List.length_singleton]; omega⟩, HB6⟩
            · have hjl : j' < ats.l.length := by rw [HATS.out]; omega
              have hjE : j' = cs.length := by omega
              have HPR : Hid (R = .inr (j', 16)) := Lib.hid (by rw [hjE]; exact HTD.out.1.end_ (List.getElem?_eq_none (by omega)))
              have HM := Lib.hid (more_calls HB.out.cp (b := false) (decide_eq_false hlt))
              have HF : Hid (∀ n, Calls Try.prog 97 #[.pointer (some ⟨cb, 0, none⟩), .int .i64 16, .int .i64 (j' : Nat)] (wr.drewN n) fun e w' => e = thrown (ats.l[j']'hjl) 16 ∧ wr.drewN n = w') := Lib.hid fun n => fail_calls (HB.out.cp.below (below_dn (Below.refl _ _) n)) 16 (List.getElem?_eq_getElem hjl)
              have HAT := Lib.hid (List.getElem?_eq_getElem hjl)
              generalize ats.l[j'] = qe at *
              clear hjE hjl hlt hjn
              go_wp2_with (first
                | (go_at_call 82; refine HM.out.mono ?_; rintro e w2 ⟨rfl, n, rfl⟩)
                | (go_at_call 97; refine (HF.out n).mono ?_; rintro e w2 ⟨rfl, rfl⟩))
              rw [HPR.out]
              exact ⟨rfl, _, HAT.out, rfl, HMU.out.drewN n⟩
        · have HPR : Hid (pSet cs K.i = .inr (j, 9)) := Lib.hid (by rw [HPS.out.1]; unfold pSet2; rw [if_pos (of_decide_eq_true HB2.out.symm)])
          have hjl : j < ats.l.length := by rw [HATS.out]; have := HJL.out; omega
          have HF := Lib.hid (fail_calls HB.out.cp 9 (List.getElem?_eq_getElem hjl))
          go_wp2_with (go_at_call 97; refine HF.out.mono ?_; rintro e w2 ⟨rfl, rfl⟩)
          rw [HPR.out]
          exact ⟨rfl, _, List.getElem?_eq_getElem hjl, rfl, HB.out.mm.mono fun k hk => .inl (hk ▸ HB.out.cp.Sb)⟩
end Go.Proofs.Ytcajnmhbkjngbaa

