/- The reference's table in memory. -/
import Derived.Test.YtnbjknjnpfmklaaP27
namespace Go.Proofs.Ytnbjknjnpfmklaa
open Go.RowKit

/-- Where a reference table's parts lie. -/
structure RA where
  sA : Option Addr
  sC : Nat
  lA : Option Addr
  lC : Nat
  pA : Option Addr
  pC : Nat
def refC (p : RA) (c : Int) (T : Tb) : Array Value := #[.int .i64 T.q, .int .i64 T.cur, .int .i64 c, .int .i64 T.ticks, .int .i64 (T.used : Int), .slice p.sA T.s.length p.sC, .slice p.lA T.ready.length p.lC, .slice p.pA T.P.length p.pC]
def RA.fp (m : Nat) (p : RA) (k : Nat) : Prop := k = m ∨ (∃ a, p.lA = some a ∧ a.block = k) ∨ ∃ a, p.pA = some a ∧ a.block = k
structure RefAt (w : World) (m : Nat) (p : RA) (c : Int) (T : Tb) : Prop where
  blk : w.heap[m]? = some (.cells (refC p c T) 49 (0, 0))
  scr : RowI w p.sA T.s
  lst : w.ownsRow 0 3 1 (.slice p.lA T.ready.length p.lC) T.ready.length (ints T.ready)
  prs : w.ownsRow 0 45 5 (.slice p.pA T.P.length p.pC) T.P.length (flat T.P)
  nl : ∀ a, p.lA = some a → a.block ≠ m
  np : ∀ a, p.pA = some a → a.block ≠ m
  lp : ∀ a b, p.lA = some a → p.pA = some b → a.block ≠ b.block
  ns : ∀ a, p.sA = some a → ¬ p.fp m a.block
  sl : ∀ a, p.sA = some a → a.block < w.heap.size
theorem own_blk {w : World} {base n C size : Nat} {e : TypeId} {A : Option Addr} {xs : List Value} (h : w.ownsRow base e size (.slice A n C) n xs) (a : Addr) (ha : A = some a) : base ≤ a.block ∧ a.block < w.heap.size := h.lt a.block (by rw [ha]; rfl)
theorem RefAt.lt {w : World} {m : Nat} {p : RA} {c : Int} {T : Tb} (h : RefAt w m p c T) : m < w.heap.size := (Array.getElem?_eq_some_iff.1 h.blk).1
theorem RefAt.fp_lt {w : World} {m : Nat} {p : RA} {c : Int} {T : Tb} (h : RefAt w m p c T) (k : Nat) (hk : p.fp m k) : k < w.heap.size := by
  rcases hk with rfl | ⟨a, ha, rfl⟩ | ⟨a, ha, rfl⟩
  · exact h.lt
  · exact (own_blk h.lst a ha).2
  · exact (own_blk h.prs a ha).2
theorem own_mut2 {S : Nat → Prop} {w w' : World} {base n C size : Nat} {e : TypeId} {A : Option Addr} {xs : List Value} (h : w.ownsRow base e size (.slice A n C) n xs) (hm : Mut S w w') (hn : ∀ a, A = some a → ¬ S a.block) : w'.ownsRow base e size (.slice A n C) n xs :=
  own_mut h hm fun k hk => by
    obtain ⟨a, ha, rfl⟩ := ownB hk
    exact hn a ha
theorem RefAt.mut {S : Nat → Prop} {w w' : World} {m : Nat} {p : RA} {c : Int} {T : Tb} (h : RefAt w m p c T) (hm : Mut S w w') (h1 : ∀ k, p.fp m k → ¬ S k) (h2 : ∀ a, p.sA = some a → ¬ S a.block) : RefAt w' m p c T where
  blk := (hm.block m h.lt (h1 _ (.inl rfl))).trans h.blk
  scr := h.scr.mut hm h2
  lst := own_mut2 h.lst hm fun a ha => h1 _ (.inr (.inl ⟨a, ha, rfl⟩))
  prs := own_mut2 h.prs hm fun a ha => h1 _ (.inr (.inr ⟨a, ha, rfl⟩))
  nl := h.nl
  np := h.np
  lp := h.lp
  ns := h.ns
  sl := fun a ha => Nat.lt_of_lt_of_le (h.sl a ha) hm.size
theorem RefAt.below {w w' : World} {m : Nat} {p : RA} {c : Int} {T : Tb} (h : RefAt w m p c T) (hb : Below w.heap.size w w') : RefAt w' m p c T :=
  h.mut (S := fun _ => False) (Mut.of_below hb) (fun _ _ h => h) (fun _ _ h => h)
/-- Another value may stand for the table, if it reads alike. -/
theorem RefAt.as {w : World} {m : Nat} {p : RA} {c : Int} {T T' : Tb} (h : RefAt w m p c T) (h1 : T'.q = T.q) (h2 : T'.s = T.s) (h3 : T'.used = T.used) (h4 : T'.ticks = T.ticks) (h5 : T'.P = T.P) (h6 : T'.ready = T.ready) (h7 : T'.cur = T.cur) : RefAt w m p c T' where
  blk := by unfold refC; rw [h1, h2, h3, h4, h5, h6, h7]; exact h.blk
  scr := by rw [h2]; exact h.scr
  lst := by rw [h6]; exact h.lst
  prs := by rw [h5]; exact h.prs
  nl := h.nl
  np := h.np
  lp := h.lp
  ns := h.ns
  sl := h.sl
/-- A cell of the struct is written, none of the lists. -/
theorem RefAt.upd {w : World} {m : Nat} {p : RA} {c : Int} {T : Tb} (h : RefAt w m p c T) (i : Nat) (v : Value) (c' : Int) (T' : Tb) (hc : (refC p c T).setIfInBounds i v = refC p c' T') (hP : T'.P = T.P) (hs : T'.s = T.s) (hr : T'.ready = T.ready) : RefAt (w.setCell ⟨m, i, none⟩ v) m p c' T' := by
  have hmut : Mut (· = m) w (w.setCell ⟨m, i, none⟩ v) := Mut.setCell w m i v rfl
  refine ⟨?_, ?_, ?_, ?_, h.nl, h.np, h.lp, h.ns, ?_⟩
  · rw [heap_setCell_same w m i _ _ v h.blk, hc]
  · rw [hs]; exact h.scr.mut hmut fun a ha e => h.ns a ha (.inl e)
  · rw [hr]; exact own_mut2 h.lst hmut h.nl
  · rw [hP]; exact own_mut2 h.prs hmut h.np
  · exact fun a ha => Nat.lt_of_lt_of_le (h.sl a ha) hmut.size
/-- The list is another one, of the call's own or grown in place. -/
theorem RefAt.list {w w1 : World} {m : Nat} {p : RA} {c : Int} {T : Tb} (h : RefAt w m p c T) (A1 : Option Addr) (C1 : Nat) (ys : List Int) (hr : w1.ownsRow 0 3 1 (.slice A1 ys.length C1) ys.length (ints ys))
    (hg : Mut (fun k => ∃ a, p.lA = some a ∧ a.block = k) w w1) (hl : ∀ a, A1 = some a → p.lA.map (·.block) = some a.block ∨ w.heap.size ≤ a.block) :
    RefAt (w1.setCell ⟨m, 6, none⟩ (.slice A1 ys.length C1)) m { p with lA := A1, lC := C1 } c { T with ready := ys } := by
  have hm : Mut (fun k => k = m ∨ ∃ a, p.lA = some a ∧ a.block = k) w w1 := hg.mono fun k hk => .inl (.inr hk)
  have hm2 : Mut (fun k => k = m ∨ ∃ a, p.lA = some a ∧ a.block = k) w (w1.setCell ⟨m, 6, none⟩ (.slice A1 ys.length C1)) := hm.then (Mut.setCell w1 m 6 _ (.inl rfl))
  have hb : w1.heap[m]? = some (.cells (refC p c T) 49 (0, 0)) := (hg.block m h.lt (fun ⟨a, ha, e⟩ => h.nl a ha e)).trans h.blk
  have hold : ∀ a, A1 = some a → (∃ b, p.lA = some b ∧ b.block = a.block) ∨ w.heap.size ≤ a.block := fun a ha => by
    rcases hl a ha with h1 | h1
    · cases hL : p.lA with
      | none => rw [hL] at h1; cases h1
      | some b => rw [hL] at h1; exact .inl ⟨b, rfl, by simpa using h1⟩
    · exact .inr h1
  have hnl : ∀ a, A1 = some a → a.block ≠ m := fun a ha e => by
    rcases hold a ha with ⟨b, hb, h2⟩ | h1
    · exact h.nl b hb (h2.trans e)
    · have := h.lt; omega
  refine ⟨?_, ?_, ?_, ?_, hnl, h.np, ?_, ?_, ?_⟩
  · rw [heap_setCell_same w1 m 6 _ _ _ hb]; rfl
  · exact h.scr.mut hm2 fun a ha => by
      rintro (e | ⟨b, hb, e⟩)
      · exact h.ns a ha (.inl e)
      · exact h.ns a ha (.inr (.inl ⟨b, hb, e⟩))
  · exact own_mut2 hr (S := (· = m)) (Mut.setCell w1 m 6 _ rfl) hnl
  · exact own_mut2 h.prs hm2 fun a ha => by
      rintro (e | ⟨b, hb, e⟩)
      · exact h.np a ha e
      · exact h.lp b a hb ha e
  · intro a b ha hb e
    rcases hold a ha with ⟨d, hd, h2⟩ | h1
    · exact h.lp d b hd hb (h2.trans e)
    · have := (own_blk h.prs b hb).2; omega
  · intro a ha hk
    have h0 := h.sl a ha
    rcases hk with e | ⟨b, hb, e⟩ | hb
    · exact h.ns a ha (.inl e)
    · rcases hold b hb with ⟨d, hd, h2⟩ | h1
      · exact h.ns a ha (.inr (.inl ⟨d, hd, h2.trans e⟩))
      · omega
    · exact h.ns a ha (.inr (.inr hb))
  · exact fun a ha => Nat.lt_of_lt_of_le (h.sl a ha) hm2.size
/-- The list of processes is another one, of the call's own or grown in place. -/
theorem RefAt.procs {w w1 : World} {m : Nat} {p : RA} {c : Int} {T : Tb} (h : RefAt w m p c T) (A1 : Option Addr) (C1 : Nat) (Q : List Pr) (hr : w1.ownsRow 0 45 5 (.slice A1 Q.length C1) Q.length (flat Q))
    (hg : Mut (fun k => ∃ a, p.pA = some a ∧ a.block = k) w w1) (hl : ∀ a, A1 = some a → p.pA.map (·.block) = some a.block ∨ w.heap.size ≤ a.block) :
    RefAt (w1.setCell ⟨m, 7, none⟩ (.slice A1 Q.length C1)) m { p with pA := A1, pC := C1 } c { T with P := Q } := by
  have hm : Mut (fun k => k = m ∨ ∃ a, p.pA = some a ∧ a.block = k) w w1 := hg.mono fun k hk => .inl (.inr hk)
  have hm2 : Mut (fun k => k = m ∨ ∃ a, p.pA = some a ∧ a.block = k) w (w1.setCell ⟨m, 7, none⟩ (.slice A1 Q.length C1)) := hm.then (Mut.setCell w1 m 7 _ (.inl rfl))
  have hb : w1.heap[m]? = some (.cells (refC p c T) 49 (0, 0)) := (hg.block m h.lt (fun ⟨a, ha, e⟩ => h.np a ha e)).trans h.blk
  have hold : ∀ a, A1 = some a → (∃ b, p.pA = some b ∧ b.block = a.block) ∨ w.heap.size ≤ a.block := fun a ha => by
    rcases hl a ha with h1 | h1
    · cases hL : p.pA with
      | none => rw [hL] at h1; cases h1
      | some b => rw [hL] at h1; exact .inl ⟨b, rfl, by simpa using h1⟩
    · exact .inr h1
  have hnp : ∀ a, A1 = some a → a.block ≠ m := fun a ha e => by
    rcases hold a ha with ⟨b, hb, h2⟩ | h1
    · exact h.np b hb (h2.trans e)
    · have := h.lt; omega
  refine ⟨?_, ?_, ?_, ?_, h.nl, hnp, ?_, ?_, ?_⟩
  · rw [heap_setCell_same w1 m 7 _ _ _ hb]; rfl
  · exact h.scr.mut hm2 fun a ha => by
      rintro (e | ⟨b, hb, e⟩)
      · exact h.ns a ha (.inl e)
      · exact h.ns a ha (.inr (.inr ⟨b, hb, e⟩))
  · exact own_mut2 h.lst hm2 fun a ha => by
      rintro (e | ⟨b, hb, e⟩)
      · exact h.nl a ha e
      · exact h.lp a b ha hb e.symm
  · exact own_mut2 hr (S := (· = m)) (Mut.setCell w1 m 7 _ rfl) hnp
  · intro a b ha hb e
    rcases hold b hb with ⟨d, hd, h2⟩ | h1
    · exact h.lp a d ha hd (e.trans h2.symm)
    · have := (own_blk h.lst a ha).2; omega
  · intro a ha hk
    have h0 := h.sl a ha
    rcases hk with e | hb | ⟨b, hb, e⟩
    · exact h.ns a ha (.inl e)
    · exact h.ns a ha (.inr (.inl hb))
    · rcases hold b hb with ⟨d, hd, h2⟩ | h1
      · exact h.ns a ha (.inr (.inr ⟨d, hd, h2.trans e⟩))
      · omega
  · exact fun a ha => Nat.lt_of_lt_of_le (h.sl a ha) hm2.size
/-- One cell of a row of the call's own is written. -/
theorem own_put {w : World} {base n C size g i : Nat} {e : TypeId} {xs : List Value} (h : w.ownsRow base e size (.slice (some ⟨g, 0, none⟩) n C) n xs) (hi : i < n * size) (v : Value) : (w.setCell ⟨g, i, none⟩ v).ownsRow base e size (.slice (some ⟨g, 0, none⟩) n C) n (xs.set i v) := by
  refine ⟨by rw [List.length_set]; exact h.1, ?_⟩
  rcases h.2 with ⟨h1, h2⟩ | ⟨g', cap, cur, h1, h2, h3, h4, h5, h6, h7⟩
  · subst h2; omega
  · injection h1 with e1 e2 e3
    injection e1 with e1
    injection e1 with e1
    subst e1 e3
    exact .inr ⟨g, C, cur.setIfInBounds i v, rfl, h2, heap_setCell_same w g i _ _ v h3, h4, h5, by simpa using h6, by rw [Array.toList_setIfInBounds, List.take_set, h7]⟩
theorem flat_set (P : List Pr) (j c : Nat) (v : Value) (f : Pr → Pr) (hj : j < P.length) (hc : c < 5) (h : (prC P[j]).set c v = prC (f P[j])) : (flat P).set (j * 5 + c) v = flat (P.modify j f) := by
  induction P generalizing j with
  | nil => exact absurd hj (Nat.not_lt_zero _)
  | cons p l ih =>
    cases j with
    | zero =>
      show (prC p ++ flat l).set (0 * 5 + c) v = prC (f p) ++ flat l
      rw [Nat.zero_mul, Nat.zero_add, List.set_append_left _ _ (by simp [prC]; omega)]
      exact congrArg (· ++ flat l) h
    | succ j =>
      show (prC p ++ flat l).set ((j + 1) * 5 + c) v = prC p ++ flat (l.modify j f)
      rw [List.set_append_right _ _ (by simp [prC]; omega), show (j + 1) * 5 + c - (prC p).length = j * 5 + c by simp [prC]; omega]
      rw [ih j (by simpa using hj) (by simpa using h)]
theorem flat_get (P : List Pr) (j c : Nat) (hj : j < P.length) (hc : c < 5) : (flat P)[j * 5 + c]? = (prC P[j])[c]? := by
  induction P generalizing j with
  | nil => exact absurd hj (Nat.not_lt_zero _)
  | cons p l ih =>
    cases j with
    | zero =>
      show (prC p ++ flat l)[0 * 5 + c]? = _
      rw [Nat.zero_mul, Nat.zero_add, List.getElem?_append_left (by simp [prC]; omega)]
      rfl
    | succ j =>
      show (prC p ++ flat l)[(j + 1) * 5 + c]? = _
      rw [List.getElem?_append_right (by simp [prC]; omega), show (j + 1) * 5 + c - (prC p).length = j * 5 + c by simp [prC]; omega]
      rw [ih j (by simpa using hj)]
      rfl
/-- A cell of a process is written. -/
theorem RefAt.put {w : World} {m : Nat} {p : RA} {c : Int} {T : Tb} (h : RefAt w m p c T) (g j k : Nat) (hA : p.pA = some ⟨g, 0, none⟩) (hj : j < T.P.length) (hk : k < 5) (v : Value) (f : Pr → Pr) (hf : (prC T.P[j]).set k v = prC (f T.P[j])) :
    RefAt (w.setCell ⟨g, j * 5 + k, none⟩ v) m p c { T with P := setP T.P ((j : Int) + 1) f } := by
  have hmut : Mut (fun k => ∃ a, p.pA = some a ∧ a.block = k) w (w.setCell ⟨g, j * 5 + k, none⟩ v) := Mut.setCell w g _ v ⟨_, hA, rfl⟩
  have hP : setP T.P ((j : Int) + 1) f = T.P.modify j f := by unfold setP; rw [show ((j : Int) + 1 - 1).toNat = j by omega]
  have hL : (setP T.P ((j : Int) + 1) f).length = T.P.length := len_setP _ _ _
  refine ⟨?_, ?_, ?_, ?_, h.nl, h.np, h.lp, h.ns, ?_⟩
  · rw [hmut.block m h.lt (fun ⟨a, ha, e⟩ => h.np a ha e), h.blk]
    unfold refC
    rw [hL]
  · exact h.scr.mut hmut fun a ha hb => h.ns a ha (.inr (.inr hb))
  · exact own_mut2 h.lst hmut fun a ha ⟨b, hb, e⟩ => h.lp a b ha hb e.symm
  · show World.ownsRow _ 0 45 5 (.slice p.pA (setP T.P ((j : Int) + 1) f).length p.pC) (setP T.P ((j : Int) + 1) f).length (flat (setP T.P ((j : Int) + 1) f))
    rw [hL, hP, ← flat_set T.P j k v f hj hk hf, hA]
    have h1 := h.prs
    rw [hA] at h1
    exact own_put h1 (by omega) v
  · exact fun a ha => Nat.lt_of_lt_of_le (h.sl a ha) hmut.size
/-- The cells of a process, for a walk. -/
theorem RefAt.pcells {w : World} {m : Nat} {p : RA} {c : Int} {T : Tb} (h : RefAt w m p c T) (j : Nat) (hj : j < T.P.length) : ∃ g, p.pA = some ⟨g, 0, none⟩ ∧ g < w.heap.size ∧ g ≠ m ∧ T.P.length ≤ p.pC ∧ (∀ i, w.frozen? ⟨g, i, none⟩ = false) ∧
    w.cell? ⟨g, j * 5, none⟩ = some (.int .i64 (T.P[j]).pid) ∧ w.cell? ⟨g, j * 5 + 1, none⟩ = some (.int .i64 (T.P[j]).group) ∧ w.cell? ⟨g, j * 5 + 2, none⟩ = some (.int .i64 (T.P[j]).state) ∧ w.cell? ⟨g, j * 5 + 3, none⟩ = some (.string (T.P[j]).why) ∧ w.cell? ⟨g, j * 5 + 4, none⟩ = some (.int .i64 (T.P[j]).ticks) := by
  rcases h.prs.2 with ⟨h1, h2⟩ | ⟨g, cap, cur, h1, h2, h3, h4, h5, h6, h7⟩
  · omega
  · injection h1 with e1 e2 e3
    have key : ∀ k, k < 5 → w.cell? ⟨g, j * 5 + k, none⟩ = (prC T.P[j])[k]? := fun k hk => by
      rw [← flat_get T.P j k hj hk, ← h7, List.getElem?_take_of_lt (by omega)]
      unfold World.cell?
      rw [h3]
      simp
    exact ⟨g, e1, (Array.getElem?_eq_some_iff.1 h3).1, h.np _ e1, e3 ▸ h4, fun i => by simp [World.frozen?, h3], key 0 (by omega), key 1 (by omega), key 2 (by omega), key 3 (by omega), key 4 (by omega)⟩
/-- The count of the reference is what the table has used of its turn. -/
def Cnt (c : Int) (T : Tb) : Prop := T.cur ≠ 0 → c = T.q - T.left
/-- What a call of the reference leaves. -/
def Rx (w : World) (m : Nat) (p : RA) (T' : Tb) (w' : World) : Prop := ∃ p' c', RefAt w' m p' c' T' ∧ Cnt c' T' ∧ Mut (p.fp m) w w' ∧ (∀ k, p'.fp m k → p.fp m k ∨ w.heap.size ≤ k) ∧ p'.sA = p.sA
theorem Rx.same {w w' : World} {m : Nat} {p : RA} {c : Int} {T' : Tb} (h : RefAt w' m p c T') (hc : Cnt c T') (hm : Mut (p.fp m) w w') : Rx w m p T' w' := ⟨p, c, h, hc, hm, fun _ => .inl, rfl⟩
theorem Rx.refl {w : World} {m : Nat} {p : RA} {c : Int} {T : Tb} (h : RefAt w m p c T) (hc : Cnt c T) : Rx w m p T w := Rx.same h hc (Mut.refl _ _)
theorem Rx.trans {w w1 w2 : World} {m : Nat} {p p1 : RA} {T2 : Tb} (hm : Mut (p.fp m) w w1) (hf : ∀ k, p1.fp m k → p.fp m k ∨ w.heap.size ≤ k) (hs : p1.sA = p.sA) (h2 : Rx w1 m p1 T2 w2) : Rx w m p T2 w2 := by
  obtain ⟨p2, c2, ht2, hc2, hm2, hf2, hs2⟩ := h2
  refine ⟨p2, c2, ht2, hc2, hm.trans hm2 hf, fun k hk => ?_, hs2.trans hs⟩
  rcases hf2 k hk with h | h
  · exact hf k h
  · exact .inr (Nat.le_trans hm.size h)
/-- The struct's cells, for a walk. -/
def RCells (w : World) (m : Nat) (p : RA) (c : Int) (T : Tb) : Prop := w.cell? ⟨m, 0, none⟩ = some (.int .i64 T.q) ∧ w.cell? ⟨m, 1, none⟩ = some (.int .i64 T.cur) ∧ w.cell? ⟨m, 2, none⟩ = some (.int .i64 c) ∧ w.cell? ⟨m, 3, none⟩ = some (.int .i64 T.ticks) ∧ w.cell? ⟨m, 4, none⟩ = some (.int .i64 (T.used : Int)) ∧ w.cell? ⟨m, 5, none⟩ = some (.slice p.sA T.s.length p.sC) ∧ w.cell? ⟨m, 6, none⟩ = some (.slice p.lA T.ready.length p.lC) ∧ w.cell? ⟨m, 7, none⟩ = some (.slice p.pA T.P.length p.pC) ∧ ∀ i, w.frozen? ⟨m, i, none⟩ = false
theorem RefAt.cells {w : World} {m : Nat} {p : RA} {c : Int} {T : Tb} (h : RefAt w m p c T) : RCells w m p c T :=
  ⟨cell_of_heap h.blk rfl, cell_of_heap h.blk rfl, cell_of_heap h.blk rfl, cell_of_heap h.blk rfl, cell_of_heap h.blk rfl, cell_of_heap h.blk rfl, cell_of_heap h.blk rfl, cell_of_heap h.blk rfl, fun i => by simp [World.frozen?, h.blk]⟩
end Go.Proofs.Ytnbjknjnpfmklaa
