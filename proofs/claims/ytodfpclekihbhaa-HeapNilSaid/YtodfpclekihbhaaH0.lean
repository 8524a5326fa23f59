/- Worlds that differ in named blocks alone. -/
import Derived.Test.YtodfpclekihbhaaMp
import Derived.Below
import Derived.WalkKit
import Derived.BigQuiet
import Derived.Laws.AppendOwn
import Derived.Maps.AppendAt
namespace Go.Proofs.Ytodfpclekihbhaa
open Go.RowKit

/-- Of the blocks that lay in w only those of S may have turned. -/
structure Mut (S : Nat → Prop) (w w' : World) : Prop where
  os : w'.os = w.os
  tape : w'.tape = w.tape
  output : w'.output = w.output
  size : w.heap.size ≤ w'.heap.size
  block : ∀ k, k < w.heap.size → ¬ S k → w'.heap[k]? = w.heap[k]?
theorem Mut.refl (S : Nat → Prop) (w : World) : Mut S w w := ⟨rfl, rfl, rfl, Nat.le_refl _, fun _ _ _ => rfl⟩
theorem Mut.trans {S S' : Nat → Prop} {a b c : World} (h : Mut S a b) (k : Mut S' b c) (hs : ∀ i, S' i → S i ∨ a.heap.size ≤ i) : Mut S a c :=
  ⟨k.os.trans h.os, k.tape.trans h.tape, k.output.trans h.output, Nat.le_trans h.size k.size, fun i hi hn =>
    (k.block i (Nat.lt_of_lt_of_le hi h.size) (fun h2 => (hs i h2).elim hn (fun h3 => absurd hi (Nat.not_lt.2 h3)))).trans (h.block i hi hn)⟩
theorem Mut.then {S : Nat → Prop} {a b c : World} (h : Mut S a b) (k : Mut S b c) : Mut S a c := h.trans k fun _ => .inl
theorem Mut.mono {S S' : Nat → Prop} {a b : World} (h : Mut S a b) (hs : ∀ i, S i → S' i ∨ a.heap.size ≤ i) : Mut S' a b :=
  (Mut.refl S' a).trans h hs
theorem Mut.of_below {S : Nat → Prop} {w w' : World} (h : Below w.heap.size w w') : Mut S w w' := ⟨h.os, h.tape, h.output, h.size, fun k hk _ => h.block k hk⟩
theorem Mut.to_below {S : Nat → Prop} {B : Nat} {w w' : World} (h : Mut S w w') (hB : B ≤ w.heap.size) (hs : ∀ k, S k → B ≤ k) : Below B w w' :=
  ⟨h.os, h.tape, h.output, h.size, fun k hk => h.block k (Nat.lt_of_lt_of_le hk hB) (fun h2 => absurd hk (Nat.not_lt.2 (hs k h2)))⟩
theorem Mut.of_grown {S : Nat → Prop} {w w' : World} {r : Option Nat} (h : w.grownBy w' r) (hr : ∀ k, r = some k → S k ∨ w.heap.size ≤ k) : Mut S w w' :=
  ⟨h.os, h.tape, h.output, h.size, fun k hk hn => h.block k hk (fun e => (hr k e.symm).elim hn (fun h3 => absurd hk (Nat.not_lt.2 h3)))⟩
theorem Mut.setCell {S : Nat → Prop} (w : World) (b i : Nat) (v : Value) (hb : S b) : Mut S w (w.setCell ⟨b, i, none⟩ v) :=
  ⟨by simp [World.setCell], by simp [World.setCell], by simp [World.setCell], by simp, fun k _ hn => heap_setCell_other w ⟨b, i, none⟩ k v (fun e => hn (e ▸ hb))⟩
theorem Mut.setB {S : Nat → Prop} (w : World) (b : Nat) (o : Obj) (hb : S b) : Mut S w (Mp.setB w b o) :=
  ⟨rfl, rfl, rfl, by rw [Mp.size_setB]; exact Nat.le_refl _, fun k _ hn => Mp.heap_setB_ne w b o k (fun e => hn (e ▸ hb))⟩
theorem Mut.drewN {S : Nat → Prop} {w w' : World} (h : Mut S w w') (n : Nat) : Mut S w (w'.drewN n) := h.then ⟨rfl, rfl, rfl, Nat.le_refl _, fun _ _ _ => rfl⟩
theorem Mut.alloc {S : Nat → Prop} {w w' : World} (h : Mut S w w') (o : Obj) : Mut S w (w'.alloc o) := h.then (.of_below ((Below.refl _ _).alloc (Nat.le_refl _) o))
theorem Mut.cell {S : Nat → Prop} {w w' : World} (h : Mut S w w') {b i : Nat} (hb : b < w.heap.size) (hn : ¬ S b) : w'.cell? ⟨b, i, none⟩ = w.cell? ⟨b, i, none⟩ := World.cell?_of_block (h.block b hb hn)
theorem own_mut {S : Nat → Prop} {w w' : World} {base n size : Nat} {e : TypeId} {v : Value} {xs : List Value} (h : w.ownsRow base e size v n xs) (hm : Mut S w w') (hn : ∀ k, v.ownBlock = some k → ¬ S k) : w'.ownsRow base e size v n xs := by
  refine ⟨h.1, ?_⟩
  rcases h.2 with h1 | ⟨g, cap, cur, h1, h2, h3, h4⟩
  · exact .inl h1
  · exact .inr ⟨g, cap, cur, h1, h2, (hm.block g (Array.getElem?_eq_some_iff.1 h3).1 (hn g (by rw [h1]; rfl))).trans h3, h4⟩
end Go.Proofs.Ytodfpclekihbhaa
