/- The table and the reference side by side. -/
import Derived.Test.YtnbjknjnpfmklaaP37
namespace Go.Proofs.Ytnbjknjnpfmklaa
open Go.RowKit

/-- H: blocks that neither owns, and what they hold. -/
structure BothAt (w wk : World) (tb m : Nat) (H : Nat → Obj → Prop) (p : TA) (rp : RA) (c : Int) (Ta Tr : Tb) : Prop where
  tab : TabAt wk tb p Ta
  ref : RefAt wk m rp c Tr
  cnt : Cnt c Tr
  out : Below w.heap.size w wk
  fp : ∀ k, p.fp tb k → w.heap.size ≤ k
  rfp : ∀ k, rp.fp m k → w.heap.size ≤ k
  d : ∀ k, p.fp tb k → ¬ rp.fp m k
  sA : ∀ a, p.sA = some a → ¬ rp.fp m a.block
  rsA : ∀ a, rp.sA = some a → a.block < w.heap.size
  held : ∀ k o, H k o → wk.heap[k]? = some o ∧ ¬ p.fp tb k ∧ ¬ rp.fp m k
theorem BothAt.below {w wk w' : World} {tb m : Nat} {H : Nat → Obj → Prop} {p : TA} {rp : RA} {c : Int} {Ta Tr : Tb} (B : BothAt w wk tb m H p rp c Ta Tr) (h : Below wk.heap.size wk w') : BothAt w w' tb m H p rp c Ta Tr :=
  ⟨B.tab.below h, B.ref.below h, B.cnt, B.out.step2 h, B.fp, B.rfp, B.d, B.sA, B.rsA, fun k o hk => by
    obtain ⟨h1, h2, h3⟩ := B.held k o hk
    exact ⟨(h.block k (Array.getElem?_eq_some_iff.1 h1).1).trans h1, h2, h3⟩⟩
theorem BothAt.nx {w wk w' : World} {tb m : Nat} {H : Nat → Obj → Prop} {p : TA} {rp : RA} {c : Int} {Ta Tr T' : Tb} (B : BothAt w wk tb m H p rp c Ta Tr) (h : Nx wk tb p T' w') : ∃ p', BothAt w w' tb m H p' rp c T' Tr := by
  obtain ⟨p', h1, h2, h3, h4⟩ := h
  refine ⟨p', h1, B.ref.mut h2 (fun k hk hp => B.d k hp hk) (fun a ha hp => ?_), B.cnt, B.out.trans (h2.to_below B.out.size B.fp), fun k hk => ?_, B.rfp, fun k hk hr => ?_, ?_, B.rsA, fun k o hk => ?_⟩
  · have := B.fp _ hp; have := B.rsA a ha; omega
  · rcases h3 k hk with h | h
    · exact B.fp k h
    · exact Nat.le_trans B.out.size h
  · rcases h3 k hk with h | h
    · exact B.d k h hr
    · have := B.ref.fp_lt k hr; omega
  · rw [h4]; exact B.sA
  · obtain ⟨k1, k2, k3⟩ := B.held k o hk
    have hlt := (Array.getElem?_eq_some_iff.1 k1).1
    exact ⟨(h2.block k hlt k2).trans k1, fun hp => (h3 k hp).elim k2 (fun h => by omega), k3⟩
theorem BothAt.rx {w wk w' : World} {tb m : Nat} {H : Nat → Obj → Prop} {p : TA} {rp : RA} {c : Int} {Ta Tr T' : Tb} (B : BothAt w wk tb m H p rp c Ta Tr) (h : Rx wk m rp T' w') : ∃ rp' c', BothAt w w' tb m H p rp' c' Ta T' := by
  obtain ⟨rp', c', h1, hc, h2, h3, h4⟩ := h
  refine ⟨rp', c', B.tab.mut h2 B.d B.sA, h1, hc, B.out.trans (h2.to_below B.out.size B.rfp), B.fp, fun k hk => ?_, fun k hk hr => ?_, fun a ha hr => ?_, ?_, fun k o hk => ?_⟩
  · rcases h3 k hk with h | h
    · exact B.rfp k h
    · exact Nat.le_trans B.out.size h
  · rcases h3 k hr with h | h
    · exact B.d k hk h
    · have := B.tab.fp_lt k hk; omega
  · rcases h3 _ hr with h | h
    · exact B.sA a ha h
    · have := B.tab.sl a ha; omega
  · rw [h4]; exact B.rsA
  · obtain ⟨k1, k2, k3⟩ := B.held k o hk
    have hlt := (Array.getElem?_eq_some_iff.1 k1).1
    exact ⟨(h2.block k hlt k3).trans k1, k2, fun hp => (h3 k hp).elim k3 (fun h => by omega)⟩
def Both (w wk : World) (tb m : Nat) (H : Nat → Obj → Prop) (Ta Tr : Tb) : Prop := ∃ p rp c, BothAt w wk tb m H p rp c Ta Tr
theorem Both.below {w wk w' : World} {tb m : Nat} {H : Nat → Obj → Prop} {Ta Tr : Tb} (B : Both w wk tb m H Ta Tr) (h : Below wk.heap.size wk w') : Both w w' tb m H Ta Tr := by
  obtain ⟨p, rp, c, B⟩ := B
  exact ⟨p, rp, c, B.below h⟩
theorem Both.out {w wk : World} {tb m : Nat} {H : Nat → Obj → Prop} {Ta Tr : Tb} (B : Both w wk tb m H Ta Tr) : Below w.heap.size w wk := by
  obtain ⟨p, rp, c, B⟩ := B
  exact B.out
theorem Both.cz {w wk : World} {tb m : Nat} {H : Nat → Obj → Prop} {Ta Tr : Tb} (B : Both w wk tb m H Ta Tr) : Cz w wk tb Ta := by
  obtain ⟨p, rp, c, B⟩ := B
  exact ⟨p, B.tab, B.out, B.fp⟩
theorem Both.held {w wk : World} {tb m : Nat} {H : Nat → Obj → Prop} {Ta Tr : Tb} (B : Both w wk tb m H Ta Tr) (k : Nat) (o : Obj) (h : H k o) : wk.heap[k]? = some o := by
  obtain ⟨p, rp, c, B⟩ := B
  exact (B.held k o h).1
theorem Both.less {w wk : World} {tb m : Nat} {H H' : Nat → Obj → Prop} {Ta Tr : Tb} (B : Both w wk tb m H Ta Tr) (h : ∀ k o, H' k o → H k o) : Both w wk tb m H' Ta Tr := by
  obtain ⟨p, rp, c, B⟩ := B
  exact ⟨p, rp, c, B.tab, B.ref, B.cnt, B.out, B.fp, B.rfp, B.d, B.sA, B.rsA, fun k o hk => B.held k o (h k o hk)⟩
/-- A block of the call's own is held. -/
theorem Both.hold {w wk : World} {tb m : Nat} {Ta Tr : Tb} (B : Both w wk tb m (fun _ _ => False) Ta Tr) (cs : Array Value) (t : TypeId) : Both w (wk.alloc (.cells cs t)) tb m (fun k o => k = wk.heap.size ∧ o = .cells cs t (0, 0)) Ta Tr := by
  obtain ⟨p, rp, c, B⟩ := B
  have B1 := B.below ((Below.refl _ wk).alloc (Nat.le_refl _) (.cells cs t))
  refine ⟨p, rp, c, B1.tab, B1.ref, B1.cnt, B1.out, B1.fp, B1.rfp, B1.d, B1.sA, B1.rsA, ?_⟩
  rintro k o ⟨rfl, rfl⟩
  exact ⟨heap_alloc_new wk _, fun h => by have := B.tab.fp_lt _ h; omega, fun h => by have := B.ref.fp_lt _ h; omega⟩
theorem box3 {w : World} {b : Nat} {v0 v1 v2 : Value} {t : TypeId} (h : w.heap[b]? = some (.cells #[v0, v1, v2] t (0, 0))) : w.cell? ⟨b, 0, none⟩ = some v0 ∧ w.cell? ⟨b, 1, none⟩ = some v1 ∧ w.cell? ⟨b, 2, none⟩ = some v2 :=
  ⟨cell_of_heap h rfl, cell_of_heap h rfl, cell_of_heap h rfl⟩
/-- A call of the table. -/
theorem Both.call {w wk : World} {tb m : Nat} {H : Nat → Obj → Prop} {Ta Tr T' : Tb} {f : Nat} {args : Array Value} {v : Value} (B : Both w wk tb m H Ta Tr) (h : ∀ p, TabAt wk tb p Ta → Calls Try.prog f args wk fun e w' => e = .returned v ∧ Nx wk tb p T' w') :
    Calls Try.prog f args wk fun e w' => e = .returned v ∧ Both w w' tb m H T' Tr := by
  obtain ⟨p, rp, c, B⟩ := B
  refine (h p B.tab).mono fun e w' ⟨h1, h2⟩ => ⟨h1, ?_⟩
  obtain ⟨p', B'⟩ := B.nx h2
  exact ⟨p', rp, c, B'⟩
/-- A call of the reference. -/
theorem Both.rcall {w wk : World} {tb m : Nat} {H : Nat → Obj → Prop} {Ta Tr T' : Tb} {f : Nat} {args : Array Value} {v : Value} (B : Both w wk tb m H Ta Tr) (h : ∀ rp c, RefAt wk m rp c Tr → Cnt c Tr → Calls Try.prog f args wk fun e w' => e = .returned v ∧ Rx wk m rp T' w') :
    Calls Try.prog f args wk fun e w' => e = .returned v ∧ Both w w' tb m H Ta T' := by
  obtain ⟨p, rp, c, B⟩ := B
  refine (h rp c B.ref B.cnt).mono fun e w' ⟨h1, h2⟩ => ⟨h1, ?_⟩
  obtain ⟨rp', c', B'⟩ := B.rx h2
  exact ⟨p, rp', c', B'⟩
/-- A call that leaves all as it is. -/
theorem Both.see {w wk : World} {tb m : Nat} {H : Nat → Obj → Prop} {Ta Tr : Tb} {f : Nat} {args : Array Value} {v : Value} (B : Both w wk tb m H Ta Tr) (h : ∀ p rp c, TabAt wk tb p Ta → RefAt wk m rp c Tr → Cnt c Tr → Calls Try.prog f args wk fun e w' => e = .returned v ∧ Below wk.heap.size wk w') :
    Calls Try.prog f args wk fun e w' => e = .returned v ∧ Both w w' tb m H Ta Tr := by
  obtain ⟨p, rp, c, B⟩ := B
  exact (h p rp c B.tab B.ref B.cnt).mono fun e w' ⟨h1, h2⟩ => ⟨h1, p, rp, c, B.below h2⟩

/-- What a call of the law leaves. -/
def actT (T : Tb) (k n : Int) (t : ByteArray) : Tb :=
  if k = 0 then makeT T n else if k = 1 then turnT T else if k = 2 then tickT T else if k = 3 then waitT T n else if k = 4 then wakeT T n else if k = 5 then turnedT T 0 4 else if k = 6 then turnedT T 4 0
  else if k = 7 then endsT T 6 ⟨#[]⟩ else if k = 8 then endsT T 5 t else if k = 11 then chooseT T n else killT T n (k == 10)
theorem Fit.act {N : Nat} {q : Int} {s : List Int} {T : Tb} (f : Fit N q s T) (k n : Int) (t : ByteArray) : Fit (N + 1) q s (actT T k n t) := by
  unfold actT
  repeat' split
  · exact f.make n
  · exact f.turn.more (by omega)
  · exact f.tick
  · exact (f.wait n).more (by omega)
  · exact f.wake n
  · exact (f.turned 0 4 (.inr rfl)).more (by omega)
  · exact (f.turned 4 0 (.inl rfl)).more (by omega)
  · exact (f.ends 6 ⟨#[]⟩ (by omega) (by omega) (fun _ => rfl)).more (by omega)
  · exact (f.ends 5 t (by omega) (by omega) (fun h => absurd rfl h)).more (by omega)
  · exact (f.choose n).more (by omega)
  · exact (f.kill n _).more (by omega)
end Go.Proofs.Ytnbjknjnpfmklaa
