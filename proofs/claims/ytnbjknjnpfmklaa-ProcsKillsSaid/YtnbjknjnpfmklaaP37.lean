/- Contract of the reference: Make. -/
import Derived.Test.YtnbjknjnpfmklaaP36G
namespace Go.Proofs.Ytnbjknjnpfmklaa
open Go.RowKit

set_option linter.unusedSimpArgs false
theorem heap_al (w : World) (o : Obj) : (w.alloc o).heap = w.heap.push o := rfl
theorem heap_dr (w : World) : w.drew.heap = w.heap := rfl
theorem mutP {w w1 : World} {p : RA} {n : Nat} (hg : w.grownBy w1 (Value.slice p.pA n p.pC).ownBlock) : Mut (fun k => ∃ a, p.pA = some a ∧ a.block = k) w w1 := Mut.of_grown hg fun _ hk => .inl (ownB hk)
theorem RefAt.grownP {w w' : World} {m : Nat} {p : RA} {c : Int} {T : Tb} (h : RefAt w m p c T) (hg : w.grownBy w' (Value.slice p.pA T.P.length p.pC).ownBlock) : RCells w' m p c T := by
  have hb : w'.heap[m]? = some (.cells (refC p c T) 49 (0, 0)) := ((mutP hg).block m h.lt (fun ⟨a, ha, e⟩ => h.np a ha e)).trans h.blk
  exact ⟨cell_of_heap hb rfl, cell_of_heap hb rfl, cell_of_heap hb rfl, cell_of_heap hb rfl, cell_of_heap hb rfl, cell_of_heap hb rfl, cell_of_heap hb rfl, cell_of_heap hb rfl, fun i => by simp [World.frozen?, hb]⟩
theorem own_ne {w : World} {b1 b2 n1 n2 c1 c2 : Nat} {a b : Addr} {xs ys : List Value} (h1 : w.ownsRow b1 3 1 (.slice (some a) n1 c1) n1 xs) (h2 : w.ownsRow b2 45 5 (.slice (some b) n2 c2) n2 ys) : a.block ≠ b.block := fun e => by
  rcases h1.2 with ⟨k1, _⟩ | ⟨g, cap, cur, k1, _, k3, _⟩
  · cases k1
  · rcases h2.2 with ⟨k2, _⟩ | ⟨g2, cap2, cur2, k2, _, k4, _⟩
    · cases k2
    · injection k1 with k1
      injection k1 with k1
      injection k2 with k2
      injection k2 with k2
      subst k1 k2
      simp only at e
      subst e
      rw [k3] at k4
      cases k4
/-- Both lists have grown; both are written back. -/
theorem RefAt.two {w w3 : World} {m : Nat} {p : RA} {c : Int} {T : Tb} (h : RefAt w m p c T) (a1 a2 : Addr) (C1 C2 : Nat) (ys : List Int) (Q : List Pr) (hr : w3.ownsRow 0 3 1 (.slice (some a1) ys.length C1) ys.length (ints ys)) (hq : w3.ownsRow 0 45 5 (.slice (some a2) Q.length C2) Q.length (flat Q))
    (hg : Mut (fun k => (∃ a, p.lA = some a ∧ a.block = k) ∨ ∃ a, p.pA = some a ∧ a.block = k) w w3) (hl : (∃ b, p.lA = some b ∧ b.block = a1.block) ∨ w.heap.size ≤ a1.block) (hp : (∃ b, p.pA = some b ∧ b.block = a2.block) ∨ w.heap.size ≤ a2.block) :
    RefAt ((w3.setCell ⟨m, 7, none⟩ (.slice (some a2) Q.length C2)).setCell ⟨m, 6, none⟩ (.slice (some a1) ys.length C1)) m { p with lA := some a1, lC := C1, pA := some a2, pC := C2 } c { T with P := Q, ready := ys } := by
  have hb : w3.heap[m]? = some (.cells (refC p c T) 49 (0, 0)) := (hg.block m h.lt (fun h2 => by rcases h2 with ⟨a, ha, e⟩ | ⟨a, ha, e⟩; exact h.nl a ha e; exact h.np a ha e)).trans h.blk
  have n1 : a1.block ≠ m := fun e => by
    rcases hl with ⟨b, hb, h2⟩ | h1
    · exact h.nl b hb (h2.trans e)
    · have := h.lt; omega
  have n2 : a2.block ≠ m := fun e => by
    rcases hp with ⟨b, hb, h2⟩ | h1
    · exact h.np b hb (h2.trans e)
    · have := h.lt; omega
  have hmm : Mut (· = m) w3 ((w3.setCell ⟨m, 7, none⟩ (.slice (some a2) Q.length C2)).setCell ⟨m, 6, none⟩ (.slice (some a1) ys.length C1)) := (Mut.setCell (S := (· = m)) _ _ _ _ rfl).then (Mut.setCell (S := (· = m)) _ _ _ _ rfl)
  refine ⟨?_, ?_, own_mut2 hr hmm (fun a ha => by injection ha with ha; subst ha; exact n1), own_mut2 hq hmm (fun a ha => by injection ha with ha; subst ha; exact n2), (fun a ha => by injection ha with ha; subst ha; exact n1), (fun a ha => by injection ha with ha; subst ha; exact n2), (fun a b ha hb => by injection ha with ha; injection hb with hb; subst ha hb; exact own_ne hr hq), ?_, ?_⟩
  · rw [heap_setCell_same _ m 6 _ _ _ (heap_setCell_same w3 m 7 _ _ _ hb)]; rfl
  · refine (h.scr.mut hg fun a ha => ?_).mut hmm fun a ha e => h.ns a ha (.inl e)
    rintro (h2 | h2)
    · exact h.ns a ha (.inr (.inl h2))
    · exact h.ns a ha (.inr (.inr h2))
  · intro a ha hk
    have h0 := h.sl a ha
    rcases hk with e | ⟨b, hb, e⟩ | ⟨b, hb, e⟩
    · exact h.ns a ha (.inl e)
    · injection hb with hb
      subst hb
      rcases hl with ⟨d, hd, h2⟩ | h1
      · exact h.ns a ha (.inr (.inl ⟨d, hd, h2.trans e⟩))
      · omega
    · injection hb with hb
      subst hb
      rcases hp with ⟨d, hd, h2⟩ | h1
      · exact h.ns a ha (.inr (.inr ⟨d, hd, h2.trans e⟩))
      · omega
  · exact fun a ha => Nat.lt_of_lt_of_le (h.sl a ha) (Nat.le_trans hg.size hmm.size)
/-- append of one process to a list of the call's own, in a region that draws. -/
theorem step_app_pr {ops : Array Oper} {o : Oper} {a : Act} {K : Act → World → Prop} {Q : Exit → Act → World → Prop} {E : Prop} {w : World} (hgd : o.guard = none) (s x : Operand)
    (ho : o.op = .call { callee := .builtin .append, args := #[s, x], argTypes := #[40, 40] }) (A : Option Addr) (C : Nat) (l : List Pr) (p : Pr)
    (hs : a.eval s = .slice A l.length C) (hown : w.ownsRow 0 45 5 (.slice A l.length C) l.length (flat l)) (q : Nat) (hx : a.eval x = .slice (some ⟨q, 0, none⟩) 1 1) (hq : w.heap[q]? = some (.cells #[.int .i64 p.pid, .int .i64 p.group, .int .i64 p.state, .string p.why, .int .i64 p.ticks] 45 (0, 0)))
    (hn : l.length ≤ 100000)
    (h : ∀ g cap w', Hid (w'.ownsRow 0 45 5 (.slice (some ⟨g, 0, none⟩) (l.length + 1) cap) (l.length + 1) (flat (l ++ [p]))) → Hid (w.grownBy w' (Value.slice A l.length C).ownBlock) → Hid ((Value.slice A l.length C).ownBlock = some g ∨ g = w.heap.size) → K (a.put o.dst (.slice (some ⟨g, 0, none⟩) (l.length + 1) cap)) w') :
    if Region.wanted o (yielded ops a.tmps) = true then Oper.wp Try.prog o a w K Q else E := by
  obtain ⟨i0, hi, hz0, hz1, hz2⟩ := info_parts info45
  refine step_append_lies w hgd s x 40 ho 0 45 i0 _ 5 48 Try.underlying40 hi hz0 hz1 hz2 rfl (by decide) _ l.length (flat l) hs hown ⟨q, 0, none⟩ 1 1 (prC p) hx rfl ?c1 ?c2 (by decide) ?c3 ?c4 (Nat.zero_le _) _ rfl ?_
  case c1 => exact World.news_of_block (cs := #[.int .i64 p.pid, .int .i64 p.group, .int .i64 p.state, .string p.why, .int .i64 p.ticks]) (t := 45) (fr := (0, 0)) hq
  case c2 => intro u hu; simp [prC] at hu; rcases hu with rfl | rfl | rfl | rfl | rfl <;> rfl
  case c3 => simp only [maxLen]; omega
  case c4 => omega
  intro g cap w' h2 h3 h4 _
  exact h g cap w' (by rw [show flat (l ++ [p]) = flat l ++ prC p by simp [flat]]; exact h2) h3 h4

theorem keepB {W w2 : World} {bx n C : Nat} {A : Option Addr} (hA : ∀ a, A = some a → a.block < bx) (hg : W.grownBy w2 (Value.slice A n C).ownBlock) (hb : bx < W.heap.size) (o : Nat) : w2.cell? ⟨bx, o, none⟩ = W.cell? ⟨bx, o, none⟩ :=
  World.cell?_of_block (hg.block bx hb (fun e => by obtain ⟨a, ha, h⟩ := ownB e.symm; have := hA a ha; omega))
/-- The lists' blocks. -/
def RA.two (p : RA) (k : Nat) : Prop := (∃ a, p.lA = some a ∧ a.block = k) ∨ ∃ a, p.pA = some a ∧ a.block = k
/-- Behind the first append. -/
structure AfterP (w1 w2 : World) (m : Nat) (p : RA) (c : Int) (T : Tb) (g2 cap2 : Nat) (q : Pr) : Prop where
  own : w2.ownsRow 0 45 5 (.slice (some ⟨g2, 0, none⟩) (T.P.length + 1) cap2) (T.P.length + 1) (flat (T.P ++ [q]))
  cells : RCells w2 m p c T
  mm : Mut p.two w1 w2
  lst : w2.ownsRow 0 3 1 (.slice p.lA T.ready.length p.lC) T.ready.length (ints T.ready)
  loc : (∃ b, p.pA = some b ∧ b.block = g2) ∨ w1.heap.size ≤ g2
theorem afterP {w1 W w2 : World} {m : Nat} {p : RA} {c : Int} {T : Tb} {g2 cap2 : Nat} {q : Pr} (h : RefAt w1 m p c T) (hB : Below w1.heap.size w1 W)
    (ho : w2.ownsRow 0 45 5 (.slice (some ⟨g2, 0, none⟩) (T.P.length + 1) cap2) (T.P.length + 1) (flat (T.P ++ [q]))) (hg : W.grownBy w2 (Value.slice p.pA T.P.length p.pC).ownBlock) (hl : (Value.slice p.pA T.P.length p.pC).ownBlock = some g2 ∨ g2 = W.heap.size) : AfterP w1 w2 m p c T g2 cap2 q where
  own := ho
  cells := (h.below hB).grownP hg
  mm := (Mut.of_below hB).then ((mutP hg).mono fun _ hk => .inl (.inr hk))
  lst := own_mut2 (h.below hB).lst (mutP hg) fun a ha hb => by obtain ⟨b, hb, e⟩ := hb; exact h.lp a b ha hb e.symm
  loc := by
    rcases hl with h1 | h1
    · exact .inl (ownB h1)
    · exact .inr (by have := hB.size; omega)
theorem afterOld {w1 W w2 : World} {m : Nat} {p : RA} {c : Int} {T : Tb} (h : RefAt w1 m p c T) (hg : W.grownBy w2 (Value.slice p.pA T.P.length p.pC).ownBlock) (k : Nat) (o : Obj) (hk : w1.heap.size ≤ k) (hW : W.heap[k]? = some o) : w2.heap[k]? = some o :=
  (hg.block k (Array.getElem?_eq_some_iff.1 hW).1 (fun e => by
    obtain ⟨a, ha, hb⟩ := ownB e.symm
    have := (own_blk h.prs a ha).2
    omega)).trans hW
theorem AfterP.lstB {w1 w2 W : World} {m : Nat} {p : RA} {c : Int} {T : Tb} {g2 cap2 : Nat} {q : Pr} (h : AfterP w1 w2 m p c T g2 cap2 q) (hB : Below w2.heap.size w2 W) : W.ownsRow 0 3 1 (.slice p.lA T.ready.length p.lC) T.ready.length (ints T.ready) :=
  own_mut2 h.lst (S := fun _ => False) (Mut.of_below hB) fun _ _ h => h
/-- Behind both. -/
structure AfterL (w1 w3 : World) (m : Nat) (p : RA) (c : Int) (T : Tb) (g2 cap2 : Nat) (q : Pr) (g3 cap3 : Nat) (x : Int) : Prop where
  own : w3.ownsRow 0 45 5 (.slice (some ⟨g2, 0, none⟩) (T.P.length + 1) cap2) (T.P.length + 1) (flat (T.P ++ [q]))
  lst : w3.ownsRow 0 3 1 (.slice (some ⟨g3, 0, none⟩) (T.ready.length + 1) cap3) (T.ready.length + 1) (ints (T.ready ++ [x]))
  cells : RCells w3 m p c T
  mm : Mut p.two w1 w3
  locP : (∃ b, p.pA = some b ∧ b.block = g2) ∨ w1.heap.size ≤ g2
  locL : (∃ b, p.lA = some b ∧ b.block = g3) ∨ w1.heap.size ≤ g3
theorem afterL {w1 w2 W w3 : World} {m : Nat} {p : RA} {c : Int} {T : Tb} {g2 cap2 g3 cap3 : Nat} {q : Pr} {x : Int} (h1 : RefAt w1 m p c T) (h : AfterP w1 w2 m p c T g2 cap2 q) (hB : Below w2.heap.size w2 W)
    (ho : w3.ownsRow 0 3 1 (.slice (some ⟨g3, 0, none⟩) (T.ready.length + 1) cap3) (T.ready.length + 1) (ints (T.ready ++ [x]))) (hg : W.grownBy w3 (Value.slice p.lA T.ready.length p.lC).ownBlock) (hl : (Value.slice p.lA T.ready.length p.lC).ownBlock = some g3 ∨ g3 = W.heap.size) : AfterL w1 w3 m p c T g2 cap2 q g3 cap3 x := by
  have hm : Mut p.two w1 w3 := (h.mm.then (Mut.of_below hB)).then ((mutL hg).mono fun _ hk => .inl (.inl hk))
  have hb : w3.heap[m]? = some (.cells (refC p c T) 49 (0, 0)) := (hm.block m h1.lt (fun h2 => by rcases h2 with ⟨a, ha, e⟩ | ⟨a, ha, e⟩; exact h1.nl a ha e; exact h1.np a ha e)).trans h1.blk
  refine ⟨?_, ho, ⟨cell_of_heap hb rfl, cell_of_heap hb rfl, cell_of_heap hb rfl, cell_of_heap hb rfl, cell_of_heap hb rfl, cell_of_heap hb rfl, cell_of_heap hb rfl, cell_of_heap hb rfl, fun i => by simp [World.frozen?, hb]⟩, hm, h.loc, ?_⟩
  · refine own_mut2 (own_mut2 h.own (S := fun _ => False) (Mut.of_below hB) fun _ _ h => h) (mutL hg) fun a ha hb => ?_
    obtain ⟨b, hb, e⟩ := hb
    injection ha with ha
    subst ha
    rcases h.loc with ⟨d, hd, h2⟩ | h2
    · exact h1.lp b d hb hd (e.trans h2.symm)
    · have := (own_blk h1.lst b hb).2
      simp only at e
      omega
  · rcases hl with h2 | h2
    · exact .inl (ownB h2)
    · exact .inr (by have := hB.size; have := h.mm.size; omega)
/-- What Make leaves. -/
theorem AfterL.fin {w w1 w3 : World} {m : Nat} {p : RA} {c : Int} {T : Tb} {g2 cap2 g3 cap3 : Nat} {q : Pr} {x y : Int} (h1 : RefAt w1 m p c T) (hc : Cnt c T) (hw : Below w.heap.size w w1) (h : AfterL w1 w3 m p c T g2 cap2 q g3 cap3 x) :
    Rx w m p { T with P := T.P ++ [q], ready := T.ready ++ [x], last := y } ((w3.setCell ⟨m, 7, none⟩ (.slice (some ⟨g2, 0, none⟩) (T.P.length + 1) cap2)).setCell ⟨m, 6, none⟩ (.slice (some ⟨g3, 0, none⟩) (T.ready.length + 1) cap3)) := by
  have e1 : (T.ready ++ [x]).length = T.ready.length + 1 := by simp
  have e2 : (T.P ++ [q]).length = T.P.length + 1 := by simp
  have h3 := h1.two ⟨g3, 0, none⟩ ⟨g2, 0, none⟩ cap3 cap2 (T.ready ++ [x]) (T.P ++ [q]) (by rw [e1]; exact h.lst) (by rw [e2]; exact h.own) h.mm h.locL h.locP
  rw [e1, e2] at h3
  refine ⟨_, c, h3.as rfl rfl rfl rfl rfl rfl rfl, hc, ?_, fun k hk => ?_, rfl⟩
  · exact (((Mut.of_below hw).then (h.mm.mono fun _ hk => .inl (.inr hk))).then (Mut.setCell _ _ _ _ (.inl rfl))).then (Mut.setCell _ _ _ _ (.inl rfl))
  · have hs := hw.size
    rcases hk with e | ⟨a, ha, e⟩ | ⟨a, ha, e⟩
    · exact .inl (.inl e)
    · injection ha with ha
      subst ha
      rcases h.locL with h2 | h2
      · exact .inl (.inr (.inl (e ▸ h2)))
      · simp only at e; exact .inr (by omega)
    · injection ha with ha
      subst ha
      rcases h.locP with h2 | h2
      · exact .inl (.inr (.inr (e ▸ h2)))
      · simp only at e; exact .inr (by omega)

set_option maxHeartbeats 2000000 in
theorem rmake_none (T : Tb) (m : Nat) (p : RA) (c : Int) (parent : Int) (w : World) (h : RefAt w m p c T) (hc : Cnt c T) (h0 : parent ≠ 0) (hq : prAt T.P parent = none) :
    Calls Try.prog 40 #[.pointer (some ⟨m, 0, none⟩), .int .i64 parent] w fun e w' => e = .returned (.tuple #[.int .i64 (makeI T parent), .int .i64 (makeE T parent)]) ∧ Rx w m p (makeT T parent) w' := by
  have e1 : makeE T parent = 4 := if_pos ⟨h0, hq⟩
  have e2 : makeI T parent = 0 := by unfold makeI; rw [e1]; rfl
  have e3 : makeT T parent = T := by unfold makeT; rw [e1]; rfl
  rw [e1, e2, e3]
  have HT := Lib.hid h
  have HC := Lib.hid hc
  obtain ⟨c0, c1, c2, c3, c4, c5, c6, c7, hf⟩ := h.cells
  by_cases h2 : parent < 0
  · clear h hc hq e1 e2 e3
    go_enter Try.func40, Try.ntmps40
    go_wp2
    go_ret2
    exact ⟨rfl, Rx.refl HT.out HC.out⟩
  · have h3 : (T.P.length : Int) < parent := by
      unfold prAt at hq
      rw [if_pos (by omega)] at hq
      have := List.getElem?_eq_none_iff.1 hq
      omega
    have h4 : decide (parent < 0) = false := decide_eq_false h2
    clear h hc hq e1 e2 e3
    go_enter Try.func40, Try.ntmps40
    go_wp2
    go_ret2
    exact ⟨rfl, Rx.refl HT.out HC.out⟩
set_option maxHeartbeats 2000000 in
theorem rmake_full (T : Tb) (m : Nat) (p : RA) (c : Int) (parent : Int) (w : World) (h : RefAt w m p c T) (hc : Cnt c T) (h0 : 0 ≤ parent) (h1 : parent ≤ (T.P.length : Int)) (h2 : 64 ≤ aliveP T.P) (hn : T.P.length ≤ 100000) (hE : ¬ (parent ≠ 0 ∧ prAt T.P parent = none)) :
    Calls Try.prog 40 #[.pointer (some ⟨m, 0, none⟩), .int .i64 parent] w fun e w' => e = .returned (.tuple #[.int .i64 (makeI T parent), .int .i64 (makeE T parent)]) ∧ Rx w m p (makeT T parent) w' := by
  have e1 : makeE T parent = 24 := by unfold makeE; rw [if_neg hE, if_pos h2]
  have e2 : makeI T parent = 0 := by unfold makeI; rw [e1]; rfl
  have e3 : makeT T parent = T := by unfold makeT; rw [e1]; rfl
  rw [e1, e2, e3]
  have HT := Lib.hid h
  have HC := Lib.hid hc
  have HA := Lib.hid (ralive_calls T m p c w h hn)
  have h3 : decide (parent < 0) = false := decide_eq_false (by omega)
  have h4 : decide ((T.P.length : Int) < parent) = false := decide_eq_false (by omega)
  have h5 : (64 : Int) ≤ (aliveP T.P : Int) := by omega
  obtain ⟨c0, c1, c2, c3, c4, c5, c6, c7, hf⟩ := h.cells
  clear h hc hE e1 e2 e3
  generalize aliveP T.P = n at *
  go_enter Try.func40, Try.ntmps40
  go_wp2_with (go_at_call 58; refine HA.out.mono ?_; rintro e w1 ⟨rfl, hb⟩; have HB := Lib.hid hb; clear hb)
  go_ret2
  exact ⟨rfl, Rx.same (HT.out.below HB.out) HC.out (Mut.of_below HB.out)⟩
/-- What a drawn region of Make holds. -/
structure SB (m bx : Nat) (p : RA) (T : Tb) (pid G : Int) (w : World) : Prop where
  s7 : w.cell? ⟨m, 7, none⟩ = some (.slice p.pA T.P.length p.pC)
  s6 : w.cell? ⟨m, 6, none⟩ = some (.slice p.lA T.ready.length p.lC)
  s0 : w.cell? ⟨bx, 0, none⟩ = some (.int .i64 pid)
  s1 : w.cell? ⟨bx, 1, none⟩ = some (.int .i64 G)
  s2 : w.cell? ⟨bx, 2, none⟩ = some (.int .i64 0)
  s3 : w.cell? ⟨bx, 3, none⟩ = some (.string ⟨#[]⟩)
  s4 : w.cell? ⟨bx, 4, none⟩ = some (.int .i64 0)
theorem SB.of {m bx : Nat} {p : RA} {T : Tb} {pid G : Int} {w w' : World} (h : SB m bx p T pid G w) (hc : ∀ o v, w.cell? ⟨m, o, none⟩ = some v → w'.cell? ⟨m, o, none⟩ = some v) (hx : ∀ o v, w.cell? ⟨bx, o, none⟩ = some v → w'.cell? ⟨bx, o, none⟩ = some v) : SB m bx p T pid G w' :=
  ⟨hc _ _ h.s7, hc _ _ h.s6, hx _ _ h.s0, hx _ _ h.s1, hx _ _ h.s2, hx _ _ h.s3, hx _ _ h.s4⟩
theorem SB.below {m bx : Nat} {p : RA} {T : Tb} {pid G : Int} {w w' : World} (h : SB m bx p T pid G w) (hb : Below w.heap.size w w') : SB m bx p T pid G w' :=
  h.of (fun o _ hv => (hb.cell (p := ⟨m, o, none⟩) (World.block_lt_of_cell? w ⟨m, o, none⟩ hv)).trans hv) (fun o _ hv => (hb.cell (p := ⟨bx, o, none⟩) (World.block_lt_of_cell? w ⟨bx, o, none⟩ hv)).trans hv)
theorem SB.grow {m bx n C : Nat} {p : RA} {T : Tb} {pid G : Int} {A : Option Addr} {w w' : World} (h : SB m bx p T pid G w) (hg : w.grownBy w' (Value.slice A n C).ownBlock) (hA : ∀ a, A = some a → a.block ≠ m ∧ a.block ≠ bx) : SB m bx p T pid G w' :=
  h.of (fun o _ hv => (World.cell?_of_block (hg.block m (World.block_lt_of_cell? w ⟨m, o, none⟩ hv) (fun e => by obtain ⟨a, ha, h⟩ := ownB e.symm; exact (hA a ha).1 h))).trans hv) (fun o _ hv => (World.cell?_of_block (hg.block bx (World.block_lt_of_cell? w ⟨bx, o, none⟩ hv) (fun e => by obtain ⟨a, ha, h⟩ := ownB e.symm; exact (hA a ha).2 h))).trans hv)
set_option maxHeartbeats 8000000 in
theorem rmake_zero (T : Tb) (m : Nat) (p : RA) (c : Int) (w : World) (h : RefAt w m p c T) (hc : Cnt c T) (h2 : ¬ 64 ≤ aliveP T.P) (hn : T.P.length ≤ 90000) (hr : T.ready.length ≤ 90000) :
    Calls Try.prog 40 #[.pointer (some ⟨m, 0, none⟩), .int .i64 0] w fun e w' => e = .returned (.tuple #[.int .i64 (makeI T 0), .int .i64 (makeE T 0)]) ∧ Rx w m p (makeT T 0) w' := by
  have e1 : makeE T 0 = 0 := by unfold makeE; rw [if_neg (fun h => h.1 rfl), if_neg h2]
  have e2 : makeI T 0 = (T.P.length : Int) + 1 := by unfold makeI; rw [e1]; rfl
  have e4 : groupI T 0 = (T.P.length : Int) + 1 := by unfold groupI; cases prAt T.P 0 <;> rfl
  have e3 : makeT T 0 = { T with P := T.P ++ [⟨(T.P.length : Int) + 1, (T.P.length : Int) + 1, 0, ⟨#[]⟩, 0⟩], ready := T.ready ++ [(T.P.length : Int) + 1], last := (T.P.length : Int) + 1 } := by unfold makeT; rw [e1, e4]; rfl
  rw [e1, e2, e3]
  obtain ⟨pid, hpid⟩ : ∃ pid, pid = (T.P.length : Int) + 1 := ⟨_, rfl⟩
  rw [← hpid]
  have HT := Lib.hid h
  have HC := Lib.hid hc
  have HA := Lib.hid (ralive_calls T m p c w h (by omega))
  have h4 : decide ((T.P.length : Int) < 0) = false := decide_eq_false (by omega)
  have h5 : decide ((64 : Int) ≤ (aliveP T.P : Int)) = false := decide_eq_false (by omega)
  obtain ⟨c0, c1, c2, c3, c4, c5, c6, c7, hf⟩ := h.cells
  clear h hc e1 e2 e3 e4
  generalize aliveP T.P = n at *
  go_enter Try.func40, Try.ntmps40
  go_wp2_with (go_at_call 58; refine HA.out.mono ?_; rintro e w1 ⟨rfl, hb⟩; have HB := Lib.hid hb; have HT1 := Lib.hid (HT.out.below hb); clear hb c0 c1 c2 c3 c4 c5 c6 c7 hf; obtain ⟨c0, c1, c2, c3, c4, c5, c6, c7, hf⟩ := HT1.out.cells; have hlt := HT1.out.lt)
  rw [← hpid]
  obtain ⟨bx, hbx⟩ : ∃ bx, bx = w1.heap.size := ⟨_, rfl⟩
  obtain ⟨wb, hwb⟩ : ∃ wb, wb = w1.alloc (.cells #[.int .i64 pid, .int .i64 pid, .int .i64 0, .string ⟨#[]⟩, .int .i64 0] 45) := ⟨_, rfl⟩
  rw [← hwb, ← hbx]
  have HTB : Hid (RefAt wb m p c T) := Lib.hid (hwb ▸ HT1.out.below ((Below.refl _ w1).alloc (Nat.le_refl _) _))
  have HBB : Hid (Below w.heap.size w wb) := Lib.hid (hwb ▸ HB.out.step2 ((Below.refl _ w1).alloc (Nat.le_refl _) _))
  have HPB : Hid (∀ a, p.pA = some a → a.block < bx) := Lib.hid (fun a ha => hbx ▸ (own_blk HT1.out.prs a ha).2)
  have HLB : Hid (∀ a, p.lA = some a → a.block < bx) := Lib.hid (fun a ha => hbx ▸ (own_blk HT1.out.lst a ha).2)
  have hmx : m < bx := by rw [hbx]; exact HT1.out.lt
  have hbk : wb.heap[bx]? = some (.cells #[.int .i64 pid, .int .i64 pid, .int .i64 0, .string ⟨#[]⟩, .int .i64 0] 45 (0, 0)) := by rw [hwb, hbx]; exact heap_alloc_new w1 _
  clear hwb hbx hpid c0 c1 c2 c3 c4 c5 c6 c7 hf hlt HT1 HB
  obtain ⟨r0, r1, r2, r3, r4, rf⟩ := blk5 hbk
  obtain ⟨c0, c1, c2, c3, c4, c5, c6, c7, hf⟩ := HTB.out.cells
  have hlt := HTB.out.lt
  have hbl : bx < wb.heap.size := (Array.getElem?_eq_some_iff.1 hbk).1
  clear hbk rf
  have hmb0 : ¬ m = bx := by omega
  refine wp_regionG (SB m bx p T pid pid) [18, 21] (by kernel_rfl) ?_
  have HSB : Hid (SB m bx p T pid pid wb) := Lib.hid ⟨c7, c6, r0, r1, r2, r3, r4⟩
  have HSD : Hid (SB m bx p T pid pid wb.drew) := Lib.hid (HSB.out.below (Below.refl _ _).drew)
  clear c0 c1 c2 c3 c4 c5 c6 c7 hf r0 r1 r2 r3 r4
  refine wpG_takeY (i := 0) (v := ?v1) rfl (by kernel_rfl) (by kernel_rfl) (by kernel_rfl) (by kernel_rfl) (some 43) rfl (fun _ _ _ h => h) (Or.inl ⟨by rfl, ?y1⟩) (fun _ => HSD.out) ?t1
  case y1 => (intro w; go_simp; try with_reducible rfl)
  refine wpG_takeY (i := 1) (v := ?v2) rfl (by kernel_rfl) (by kernel_rfl) (by kernel_rfl) (by kernel_rfl) (some 44) rfl (fun _ _ _ h => h) (Or.inl ⟨by rfl, ?y2⟩) (fun _ => HSD.out) ?t2
  case y2 => (intro w; go_simp; try with_reducible rfl)
  refine wpG_takeY (i := 2) (v := ?v3) rfl (by kernel_rfl) (by kernel_rfl) (by kernel_rfl) (by kernel_rfl) (some 45) rfl (fun _ _ _ h => h) (Or.inl ⟨by rfl, ?y3⟩) (fun _ => HSD.out) ?t3
  case y3 => (intro w; go_simp; try with_reducible rfl)
  refine wpG_takeY (i := 3) (v := ?v4) rfl (by kernel_rfl) (by kernel_rfl) (by kernel_rfl) (by kernel_rfl) (some 46) rfl (fun _ _ _ h => h) (Or.inl ⟨by rfl, ?y4⟩) (fun _ => HSD.out) ?t4
  case y4 => (intro w; go_simp; try with_reducible rfl)
  refine wpG_takeY (i := 4) (v := ?v5) rfl (by kernel_rfl) (by kernel_rfl) (by kernel_rfl) (by kernel_rfl) (some 47) rfl (fun _ _ _ h => h) (Or.inl ⟨by rfl, ?y5⟩) (fun _ => HSD.out) ?t5
  case y5 => (intro w; go_simp; try with_reducible rfl)
  refine wpG_take (i := 5) (v := ?v6) rfl (by kernel_rfl) (by kernel_rfl) (by kernel_rfl) (by kernel_rfl) (by kernel_rfl) (some 48) rfl (fun _ _ _ h => h) (Or.inl ⟨by rfl, ?y6⟩) HSD.out ?t6
  case y6 => (rintro w ⟨s7, s6, s0, s1, s2, s3, s4⟩; go_simp; with_reducible rfl)
  refine wpG_take (i := 6) (v := ?v7) rfl (by kernel_rfl) (by kernel_rfl) (by kernel_rfl) (by kernel_rfl) (by kernel_rfl) (some 49) rfl (fun _ _ _ h => h) (Or.inl ⟨by rfl, ?y7⟩) HSD.out ?t7
  case y7 => (rintro w ⟨s7, s6, s0, s1, s2, s3, s4⟩; go_simp; with_reducible rfl)
  refine wpG_takeY (i := 9) (v := ?v8) rfl (by kernel_rfl) (by kernel_rfl) (by kernel_rfl) (by kernel_rfl) (some 52) rfl (fun _ _ _ h => h) (Or.inl ⟨by rfl, ?y8⟩) (fun _ => HSD.out) ?t8
  case y8 => (intro w; go_simp; try with_reducible rfl)
  refine wpG_takeY (i := 10) (v := ?v9) rfl (by kernel_rfl) (by kernel_rfl) (by kernel_rfl) (by kernel_rfl) (some 53) rfl (fun _ _ _ h => h) (Or.inl ⟨by rfl, ?y9⟩) (fun _ => HSD.out) ?t9
  case y9 => (intro w; go_simp; try with_reducible rfl)
  refine wpG_takeY (i := 11) (v := ?v10) rfl (by kernel_rfl) (by kernel_rfl) (by kernel_rfl) (by kernel_rfl) (some 54) rfl (fun _ _ _ h => h) (Or.inl ⟨by rfl, ?y10⟩) (fun _ => HSD.out) ?t10
  case y10 => (intro w; go_simp; try with_reducible rfl)
  refine wpG_take (i := 12) (v := ?v11) rfl (by kernel_rfl) (by kernel_rfl) (by kernel_rfl) (by kernel_rfl) (by kernel_rfl) (some 55) rfl (fun _ _ _ h => h) (Or.inl ⟨by rfl, ?y11⟩) HSD.out ?t11
  case y11 => (rintro w ⟨s7, s6, s0, s1, s2, s3, s4⟩; go_simp; with_reducible rfl)
  refine wpG_takeY (i := 13) (v := ?v12) rfl (by kernel_rfl) (by kernel_rfl) (by kernel_rfl) (by kernel_rfl) (some 56) rfl (fun _ _ _ h => h) (Or.inl ⟨by rfl, ?y12⟩) (fun _ => HSD.out) ?t12
  case y12 => (intro w; go_simp; try with_reducible rfl)
  refine wpG_two (i := 7) (j := 14) (by kernel_rfl) rfl rfl ?p13 ?q13
  case p13 =>
    intro K hK
    go_simp
    refine hK _ _ (fun _ => HSB.out.below (show Below wb.heap.size wb _ by repeat (first | exact Below.refl _ _ | exact Nat.le_refl _ | (simp only [heap_al, heap_dr, Array.size_push]; omega) | refine Below.alloc ?_ ?_ _ | refine Below.drew ?_))) ?_
    clear hK K
    refine wpG_two (i := 8) (j := 14) (by kernel_rfl) rfl rfl ?p14 ?q14
    case p14 =>
      intro K hK
      refine step_app_pr rfl _ _ rfl p.pA p.pC T.P ⟨pid, pid, 0, ⟨#[]⟩, 0⟩ rfl (HTB.out.below (show Below wb.heap.size wb _ by repeat (first | exact Below.refl _ _ | exact Nat.le_refl _ | (simp only [heap_al, heap_dr, Array.size_push]; omega) | refine Below.alloc ?_ ?_ _ | refine Below.drew ?_))).prs _ rfl (by simp only [heap_al, heap_dr, Array.getElem?_push, Array.size_push]; simp) (by omega) ?_
      intro g2 cap2 w2 ho hg hloc
      have HP := Lib.hid (afterP HTB.out (show Below wb.heap.size wb _ by repeat (first | exact Below.refl _ _ | exact Nat.le_refl _ | (simp only [heap_al, heap_dr, Array.size_push]; omega) | refine Below.alloc ?_ ?_ _ | refine Below.drew ?_)) ho.out hg.out hloc.out)
      have HOLD := Lib.hid (afterOld HTB.out hg.out)
      replace HSB := Lib.hid ((HSB.out.below (show Below wb.heap.size wb _ by repeat (first | exact Below.refl _ _ | exact Nat.le_refl _ | (simp only [heap_al, heap_dr, Array.size_push]; omega) | refine Below.alloc ?_ ?_ _ | refine Below.drew ?_))).grow hg.out (fun a ha => ⟨HTB.out.np a ha, Nat.ne_of_lt (HPB.out a ha)⟩))
      clear ho hg hloc
      refine hK _ _ (fun _ => HSB.out) ?_
      clear hK K
      refine wpG_one (i := 14) (by kernel_rfl) rfl ?q15
      intro K hK
      go_simp
      refine hK _ _ (fun _ => HSB.out.below (show Below w2.heap.size w2 _ by repeat (first | exact Below.refl _ _ | exact Nat.le_refl _ | (simp only [heap_al, heap_dr, Array.size_push]; omega) | refine Below.alloc ?_ ?_ _ | refine Below.drew ?_))) ?_
      clear hK K
      refine wpG_one (i := 15) (by kernel_rfl) rfl ?q16
      intro K hK
      refine step_app rfl _ _ rfl p.lA p.lC T.ready pid rfl (HP.out.lstB (show Below w2.heap.size w2 _ by repeat (first | exact Below.refl _ _ | exact Nat.le_refl _ | (simp only [heap_al, heap_dr, Array.size_push]; omega) | refine Below.alloc ?_ ?_ _ | refine Below.drew ?_))) _ rfl (by first | (simp; done) | exact cell_of_heap (j := 0) (cs := #[.int .i64 pid]) (t := 3) (fr := (0, 0)) (HOLD.out _ _ (by first | omega | (simp only [heap_al, heap_dr, Array.size_push]; omega)) (by simp only [heap_al, heap_dr, Array.getElem?_push, Array.size_push]; simp)) rfl) (by omega) ?_
      intro g3 cap3 w3 ho hg hloc
      have HL := Lib.hid (afterL HTB.out HP.out (show Below w2.heap.size w2 _ by repeat (first | exact Below.refl _ _ | exact Nat.le_refl _ | (simp only [heap_al, heap_dr, Array.size_push]; omega) | refine Below.alloc ?_ ?_ _ | refine Below.drew ?_)) ho.out hg.out hloc.out)
      replace HSB := Lib.hid ((HSB.out.below (show Below w2.heap.size w2 _ by repeat (first | exact Below.refl _ _ | exact Nat.le_refl _ | (simp only [heap_al, heap_dr, Array.size_push]; omega) | refine Below.alloc ?_ ?_ _ | refine Below.drew ?_))).grow hg.out (fun a ha => ⟨HTB.out.nl a ha, Nat.ne_of_lt (HLB.out a ha)⟩))
      clear ho hg hloc HP HOLD
      obtain ⟨c0, c1, c2, c3, c4, c5, c6, c7, hf⟩ := HL.out.cells
      clear c0 c1 c2 c3 c4 c5
      refine hK _ _ (fun _ => HSB.out) ?_
      clear hK K
      refine wpG_takeY (i := 16) (v := ?v17) rfl (by kernel_rfl) (by kernel_rfl) (by kernel_rfl) (by kernel_rfl) (some 59) rfl (fun _ _ _ h => h) (Or.inl ⟨by rfl, ?y17⟩) (fun _ => HSB.out) ?t17
      case y17 => (intro w; go_simp; try with_reducible rfl)
      refine wpG_takeY (i := 17) (v := ?v18) rfl (by kernel_rfl) (by kernel_rfl) (by kernel_rfl) (by kernel_rfl) (some 60) rfl (fun _ _ _ h => h) (Or.inl ⟨by rfl, ?y18⟩) (fun _ => HSB.out) ?t18
      case y18 => (intro w; go_simp; try with_reducible rfl)
      refine wpG_one (i := 18) (by kernel_rfl) rfl ?q19
      intro K hK
      go_simp
      refine hK _ _ (fun h => absurd h (by decide +kernel)) ?_
      clear hK K
      refine wpG_takeY (i := 19) (v := ?v20) rfl (by kernel_rfl) (by kernel_rfl) (by kernel_rfl) (by kernel_rfl) (some 61) rfl (fun _ _ _ h => h) (Or.inl ⟨by rfl, ?y20⟩) (fun h => absurd h (by decide +kernel)) ?t20
      case y20 => (intro w; go_simp; try with_reducible rfl)
      refine wpG_takeY (i := 20) (v := ?v21) rfl (by kernel_rfl) (by kernel_rfl) (by kernel_rfl) (by kernel_rfl) (some 62) rfl (fun _ _ _ h => h) (Or.inl ⟨by rfl, ?y21⟩) (fun h => absurd h (by decide +kernel)) ?t21
      case y21 => (intro w; go_simp; try with_reducible rfl)
      refine wpG_one (i := 21) (by kernel_rfl) rfl ?q22
      intro K hK
      go_simp
      refine hK _ _ (fun h => absurd h (by decide +kernel)) ?_
      clear hK K
      refine wpG_done (by kernel_rfl) ?_ _
      go_wp2
      go_ret2
      exact ⟨rfl, HL.out.fin HTB.out HC.out HBB.out⟩
    case q14 =>
      intro K hK
      go_simp
      refine hK _ _ (fun _ => HSB.out.below (show Below wb.heap.size wb _ by repeat (first | exact Below.refl _ _ | exact Nat.le_refl _ | (simp only [heap_al, heap_dr, Array.size_push]; omega) | refine Below.alloc ?_ ?_ _ | refine Below.drew ?_))) ?_
      clear hK K
      refine wpG_one (i := 8) (by kernel_rfl) rfl ?q23
      intro K hK
      refine step_app_pr rfl _ _ rfl p.pA p.pC T.P ⟨pid, pid, 0, ⟨#[]⟩, 0⟩ rfl (HTB.out.below (show Below wb.heap.size wb _ by repeat (first | exact Below.refl _ _ | exact Nat.le_refl _ | (simp only [heap_al, heap_dr, Array.size_push]; omega) | refine Below.alloc ?_ ?_ _ | refine Below.drew ?_))).prs _ rfl (by simp only [heap_al, heap_dr, Array.getElem?_push, Array.size_push]; simp) (by omega) ?_
      intro g2 cap2 w2 ho hg hloc
      have HP := Lib.hid (afterP HTB.out (show Below wb.heap.size wb _ by repeat (first | exact Below.refl _ _ | exact Nat.le_refl _ | (simp only [heap_al, heap_dr, Array.size_push]; omega) | refine Below.alloc ?_ ?_ _ | refine Below.drew ?_)) ho.out hg.out hloc.out)
      have HOLD := Lib.hid (afterOld HTB.out hg.out)
      replace HSB := Lib.hid ((HSB.out.below (show Below wb.heap.size wb _ by repeat (first | exact Below.refl _ _ | exact Nat.le_refl _ | (simp only [heap_al, heap_dr, Array.size_push]; omega) | refine Below.alloc ?_ ?_ _ | refine Below.drew ?_))).grow hg.out (fun a ha => ⟨HTB.out.np a ha, Nat.ne_of_lt (HPB.out a ha)⟩))
      clear ho hg hloc
      refine hK _ _ (fun _ => HSB.out) ?_
      clear hK K
      refine wpG_one (i := 15) (by kernel_rfl) rfl ?q24
      intro K hK
      refine step_app rfl _ _ rfl p.lA p.lC T.ready pid rfl (HP.out.lstB (show Below w2.heap.size w2 _ by repeat (first | exact Below.refl _ _ | exact Nat.le_refl _ | (simp only [heap_al, heap_dr, Array.size_push]; omega) | refine Below.alloc ?_ ?_ _ | refine Below.drew ?_))) _ rfl (by first | (simp; done) | exact cell_of_heap (j := 0) (cs := #[.int .i64 pid]) (t := 3) (fr := (0, 0)) (HOLD.out _ _ (by first | omega | (simp only [heap_al, heap_dr, Array.size_push]; omega)) (by simp only [heap_al, heap_dr, Array.getElem?_push, Array.size_push]; simp)) rfl) (by omega) ?_
      intro g3 cap3 w3 ho hg hloc
      have HL := Lib.hid (afterL HTB.out HP.out (show Below w2.heap.size w2 _ by repeat (first | exact Below.refl _ _ | exact Nat.le_refl _ | (simp only [heap_al, heap_dr, Array.size_push]; omega) | refine Below.alloc ?_ ?_ _ | refine Below.drew ?_)) ho.out hg.out hloc.out)
      replace HSB := Lib.hid ((HSB.out.below (show Below w2.heap.size w2 _ by repeat (first | exact Below.refl _ _ | exact Nat.le_refl _ | (simp only [heap_al, heap_dr, Array.size_push]; omega) | refine Below.alloc ?_ ?_ _ | refine Below.drew ?_))).grow hg.out (fun a ha => ⟨HTB.out.nl a ha, Nat.ne_of_lt (HLB.out a ha)⟩))
      clear ho hg hloc HP HOLD
      obtain ⟨c0, c1, c2, c3, c4, c5, c6, c7, hf⟩ := HL.out.cells
      clear c0 c1 c2 c3 c4 c5
      refine hK _ _ (fun _ => HSB.out) ?_
      clear hK K
      refine wpG_takeY (i := 16) (v := ?v25) rfl (by kernel_rfl) (by kernel_rfl) (by kernel_rfl) (by kernel_rfl) (some 59) rfl (fun _ _ _ h => h) (Or.inl ⟨by rfl, ?y25⟩) (fun _ => HSB.out) ?t25
      case y25 => (intro w; go_simp; try with_reducible rfl)
      refine wpG_takeY (i := 17) (v := ?v26) rfl (by kernel_rfl) (by kernel_rfl) (by kernel_rfl) (by kernel_rfl) (some 60) rfl (fun _ _ _ h => h) (Or.inl ⟨by rfl, ?y26⟩) (fun _ => HSB.out) ?t26
      case y26 => (intro w; go_simp; try with_reducible rfl)
      refine wpG_one (i := 18) (by kernel_rfl) rfl ?q27
      intro K hK
      go_simp
      refine hK _ _ (fun h => absurd h (by decide +kernel)) ?_
      clear hK K
      refine wpG_takeY (i := 19) (v := ?v28) rfl (by kernel_rfl) (by kernel_rfl) (by kernel_rfl) (by kernel_rfl) (some 61) rfl (fun _ _ _ h => h) (Or.inl ⟨by rfl, ?y28⟩) (fun h => absurd h (by decide +kernel)) ?t28
      case y28 => (intro w; go_simp; try with_reducible rfl)
      refine wpG_takeY (i := 20) (v := ?v29) rfl (by kernel_rfl) (by kernel_rfl) (by kernel_rfl) (by kernel_rfl) (some 62) rfl (fun _ _ _ h => h) (Or.inl ⟨by rfl, ?y29⟩) (fun h => absurd h (by decide +kernel)) ?t29
      case y29 => (intro w; go_simp; try with_reducible rfl)
      refine wpG_one (i := 21) (by kernel_rfl) rfl ?q30
      intro K hK
      go_simp
      refine hK _ _ (fun h => absurd h (by decide +kernel)) ?_
      clear hK K
      refine wpG_done (by kernel_rfl) ?_ _
      go_wp2
      go_ret2
      exact ⟨rfl, HL.out.fin HTB.out HC.out HBB.out⟩
  case q13 =>
    intro K hK
    go_simp
    refine hK _ _ (fun _ => HSB.out.below (show Below wb.heap.size wb _ by repeat (first | exact Below.refl _ _ | exact Nat.le_refl _ | (simp only [heap_al, heap_dr, Array.size_push]; omega) | refine Below.alloc ?_ ?_ _ | refine Below.drew ?_))) ?_
    clear hK K
    refine wpG_one (i := 7) (by kernel_rfl) rfl ?q31
    intro K hK
    go_simp
    refine hK _ _ (fun _ => HSB.out.below (show Below wb.heap.size wb _ by repeat (first | exact Below.refl _ _ | exact Nat.le_refl _ | (simp only [heap_al, heap_dr, Array.size_push]; omega) | refine Below.alloc ?_ ?_ _ | refine Below.drew ?_))) ?_
    clear hK K
    refine wpG_one (i := 8) (by kernel_rfl) rfl ?q32
    intro K hK
    refine step_app_pr rfl _ _ rfl p.pA p.pC T.P ⟨pid, pid, 0, ⟨#[]⟩, 0⟩ rfl (HTB.out.below (show Below wb.heap.size wb _ by repeat (first | exact Below.refl _ _ | exact Nat.le_refl _ | (simp only [heap_al, heap_dr, Array.size_push]; omega) | refine Below.alloc ?_ ?_ _ | refine Below.drew ?_))).prs _ rfl (by simp only [heap_al, heap_dr, Array.getElem?_push, Array.size_push]; simp) (by omega) ?_
    intro g2 cap2 w2 ho hg hloc
    have HP := Lib.hid (afterP HTB.out (show Below wb.heap.size wb _ by repeat (first | exact Below.refl _ _ | exact Nat.le_refl _ | (simp only [heap_al, heap_dr, Array.size_push]; omega) | refine Below.alloc ?_ ?_ _ | refine Below.drew ?_)) ho.out hg.out hloc.out)
    have HOLD := Lib.hid (afterOld HTB.out hg.out)
    replace HSB := Lib.hid ((HSB.out.below (show Below wb.heap.size wb _ by repeat (first | exact Below.refl _ _ | exact Nat.le_refl _ | (simp only [heap_al, heap_dr, Array.size_push]; omega) | refine Below.alloc ?_ ?_ _ | refine Below.drew ?_))).grow hg.out (fun a ha => ⟨HTB.out.np a ha, Nat.ne_of_lt (HPB.out a ha)⟩))
    clear ho hg hloc
    refine hK _ _ (fun _ => HSB.out) ?_
    clear hK K
    refine wpG_one (i := 15) (by kernel_rfl) rfl ?q33
    intro K hK
    refine step_app rfl _ _ rfl p.lA p.lC T.ready pid rfl (HP.out.lstB (show Below w2.heap.size w2 _ by repeat (first | exact Below.refl _ _ | exact Nat.le_refl _ | (simp only [heap_al, heap_dr, Array.size_push]; omega) | refine Below.alloc ?_ ?_ _ | refine Below.drew ?_))) _ rfl (by first | (simp; done) | exact cell_of_heap (j := 0) (cs := #[.int .i64 pid]) (t := 3) (fr := (0, 0)) (HOLD.out _ _ (by first | omega | (simp only [heap_al, heap_dr, Array.size_push]; omega)) (by simp only [heap_al, heap_dr, Array.getElem?_push, Array.size_push]; simp)) rfl) (by omega) ?_
    intro g3 cap3 w3 ho hg hloc
    have HL := Lib.hid (afterL HTB.out HP.out (show Below w2.heap.size w2 _ by repeat (first | exact Below.refl _ _ | exact Nat.le_refl _ | (simp only [heap_al, heap_dr, Array.size_push]; omega) | refine Below.alloc ?_ ?_ _ | refine Below.drew ?_)) ho.out hg.out hloc.out)
    replace HSB := Lib.hid ((HSB.out.below (show Below w2.heap.size w2 _ by repeat (first | exact Below.refl _ _ | exact Nat.le_refl _ | (simp only [heap_al, heap_dr, Array.size_push]; omega) | refine Below.alloc ?_ ?_ _ | refine Below.drew ?_))).grow hg.out (fun a ha => ⟨HTB.out.nl a ha, Nat.ne_of_lt (HLB.out a ha)⟩))
    clear ho hg hloc HP HOLD
    obtain ⟨c0, c1, c2, c3, c4, c5, c6, c7, hf⟩ := HL.out.cells
    clear c0 c1 c2 c3 c4 c5
    refine hK _ _ (fun _ => HSB.out) ?_
    clear hK K
    refine wpG_takeY (i := 16) (v := ?v34) rfl (by kernel_rfl) (by kernel_rfl) (by kernel_rfl) (by kernel_rfl) (some 59) rfl (fun _ _ _ h => h) (Or.inl ⟨by rfl, ?y34⟩) (fun _ => HSB.out) ?t34
    case y34 => (intro w; go_simp; try with_reducible rfl)
    refine wpG_takeY (i := 17) (v := ?v35) rfl (by kernel_rfl) (by kernel_rfl) (by kernel_rfl) (by kernel_rfl) (some 60) rfl (fun _ _ _ h => h) (Or.inl ⟨by rfl, ?y35⟩) (fun _ => HSB.out) ?t35
    case y35 => (intro w; go_simp; try with_reducible rfl)
    refine wpG_one (i := 18) (by kernel_rfl) rfl ?q36
    intro K hK
    go_simp
    refine hK _ _ (fun h => absurd h (by decide +kernel)) ?_
    clear hK K
    refine wpG_takeY (i := 19) (v := ?v37) rfl (by kernel_rfl) (by kernel_rfl) (by kernel_rfl) (by kernel_rfl) (some 61) rfl (fun _ _ _ h => h) (Or.inl ⟨by rfl, ?y37⟩) (fun h => absurd h (by decide +kernel)) ?t37
    case y37 => (intro w; go_simp; try with_reducible rfl)
    refine wpG_takeY (i := 20) (v := ?v38) rfl (by kernel_rfl) (by kernel_rfl) (by kernel_rfl) (by kernel_rfl) (some 62) rfl (fun _ _ _ h => h) (Or.inl ⟨by rfl, ?y38⟩) (fun h => absurd h (by decide +kernel)) ?t38
    case y38 => (intro w; go_simp; try with_reducible rfl)
    refine wpG_one (i := 21) (by kernel_rfl) rfl ?q39
    intro K hK
    go_simp
    refine hK _ _ (fun h => absurd h (by decide +kernel)) ?_
    clear hK K
    refine wpG_done (by kernel_rfl) ?_ _
    go_wp2
    go_ret2
    exact ⟨rfl, HL.out.fin HTB.out HC.out HBB.out⟩
set_option maxHeartbeats 8000000 in
theorem rmake_sub (T : Tb) (m : Nat) (p : RA) (c : Int) (j : Nat) (w : World) (h : RefAt w m p c T) (hc : Cnt c T) (hj : j < T.P.length) (h2 : ¬ 64 ≤ aliveP T.P) (hn : T.P.length ≤ 90000) (hr : T.ready.length ≤ 90000) :
    Calls Try.prog 40 #[.pointer (some ⟨m, 0, none⟩), .int .i64 ((j : Int) + 1)] w fun e w' => e = .returned (.tuple #[.int .i64 (makeI T ((j : Int) + 1)), .int .i64 (makeE T ((j : Int) + 1))]) ∧ Rx w m p (makeT T ((j : Int) + 1)) w' := by
  have hp : prAt T.P ((j : Int) + 1) = some T.P[j] := by
    unfold prAt
    rw [if_pos (by omega), show ((j : Int) + 1 - 1).toNat = j by omega, List.getElem?_eq_getElem hj]
  have e1 : makeE T ((j : Int) + 1) = 0 := by unfold makeE; rw [if_neg (fun h => by rw [hp] at h; cases h.2), if_neg h2]
  have e2 : makeI T ((j : Int) + 1) = (T.P.length : Int) + 1 := by unfold makeI; rw [e1]; rfl
  have e4 : groupI T ((j : Int) + 1) = T.P[j].group := by unfold groupI; rw [hp]; exact if_neg (by omega)
  obtain ⟨gr, hgr⟩ : ∃ gr, T.P[j].group = gr := ⟨_, rfl⟩
  rw [hgr] at e4
  have e3 : makeT T ((j : Int) + 1) = { T with P := T.P ++ [⟨(T.P.length : Int) + 1, gr, 0, ⟨#[]⟩, 0⟩], ready := T.ready ++ [(T.P.length : Int) + 1], last := (T.P.length : Int) + 1 } := by unfold makeT; rw [e1, e4]; rfl
  rw [e1, e2, e3]
  obtain ⟨pid, hpid⟩ : ∃ pid, pid = (T.P.length : Int) + 1 := ⟨_, rfl⟩
  rw [← hpid]
  have HT := Lib.hid h
  have HC := Lib.hid hc
  have HGR := Lib.hid hgr
  have HJ := Lib.hid hj
  have HA := Lib.hid (ralive_calls T m p c w h (by omega))
  have j0 : (0 : Int) ≤ (j : Int) := by omega
  have j1 : (j : Int) < (T.P.length : Int) := by omega
  have j2 : decide ((j : Int) + 1 < 0) = false := decide_eq_false (by omega)
  have j3 : ((j : Int) + 1) - 1 = (j : Int) := by omega
  have j4 : decide ((T.P.length : Int) < (j : Int) + 1) = false := decide_eq_false (by omega)
  have j5 : (0 : Int) < (j : Int) + 1 := by omega
  have h5 : decide ((64 : Int) ≤ (aliveP T.P : Int)) = false := decide_eq_false (by omega)
  obtain ⟨c0, c1, c2, c3, c4, c5, c6, c7, hf⟩ := h.cells
  clear h hc hp e1 e2 e3 e4 hgr
  generalize aliveP T.P = n at *
  go_enter Try.func40, Try.ntmps40
  go_wp2_with (go_at_call 58; refine HA.out.mono ?_; rintro e w1 ⟨rfl, hb⟩; have HB := Lib.hid hb; have HT1 := Lib.hid (HT.out.below hb); clear hb c0 c1 c2 c3 c4 c5 c6 c7 hf; obtain ⟨c0, c1, c2, c3, c4, c5, c6, c7, hf⟩ := HT1.out.cells; have hlt := HT1.out.lt; obtain ⟨bl, hA, hbl, hbm, _, hfb, _, p1, _, _, _⟩ := HT1.out.pcells j HJ.out; rw [hA] at c7; rw [HGR.out] at p1; have HPA := Lib.hid hA; clear hA)
  rw [← hpid]
  obtain ⟨bx, hbx⟩ : ∃ bx, bx = w1.heap.size := ⟨_, rfl⟩
  obtain ⟨wb, hwb⟩ : ∃ wb, wb = w1.alloc (.cells #[.int .i64 pid, .int .i64 gr, .int .i64 0, .string ⟨#[]⟩, .int .i64 0] 45) := ⟨_, rfl⟩
  rw [← hwb, ← hbx]
  have HTB : Hid (RefAt wb m p c T) := Lib.hid (hwb ▸ HT1.out.below ((Below.refl _ w1).alloc (Nat.le_refl _) _))
  have HBB : Hid (Below w.heap.size w wb) := Lib.hid (hwb ▸ HB.out.step2 ((Below.refl _ w1).alloc (Nat.le_refl _) _))
  have HPB : Hid (∀ a, p.pA = some a → a.block < bx) := Lib.hid (fun a ha => hbx ▸ (own_blk HT1.out.prs a ha).2)
  have HLB : Hid (∀ a, p.lA = some a → a.block < bx) := Lib.hid (fun a ha => hbx ▸ (own_blk HT1.out.lst a ha).2)
  have hmx : m < bx := by rw [hbx]; exact HT1.out.lt
  have hbk : wb.heap[bx]? = some (.cells #[.int .i64 pid, .int .i64 gr, .int .i64 0, .string ⟨#[]⟩, .int .i64 0] 45 (0, 0)) := by rw [hwb, hbx]; exact heap_alloc_new w1 _
  clear hwb hbx hpid c0 c1 c2 c3 c4 c5 c6 c7 hf hlt HT1 HB
  obtain ⟨r0, r1, r2, r3, r4, rf⟩ := blk5 hbk
  obtain ⟨c0, c1, c2, c3, c4, c5, c6, c7, hf⟩ := HTB.out.cells
  have hlt := HTB.out.lt
  have hbl : bx < wb.heap.size := (Array.getElem?_eq_some_iff.1 hbk).1
  clear hbk rf
  have hmb0 : ¬ m = bx := by omega
  refine wp_regionG (SB m bx p T pid gr) [18, 21] (by kernel_rfl) ?_
  have HSB : Hid (SB m bx p T pid gr wb) := Lib.hid ⟨c7, c6, r0, r1, r2, r3, r4⟩
  have HSD : Hid (SB m bx p T pid gr wb.drew) := Lib.hid (HSB.out.below (Below.refl _ _).drew)
  clear c0 c1 c2 c3 c4 c5 c6 c7 hf r0 r1 r2 r3 r4
  refine wpG_takeY (i := 0) (v := ?v40) rfl (by kernel_rfl) (by kernel_rfl) (by kernel_rfl) (by kernel_rfl) (some 43) rfl (fun _ _ _ h => h) (Or.inl ⟨by rfl, ?y40⟩) (fun _ => HSD.out) ?t40
  case y40 => (intro w; go_simp; try with_reducible rfl)
  refine wpG_takeY (i := 1) (v := ?v41) rfl (by kernel_rfl) (by kernel_rfl) (by kernel_rfl) (by kernel_rfl) (some 44) rfl (fun _ _ _ h => h) (Or.inl ⟨by rfl, ?y41⟩) (fun _ => HSD.out) ?t41
  case y41 => (intro w; go_simp; try with_reducible rfl)
  refine wpG_takeY (i := 2) (v := ?v42) rfl (by kernel_rfl) (by kernel_rfl) (by kernel_rfl) (by kernel_rfl) (some 45) rfl (fun _ _ _ h => h) (Or.inl ⟨by rfl, ?y42⟩) (fun _ => HSD.out) ?t42
  case y42 => (intro w; go_simp; try with_reducible rfl)
  refine wpG_takeY (i := 3) (v := ?v43) rfl (by kernel_rfl) (by kernel_rfl) (by kernel_rfl) (by kernel_rfl) (some 46) rfl (fun _ _ _ h => h) (Or.inl ⟨by rfl, ?y43⟩) (fun _ => HSD.out) ?t43
  case y43 => (intro w; go_simp; try with_reducible rfl)
  refine wpG_takeY (i := 4) (v := ?v44) rfl (by kernel_rfl) (by kernel_rfl) (by kernel_rfl) (by kernel_rfl) (some 47) rfl (fun _ _ _ h => h) (Or.inl ⟨by rfl, ?y44⟩) (fun _ => HSD.out) ?t44
  case y44 => (intro w; go_simp; try with_reducible rfl)
  refine wpG_take (i := 5) (v := ?v45) rfl (by kernel_rfl) (by kernel_rfl) (by kernel_rfl) (by kernel_rfl) (by kernel_rfl) (some 48) rfl (fun _ _ _ h => h) (Or.inl ⟨by rfl, ?y45⟩) HSD.out ?t45
  case y45 => (rintro w ⟨s7, s6, s0, s1, s2, s3, s4⟩; go_simp; with_reducible rfl)
  refine wpG_take (i := 6) (v := ?v46) rfl (by kernel_rfl) (by kernel_rfl) (by kernel_rfl) (by kernel_rfl) (by kernel_rfl) (some 49) rfl (fun _ _ _ h => h) (Or.inl ⟨by rfl, ?y46⟩) HSD.out ?t46
  case y46 => (rintro w ⟨s7, s6, s0, s1, s2, s3, s4⟩; go_simp; with_reducible rfl)
  refine wpG_takeY (i := 9) (v := ?v47) rfl (by kernel_rfl) (by kernel_rfl) (by kernel_rfl) (by kernel_rfl) (some 52) rfl (fun _ _ _ h => h) (Or.inl ⟨by rfl, ?y47⟩) (fun _ => HSD.out) ?t47
  case y47 => (intro w; go_simp; try with_reducible rfl)
  refine wpG_takeY (i := 10) (v := ?v48) rfl (by kernel_rfl) (by kernel_rfl) (by kernel_rfl) (by kernel_rfl) (some 53) rfl (fun _ _ _ h => h) (Or.inl ⟨by rfl, ?y48⟩) (fun _ => HSD.out) ?t48
  case y48 => (intro w; go_simp; try with_reducible rfl)
  refine wpG_takeY (i := 11) (v := ?v49) rfl (by kernel_rfl) (by kernel_rfl) (by kernel_rfl) (by kernel_rfl) (some 54) rfl (fun _ _ _ h => h) (Or.inl ⟨by rfl, ?y49⟩) (fun _ => HSD.out) ?t49
  case y49 => (intro w; go_simp; try with_reducible rfl)
  refine wpG_take (i := 12) (v := ?v50) rfl (by kernel_rfl) (by kernel_rfl) (by kernel_rfl) (by kernel_rfl) (by kernel_rfl) (some 55) rfl (fun _ _ _ h => h) (Or.inl ⟨by rfl, ?y50⟩) HSD.out ?t50
  case y50 => (rintro w ⟨s7, s6, s0, s1, s2, s3, s4⟩; go_simp; with_reducible rfl)
  refine wpG_takeY (i := 13) (v := ?v51) rfl (by kernel_rfl) (by kernel_rfl) (by kernel_rfl) (by kernel_rfl) (some 56) rfl (fun _ _ _ h => h) (Or.inl ⟨by rfl, ?y51⟩) (fun _ => HSD.out) ?t51
  case y51 => (intro w; go_simp; try with_reducible rfl)
  refine wpG_two (i := 7) (j := 14) (by kernel_rfl) rfl rfl ?p52 ?q52
  case p52 =>
    intro K hK
    go_simp
    refine hK _ _ (fun _ => HSB.out.below (show Below wb.heap.size wb _ by repeat (first | exact Below.refl _ _ | exact Nat.le_refl _ | (simp only [heap_al, heap_dr, Array.size_push]; omega) | refine Below.alloc ?_ ?_ _ | refine Below.drew ?_))) ?_
    clear hK K
    refine wpG_two (i := 8) (j := 14) (by kernel_rfl) rfl rfl ?p53 ?q53
    case p53 =>
      intro K hK
      refine step_app_pr rfl _ _ rfl p.pA p.pC T.P ⟨pid, gr, 0, ⟨#[]⟩, 0⟩ rfl (HTB.out.below (show Below wb.heap.size wb _ by repeat (first | exact Below.refl _ _ | exact Nat.le_refl _ | (simp only [heap_al, heap_dr, Array.size_push]; omega) | refine Below.alloc ?_ ?_ _ | refine Below.drew ?_))).prs _ rfl (by simp only [heap_al, heap_dr, Array.getElem?_push, Array.size_push]; simp) (by omega) ?_
      intro g2 cap2 w2 ho hg hloc
      have HP := Lib.hid (afterP HTB.out (show Below wb.heap.size wb _ by repeat (first | exact Below.refl _ _ | exact Nat.le_refl _ | (simp only [heap_al, heap_dr, Array.size_push]; omega) | refine Below.alloc ?_ ?_ _ | refine Below.drew ?_)) ho.out hg.out hloc.out)
      have HOLD := Lib.hid (afterOld HTB.out hg.out)
      replace HSB := Lib.hid ((HSB.out.below (show Below wb.heap.size wb _ by repeat (first | exact Below.refl _ _ | exact Nat.le_refl _ | (simp only [heap_al, heap_dr, Array.size_push]; omega) | refine Below.alloc ?_ ?_ _ | refine Below.drew ?_))).grow hg.out (fun a ha => ⟨HTB.out.np a ha, Nat.ne_of_lt (HPB.out a ha)⟩))
      clear ho hg hloc
      refine hK _ _ (fun _ => HSB.out) ?_
      clear hK K
      refine wpG_one (i := 14) (by kernel_rfl) rfl ?q54
      intro K hK
      go_simp
      refine hK _ _ (fun _ => HSB.out.below (show Below w2.heap.size w2 _ by repeat (first | exact Below.refl _ _ | exact Nat.le_refl _ | (simp only [heap_al, heap_dr, Array.size_push]; omega) | refine Below.alloc ?_ ?_ _ | refine Below.drew ?_))) ?_
      clear hK K
      refine wpG_one (i := 15) (by kernel_rfl) rfl ?q55
      intro K hK
      refine step_app rfl _ _ rfl p.lA p.lC T.ready pid rfl (HP.out.lstB (show Below w2.heap.size w2 _ by repeat (first | exact Below.refl _ _ | exact Nat.le_refl _ | (simp only [heap_al, heap_dr, Array.size_push]; omega) | refine Below.alloc ?_ ?_ _ | refine Below.drew ?_))) _ rfl (by first | (simp; done) | exact cell_of_heap (j := 0) (cs := #[.int .i64 pid]) (t := 3) (fr := (0, 0)) (HOLD.out _ _ (by first | omega | (simp only [heap_al, heap_dr, Array.size_push]; omega)) (by simp only [heap_al, heap_dr, Array.getElem?_push, Array.size_push]; simp)) rfl) (by omega) ?_
      intro g3 cap3 w3 ho hg hloc
      have HL := Lib.hid (afterL HTB.out HP.out (show Below w2.heap.size w2 _ by repeat (first | exact Below.refl _ _ | exact Nat.le_refl _ | (simp only [heap_al, heap_dr, Array.size_push]; omega) | refine Below.alloc ?_ ?_ _ | refine Below.drew ?_)) ho.out hg.out hloc.out)
      replace HSB := Lib.hid ((HSB.out.below (show Below w2.heap.size w2 _ by repeat (first | exact Below.refl _ _ | exact Nat.le_refl _ | (simp only [heap_al, heap_dr, Array.size_push]; omega) | refine Below.alloc ?_ ?_ _ | refine Below.drew ?_))).grow hg.out (fun a ha => ⟨HTB.out.nl a ha, Nat.ne_of_lt (HLB.out a ha)⟩))
      clear ho hg hloc HP HOLD
      obtain ⟨c0, c1, c2, c3, c4, c5, c6, c7, hf⟩ := HL.out.cells
      clear c0 c1 c2 c3 c4 c5
      refine hK _ _ (fun _ => HSB.out) ?_
      clear hK K
      refine wpG_takeY (i := 16) (v := ?v56) rfl (by kernel_rfl) (by kernel_rfl) (by kernel_rfl) (by kernel_rfl) (some 59) rfl (fun _ _ _ h => h) (Or.inl ⟨by rfl, ?y56⟩) (fun _ => HSB.out) ?t56
      case y56 => (intro w; go_simp; try with_reducible rfl)
      refine wpG_takeY (i := 17) (v := ?v57) rfl (by kernel_rfl) (by kernel_rfl) (by kernel_rfl) (by kernel_rfl) (some 60) rfl (fun _ _ _ h => h) (Or.inl ⟨by rfl, ?y57⟩) (fun _ => HSB.out) ?t57
      case y57 => (intro w; go_simp; try with_reducible rfl)
      refine wpG_one (i := 18) (by kernel_rfl) rfl ?q58
      intro K hK
      go_simp
      refine hK _ _ (fun h => absurd h (by decide +kernel)) ?_
      clear hK K
      refine wpG_takeY (i := 19) (v := ?v59) rfl (by kernel_rfl) (by kernel_rfl) (by kernel_rfl) (by kernel_rfl) (some 61) rfl (fun _ _ _ h => h) (Or.inl ⟨by rfl, ?y59⟩) (fun h => absurd h (by decide +kernel)) ?t59
      case y59 => (intro w; go_simp; try with_reducible rfl)
      refine wpG_takeY (i := 20) (v := ?v60) rfl (by kernel_rfl) (by kernel_rfl) (by kernel_rfl) (by kernel_rfl) (some 62) rfl (fun _ _ _ h => h) (Or.inl ⟨by rfl, ?y60⟩) (fun h => absurd h (by decide +kernel)) ?t60
      case y60 => (intro w; go_simp; try with_reducible rfl)
      refine wpG_one (i := 21) (by kernel_rfl) rfl ?q61
      intro K hK
      go_simp
      refine hK _ _ (fun h => absurd h (by decide +kernel)) ?_
      clear hK K
      refine wpG_done (by kernel_rfl) ?_ _
      go_wp2
      go_ret2
      exact ⟨rfl, HL.out.fin HTB.out HC.out HBB.out⟩
    case q53 =>
      intro K hK
      go_simp
      refine hK _ _ (fun _ => HSB.out.below (show Below wb.heap.size wb _ by repeat (first | exact Below.refl _ _ | exact Nat.le_refl _ | (simp only [heap_al, heap_dr, Array.size_push]; omega) | refine Below.alloc ?_ ?_ _ | refine Below.drew ?_))) ?_
      clear hK K
      refine wpG_one (i := 8) (by kernel_rfl) rfl ?q62
      intro K hK
      refine step_app_pr rfl _ _ rfl p.pA p.pC T.P ⟨pid, gr, 0, ⟨#[]⟩, 0⟩ rfl (HTB.out.below (show Below wb.heap.size wb _ by repeat (first | exact Below.refl _ _ | exact Nat.le_refl _ | (simp only [heap_al, heap_dr, Array.size_push]; omega) | refine Below.alloc ?_ ?_ _ | refine Below.drew ?_))).prs _ rfl (by simp only [heap_al, heap_dr, Array.getElem?_push, Array.size_push]; simp) (by omega) ?_
      intro g2 cap2 w2 ho hg hloc
      have HP := Lib.hid (afterP HTB.out (show Below wb.heap.size wb _ by repeat (first | exact Below.refl _ _ | exact Nat.le_refl _ | (simp only [heap_al, heap_dr, Array.size_push]; omega) | refine Below.alloc ?_ ?_ _ | refine Below.drew ?_)) ho.out hg.out hloc.out)
      have HOLD := Lib.hid (afterOld HTB.out hg.out)
      replace HSB := Lib.hid ((HSB.out.below (show Below wb.heap.size wb _ by repeat (first | exact Below.refl _ _ | exact Nat.le_refl _ | (simp only [heap_al, heap_dr, Array.size_push]; omega) | refine Below.alloc ?_ ?_ _ | refine Below.drew ?_))).grow hg.out (fun a ha => ⟨HTB.out.np a ha, Nat.ne_of_lt (HPB.out a ha)⟩))
      clear ho hg hloc
      refine hK _ _ (fun _ => HSB.out) ?_
      clear hK K
      refine wpG_one (i := 15) (by kernel_rfl) rfl ?q63
      intro K hK
      refine step_app rfl _ _ rfl p.lA p.lC T.ready pid rfl (HP.out.lstB (show Below w2.heap.size w2 _ by repeat (first | exact Below.refl _ _ | exact Nat.le_refl _ | (simp only [heap_al, heap_dr, Array.size_push]; omega) | refine Below.alloc ?_ ?_ _ | refine Below.drew ?_))) _ rfl (by first | (simp; done) | exact cell_of_heap (j := 0) (cs := #[.int .i64 pid]) (t := 3) (fr := (0, 0)) (HOLD.out _ _ (by first | omega | (simp only [heap_al, heap_dr, Array.size_push]; omega)) (by simp only [heap_al, heap_dr, Array.getElem?_push, Array.size_push]; simp)) rfl) (by omega) ?_
      intro g3 cap3 w3 ho hg hloc
      have HL := Lib.hid (afterL HTB.out HP.out (show Below w2.heap.size w2 _ by repeat (first | exact Below.refl _ _ | exact Nat.le_refl _ | (simp only [heap_al, heap_dr, Array.size_push]; omega) | refine Below.alloc ?_ ?_ _ | refine Below.drew ?_)) ho.out hg.out hloc.out)
      replace HSB := Lib.hid ((HSB.out.below (show Below w2.heap.size w2 _ by repeat (first | exact Below.refl _ _ | exact Nat.le_refl _ | (simp only [heap_al, heap_dr, Array.size_push]; omega) | refine Below.alloc ?_ ?_ _ | refine Below.drew ?_))).grow hg.out (fun a ha => ⟨HTB.out.nl a ha, Nat.ne_of_lt (HLB.out a ha)⟩))
      clear ho hg hloc HP HOLD
      obtain ⟨c0, c1, c2, c3, c4, c5, c6, c7, hf⟩ := HL.out.cells
      clear c0 c1 c2 c3 c4 c5
      refine hK _ _ (fun _ => HSB.out) ?_
      clear hK K
      refine wpG_takeY (i := 16) (v := ?v64) rfl (by kernel_rfl) (by kernel_rfl) (by kernel_rfl) (by kernel_rfl) (some 59) rfl (fun _ _ _ h => h) (Or.inl ⟨by rfl, ?y64⟩) (fun _ => HSB.out) ?t64
      case y64 => (intro w; go_simp; try with_reducible rfl)
      refine wpG_takeY (i := 17) (v := ?v65) rfl (by kernel_rfl) (by kernel_rfl) (by kernel_rfl) (by kernel_rfl) (some 60) rfl (fun _ _ _ h => h) (Or.inl ⟨by rfl, ?y65⟩) (fun _ => HSB.out) ?t65
      case y65 => (intro w; go_simp; try with_reducible rfl)
      refine wpG_one (i := 18) (by kernel_rfl) rfl ?q66
      intro K hK
      go_simp
      refine hK _ _ (fun h => absurd h (by decide +kernel)) ?_
      clear hK K
      refine wpG_takeY (i := 19) (v := ?v67) rfl (by kernel_rfl) (by kernel_rfl) (by kernel_rfl) (by kernel_rfl) (some 61) rfl (fun _ _ _ h => h) (Or.inl ⟨by rfl, ?y67⟩) (fun h => absurd h (by decide +kernel)) ?t67
      case y67 => (intro w; go_simp; try with_reducible rfl)
      refine wpG_takeY (i := 20) (v := ?v68) rfl (by kernel_rfl) (by kernel_rfl) (by kernel_rfl) (by kernel_rfl) (some 62) rfl (fun _ _ _ h => h) (Or.inl ⟨by rfl, ?y68⟩) (fun h => absurd h (by decide +kernel)) ?t68
      case y68 => (intro w; go_simp; try with_reducible rfl)
      refine wpG_one (i := 21) (by kernel_rfl) rfl ?q69
      intro K hK
      go_simp
      refine hK _ _ (fun h => absurd h (by decide +kernel)) ?_
      clear hK K
      refine wpG_done (by kernel_rfl) ?_ _
      go_wp2
      go_ret2
      exact ⟨rfl, HL.out.fin HTB.out HC.out HBB.out⟩
  case q52 =>
    intro K hK
    go_simp
    refine hK _ _ (fun _ => HSB.out.below (show Below wb.heap.size wb _ by repeat (first | exact Below.refl _ _ | exact Nat.le_refl _ | (simp only [heap_al, heap_dr, Array.size_push]; omega) | refine Below.alloc ?_ ?_ _ | refine Below.drew ?_))) ?_
    clear hK K
    refine wpG_one (i := 7) (by kernel_rfl) rfl ?q70
    intro K hK
    go_simp
    refine hK _ _ (fun _ => HSB.out.below (show Below wb.heap.size wb _ by repeat (first | exact Below.refl _ _ | exact Nat.le_refl _ | (simp only [heap_al, heap_dr, Array.size_push]; omega) | refine Below.alloc ?_ ?_ _ | refine Below.drew ?_))) ?_
    clear hK K
    refine wpG_one (i := 8) (by kernel_rfl) rfl ?q71
    intro K hK
    refine step_app_pr rfl _ _ rfl p.pA p.pC T.P ⟨pid, gr, 0, ⟨#[]⟩, 0⟩ rfl (HTB.out.below (show Below wb.heap.size wb _ by repeat (first | exact Below.refl _ _ | exact Nat.le_refl _ | (simp only [heap_al, heap_dr, Array.size_push]; omega) | refine Below.alloc ?_ ?_ _ | refine Below.drew ?_))).prs _ rfl (by simp only [heap_al, heap_dr, Array.getElem?_push, Array.size_push]; simp) (by omega) ?_
    intro g2 cap2 w2 ho hg hloc
    have HP := Lib.hid (afterP HTB.out (show Below wb.heap.size wb _ by repeat (first | exact Below.refl _ _ | exact Nat.le_refl _ | (simp only [heap_al, heap_dr, Array.size_push]; omega) | refine Below.alloc ?_ ?_ _ | refine Below.drew ?_)) ho.out hg.out hloc.out)
    have HOLD := Lib.hid (afterOld HTB.out hg.out)
    replace HSB := Lib.hid ((HSB.out.below (show Below wb.heap.size wb _ by repeat (first | exact Below.refl _ _ | exact Nat.le_refl _ | (simp only [heap_al, heap_dr, Array.size_push]; omega) | refine Below.alloc ?_ ?_ _ | refine Below.drew ?_))).grow hg.out (fun a ha => ⟨HTB.out.np a ha, Nat.ne_of_lt (HPB.out a ha)⟩))
    clear ho hg hloc
    refine hK _ _ (fun _ => HSB.out) ?_
    clear hK K
    refine wpG_one (i := 15) (by kernel_rfl) rfl ?q72
    intro K hK
    refine step_app rfl _ _ rfl p.lA p.lC T.ready pid rfl (HP.out.lstB (show Below w2.heap.size w2 _ by repeat (first | exact Below.refl _ _ | exact Nat.le_refl _ | (simp only [heap_al, heap_dr, Array.size_push]; omega) | refine Below.alloc ?_ ?_ _ | refine Below.drew ?_))) _ rfl (by first | (simp; done) | exact cell_of_heap (j := 0) (cs := #[.int .i64 pid]) (t := 3) (fr := (0, 0)) (HOLD.out _ _ (by first | omega | (simp only [heap_al, heap_dr, Array.size_push]; omega)) (by simp only [heap_al, heap_dr, Array.getElem?_push, Array.size_push]; simp)) rfl) (by omega) ?_
    intro g3 cap3 w3 ho hg hloc
    have HL := Lib.hid (afterL HTB.out HP.out (show Below w2.heap.size w2 _ by repeat (first | exact Below.refl _ _ | exact Nat.le_refl _ | (simp only [heap_al, heap_dr, Array.size_push]; omega) | refine Below.alloc ?_ ?_ _ | refine Below.drew ?_)) ho.out hg.out hloc.out)
    replace HSB := Lib.hid ((HSB.out.below (show Below w2.heap.size w2 _ by repeat (first | exact Below.refl _ _ | exact Nat.le_refl _ | (simp only [heap_al, heap_dr, Array.size_push]; omega) | refine Below.alloc ?_ ?_ _ | refine Below.drew ?_))).grow hg.out (fun a ha => ⟨HTB.out.nl a ha, Nat.ne_of_lt (HLB.out a ha)⟩))
    clear ho hg hloc HP HOLD
    obtain ⟨c0, c1, c2, c3, c4, c5, c6, c7, hf⟩ := HL.out.cells
    clear c0 c1 c2 c3 c4 c5
    refine hK _ _ (fun _ => HSB.out) ?_
    clear hK K
    refine wpG_takeY (i := 16) (v := ?v73) rfl (by kernel_rfl) (by kernel_rfl) (by kernel_rfl) (by kernel_rfl) (some 59) rfl (fun _ _ _ h => h) (Or.inl ⟨by rfl, ?y73⟩) (fun _ => HSB.out) ?t73
    case y73 => (intro w; go_simp; try with_reducible rfl)
    refine wpG_takeY (i := 17) (v := ?v74) rfl (by kernel_rfl) (by kernel_rfl) (by kernel_rfl) (by kernel_rfl) (some 60) rfl (fun _ _ _ h => h) (Or.inl ⟨by rfl, ?y74⟩) (fun _ => HSB.out) ?t74
    case y74 => (intro w; go_simp; try with_reducible rfl)
    refine wpG_one (i := 18) (by kernel_rfl) rfl ?q75
    intro K hK
    go_simp
    refine hK _ _ (fun h => absurd h (by decide +kernel)) ?_
    clear hK K
    refine wpG_takeY (i := 19) (v := ?v76) rfl (by kernel_rfl) (by kernel_rfl) (by kernel_rfl) (by kernel_rfl) (some 61) rfl (fun _ _ _ h => h) (Or.inl ⟨by rfl, ?y76⟩) (fun h => absurd h (by decide +kernel)) ?t76
    case y76 => (intro w; go_simp; try with_reducible rfl)
    refine wpG_takeY (i := 20) (v := ?v77) rfl (by kernel_rfl) (by kernel_rfl) (by kernel_rfl) (by kernel_rfl) (some 62) rfl (fun _ _ _ h => h) (Or.inl ⟨by rfl, ?y77⟩) (fun h => absurd h (by decide +kernel)) ?t77
    case y77 => (intro w; go_simp; try with_reducible rfl)
    refine wpG_one (i := 21) (by kernel_rfl) rfl ?q78
    intro K hK
    go_simp
    refine hK _ _ (fun h => absurd h (by decide +kernel)) ?_
    clear hK K
    refine wpG_done (by kernel_rfl) ?_ _
    go_wp2
    go_ret2
    exact ⟨rfl, HL.out.fin HTB.out HC.out HBB.out⟩
theorem rmake_calls (T : Tb) (m : Nat) (p : RA) (c : Int) (parent : Int) (w : World) (h : RefAt w m p c T) (hc : Cnt c T) (hn : T.P.length ≤ 90000) (hr : T.ready.length ≤ 90000) :
    Calls Try.prog 40 #[.pointer (some ⟨m, 0, none⟩), .int .i64 parent] w fun e w' => e = .returned (.tuple #[.int .i64 (makeI T parent), .int .i64 (makeE T parent)]) ∧ Rx w m p (makeT T parent) w' := by
  by_cases h0 : parent = 0
  · subst h0
    by_cases h2 : 64 ≤ aliveP T.P
    · exact rmake_full T m p c 0 w h hc (Int.le_refl _) (by omega) h2 (by omega) (fun h => h.1 rfl)
    · exact rmake_zero T m p c w h hc h2 hn hr
  · cases hq : prAt T.P parent with
    | none => exact rmake_none T m p c parent w h hc h0 hq
    | some q =>
      obtain ⟨x1, x2, _⟩ := prAt_some hq
      obtain ⟨j, rfl⟩ : ∃ j : Nat, parent = (j : Int) + 1 := ⟨(parent - 1).toNat, by omega⟩
      rw [show ((j : Int) + 1 - 1).toNat = j by omega] at x2
      by_cases h2 : 64 ≤ aliveP T.P
      · exact rmake_full T m p c _ w h hc (by omega) (by omega) h2 (by omega) (fun h => by rw [hq] at h; cases h.2)
      · exact rmake_sub T m p c j w h hc x2 h2 hn hr
end Go.Proofs.Ytnbjknjnpfmklaa
