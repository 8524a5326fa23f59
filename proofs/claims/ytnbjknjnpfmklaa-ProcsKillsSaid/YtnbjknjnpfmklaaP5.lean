/- Contracts: Tick. -/
import Derived.Test.YtnbjknjnpfmklaaP4
import Derived.Deep.AppendLies
import Derived.Deep.RegionLaw
namespace Go.Proofs.Ytnbjknjnpfmklaa
open Go.RowKit

theorem info3 : (Try.prog.info? 3).map (fun i => (i.zero, i.size, i.bytes)) = some (some (.int .i64 0), 1, 8) := by kernel_rfl
theorem one_cell {w : World} {q : Nat} {v : Value} (h : w.cell? ⟨q, 0, none⟩ = some v) : ∀ j u, [v][j]? = some u → w.cell? ((⟨q, 0, none⟩ : Addr).add j) = some u := by
  intro j u hj
  match j, hj with
  | 0, hj => simp at hj; subst hj; exact h
/-- append of one number to a list of the call's own, in a region that draws. -/
theorem step_app {ops : Array Oper} {o : Oper} {a : Act} {K : Act → World → Prop} {Q : Exit → Act → World → Prop} {E : Prop} {w : World} (hgd : o.guard = none) (s x : Operand)
    (ho : o.op = .call { callee := .builtin .append, args := #[s, x], argTypes := #[22, 22] }) (A : Option Addr) (C : Nat) (xs : List Int) (n : Int)
    (hs : a.eval s = .slice A xs.length C) (hown : w.ownsRow 0 3 1 (.slice A xs.length C) xs.length (ints xs)) (q : Nat) (hx : a.eval x = .slice (some ⟨q, 0, none⟩) 1 1) (hq : w.cell? ⟨q, 0, none⟩ = some (.int .i64 n))
    (hn : xs.length ≤ 100000)
    (h : ∀ g cap w', Hid (w'.ownsRow 0 3 1 (.slice (some ⟨g, 0, none⟩) (xs.length + 1) cap) (xs.length + 1) (ints (xs ++ [n]))) → Hid (w.grownBy w' (Value.slice A xs.length C).ownBlock) → Hid ((Value.slice A xs.length C).ownBlock = some g ∨ g = w.heap.size) → K (a.put o.dst (.slice (some ⟨g, 0, none⟩) (xs.length + 1) cap)) w') :
    if Region.wanted o (yielded ops a.tmps) = true then Oper.wp Try.prog o a w K Q else E := by
  obtain ⟨i0, hi, hz0, hz1, hz2⟩ := info_parts info3
  refine step_append_lies w hgd s x 22 ho 0 3 i0 (.int .i64 0) 1 8 Try.underlying22 hi hz0 hz1 hz2 rfl (by decide) _ xs.length (ints xs) hs hown ⟨q, 0, none⟩ 1 1 [.int .i64 n] hx rfl (one_cell hq) ?c2 (by decide) ?c3 ?c4 (Nat.zero_le _) _ rfl ?_
  case c2 => intro u hu; simp at hu; subst hu; rfl
  case c3 => simp only [maxLen]; omega
  case c4 => omega
  intro g cap w' h2 h3 h4 _
  exact h g cap w' (by rw [show ints (xs ++ [n]) = ints xs ++ [.int .i64 n] by simp [ints]]; exact h2) h3 h4

/-- The table's cells behind an append to its ready list. -/
theorem TabAt.grown {w w' : World} {tb : Nat} {p : TA} {T : Tb} (h : TabAt w tb p T) (hg : w.grownBy w' (Value.slice p.rA T.ready.length p.rC).ownBlock) : Cells w' tb p T := by
  have hb : w'.heap[tb]? = some (.cells (tabC p T) 63 (0, 0)) := (hg.block tb h.lt (fun e => by
    cases hr : p.rA with
    | none => rw [hr] at e; cases e
    | some a => rw [hr] at e; injection e with e; exact h.nr a hr e.symm)).trans h.blk
  exact ⟨cell_of_heap hb rfl, cell_of_heap hb rfl, cell_of_heap hb rfl, cell_of_heap hb rfl, cell_of_heap hb rfl, cell_of_heap hb rfl, cell_of_heap hb rfl, cell_of_heap hb rfl, cell_of_heap hb rfl, fun i => by simp [World.frozen?, hb]⟩
theorem TabAt.push1 {w w1 : World} {tb : Nat} {p : TA} {T : Tb} {x : Int} (h : TabAt w tb p T) (g cap : Nat) (hr : w1.ownsRow 0 3 1 (.slice (some ⟨g, 0, none⟩) (T.ready.length + 1) cap) (T.ready.length + 1) (ints (T.ready ++ [x])))
    (hg : w.grownBy w1 (Value.slice p.rA T.ready.length p.rC).ownBlock) (hl : (Value.slice p.rA T.ready.length p.rC).ownBlock = some g ∨ g = w.heap.size) :
    TabAt (w1.setCell ⟨tb, 5, none⟩ (.slice (some ⟨g, 0, none⟩) (T.ready.length + 1) cap)) tb { p with rA := some ⟨g, 0, none⟩, rC := cap } { T with ready := T.ready ++ [x] } := by
  have e : (T.ready ++ [x]).length = T.ready.length + 1 := by simp
  have := h.push (some ⟨g, 0, none⟩) cap (T.ready ++ [x]) (by rw [e]; exact hr) hg fun a ha => by
    injection ha with ha
    subst ha
    rcases hl with h1 | h1
    · exact .inl h1
    · exact .inr (by simp [h1])
  rw [e] at this
  exact this
/-- Nothing but the table's own blocks turns in such a step. -/
theorem mut1 {w w1 : World} {tb : Nat} {p : TA} {n : Nat} (hg : w.grownBy w1 (Value.slice p.rA n p.rC).ownBlock) : Mut (p.fp tb) w w1 :=
  Mut.of_grown hg fun k hk => .inl (.inr (.inr (by
    cases hr : p.rA with
    | none => rw [hr] at hk; cases hk
    | some a => rw [hr] at hk; exact ⟨a, rfl, by injection hk⟩)))
theorem fp1 {tb : Nat} {p : TA} {n g cap : Nat} {w : World} (hl : (Value.slice p.rA n p.rC).ownBlock = some g ∨ g = w.heap.size) (k : Nat) (hk : TA.fp tb { p with rA := some ⟨g, 0, none⟩, rC := cap } k) : p.fp tb k ∨ w.heap.size ≤ k := by
  rcases hk with h | h | ⟨a, ha, rfl⟩
  · exact .inl (.inl h)
  · exact .inl (.inr (.inl h))
  · injection ha with ha
    subst ha
    rcases hl with h1 | h1
    · exact .inl (.inr (.inr (by
        cases hr : p.rA with
        | none => rw [hr] at h1; cases h1
        | some a => rw [hr] at h1; exact ⟨a, rfl, by injection h1⟩)))
    · exact .inr (by simp [h1])

theorem push_mut {w w1 w2 w4 : World} {tb : Nat} {p : TA} {n : Nat} {x : Int} {v : Value} (hB : Below w.heap.size w w1) (hg : (w1.drew.alloc (.cells #[.int .i64 x] 3)).grownBy w2 (Value.slice p.rA n p.rC).ownBlock) (hm : Mut (· = tb) (w2.setCell ⟨tb, 5, none⟩ v) w4) : Mut (p.fp tb) w w4 :=
  (((Mut.of_below (hB.step2 ((Below.refl _ w1).drew.alloc (by simp) _))).then (mut1 hg)).then (Mut.setCell _ _ _ _ (.inl rfl))).then (hm.mono fun k hk => .inl (.inl hk))
theorem push_fp {w w1 : World} {tb : Nat} {p : TA} {n g cap : Nat} {x : Int} (hB : Below w.heap.size w w1) (hl : (Value.slice p.rA n p.rC).ownBlock = some g ∨ g = (w1.drew.alloc (.cells #[.int .i64 x] 3)).heap.size) (k : Nat) (hk : TA.fp tb { p with rA := some ⟨g, 0, none⟩, rC := cap } k) : p.fp tb k ∨ w.heap.size ≤ k := by
  rcases fp1 hl k hk with h | h
  · exact .inl h
  · have := hB.size
    simp at h
    exact .inr (by omega)

def tickB (T : Tb) : Bool := isB T 0 && decide (T.left ≠ 0)
def tickT (T : Tb) : Tb := if isB T 0 = true then (if T.left = 0 then { T with ready := T.ready ++ [T.cur], cur := 0, left := 0 } else { T with P := setP T.P T.cur (fun p => { p with ticks := p.ticks + 1 }), left := T.left - 1, ticks := T.ticks + 1 }) else T

theorem tick_none (T : Tb) (tb : Nat) (p : TA) (w : World) (h : TabAt w tb p T) (h0 : isB T 0 = false) : Calls Try.prog 18 #[.pointer (some ⟨tb, 0, none⟩)] w fun e w' => e = .returned (.bool (tickB T)) ∧ Nx w tb p (tickT T) w' := by
  have e1 : tickB T = false := by unfold tickB; rw [h0]; rfl
  have e2 : tickT T = T := by unfold tickT; rw [h0]; rfl
  rw [e1, e2]
  have HT := Lib.hid h
  have HI := Lib.hid (h0 ▸ is_calls T tb p 0 w h)
  clear h h0
  go_enter Try.func18, Try.ntmps18
  go_wp2_with (go_at_call 34; refine HI.out.mono ?_; rintro e w1 ⟨rfl, hb⟩; have HB := Lib.hid hb; clear hb)
  go_ret
  exact ⟨rfl, Nx.same (HT.out.below HB.out) (Mut.of_below HB.out)⟩

set_option maxHeartbeats 2000000 in
theorem tick_over (T : Tb) (tb : Nat) (p : TA) (w : World) (h : TabAt w tb p T) (h0 : isB T 0 = true) (hl : T.left = 0) (hn : T.ready.length ≤ 100000) : Calls Try.prog 18 #[.pointer (some ⟨tb, 0, none⟩)] w fun e w' => e = .returned (.bool (tickB T)) ∧ Nx w tb p (tickT T) w' := by
  have e1 : tickB T = false := by unfold tickB; rw [h0, hl]; rfl
  have e2 : tickT T = overT { T with ready := T.ready ++ [T.cur] } := by unfold tickT; rw [if_pos h0, if_pos hl]; rfl
  rw [e1, e2]
  have HT := Lib.hid h
  have HI := Lib.hid (h0 ▸ is_calls T tb p 0 w h)
  clear h h0
  go_enter Try.func18, Try.ntmps18
  go_wp2_with (go_at_call 34; refine HI.out.mono ?_; rintro e w1 ⟨rfl, hb⟩; have HB := Lib.hid hb; have HT1 := Lib.hid (HT.out.below hb); clear hb; obtain ⟨c0, c1, c2, c3, c4, c5, c6, c7, c8, hf⟩ := HT1.out.cells; rw [hl] at c7; have hlt := HT1.out.lt)
  have HT2 : Hid (TabAt (w1.drew.alloc (.cells #[.int .i64 T.cur] 3)) tb p T) := Lib.hid (HT1.out.below ((Below.refl _ w1).drew.alloc (by simp) _))
  go_region_law (refine step_app rfl _ _ rfl p.rA p.rC T.ready T.cur rfl HT2.out.rdy _ rfl (by simp) hn ?_; intro g cap w2 ho hg hloc; have HO := Lib.hid ho.out; have HG := Lib.hid hg.out; have HL := Lib.hid hloc.out; clear ho hg hloc; obtain ⟨c0, c1, c2, c3, c4, c5, c6, c7, c8, hf⟩ := HT2.out.grown HG.out)
  all_goals have HT3 := Lib.hid (HT2.out.push1 g cap HO.out HG.out HL.out)
  all_goals go_wp2_with (go_at_call 35; refine (over_calls _ tb _ _ HT3.out).mono ?_; rintro e w4 ⟨rfl, ht4, hm4⟩; have HT4 := Lib.hid ht4; have HM4 := Lib.hid hm4; clear ht4 hm4)
  all_goals go_ret
  all_goals exact ⟨rfl, _, HT4.out, push_mut HB.out HG.out HM4.out, push_fp HB.out HL.out, rfl⟩
end Go.Proofs.Ytnbjknjnpfmklaa
