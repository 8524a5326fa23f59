/- Contract: Procs. -/
import Derived.Test.YtnbjknjnpfmklaaP20
namespace Go.Proofs.Ytnbjknjnpfmklaa
open Go.RowKit

def prC (p : Pr) : List Value := [.int .i64 p.pid, .int .i64 p.group, .int .i64 p.state, .string p.why, .int .i64 p.ticks]
def flat (l : List Pr) : List Value := l.flatMap prC
def aliveL (P : List Pr) : List Pr := P.filter fun p => decide (p.state ≠ 6)
theorem flat_len (l : List Pr) : (flat l).length = l.length * 5 := by
  induction l with
  | nil => rfl
  | cons p l ih => simp [flat, prC] at ih ⊢; omega
theorem info45 : (Try.prog.info? 45).map (fun i => (i.zero, i.size, i.bytes)) = some (some (.agg #[.int .i64 0, .int .i64 0, .int .i64 0, .string ⟨#[]⟩, .int .i64 0]), 5, 48) := by kernel_rfl
theorem app_pr {ops : Array Oper} {rest : List Oper} {o : Oper} {a : Act} {Q : Exit → Act → World → Prop} {w : World} (hgd : o.guard = none) (s x : Operand)
    (ho : o.op = .call { callee := .builtin .append, args := #[s, x], argTypes := #[40, 40] }) (B : Nat) (A : Option Addr) (C : Nat) (l : List Pr) (p : Pr)
    (hs : a.eval s = .slice A l.length C) (hown : w.ownsRow B 45 5 (.slice A l.length C) l.length (flat l)) {q : Nat} (hx : a.eval x = .slice (some ⟨q, 0, none⟩) 1 1) (hq : q = w.heap.size)
    (hn : l.length ≤ 100000) (hB : B ≤ w.heap.size)
    (h : ∀ g cap w', Hid (w'.ownsRow B 45 5 (.slice (some ⟨g, 0, none⟩) (l ++ [p]).length cap) (l ++ [p]).length (flat (l ++ [p]))) → Hid ((w.alloc (.cells #[.int .i64 p.pid, .int .i64 p.group, .int .i64 p.state, .string p.why, .int .i64 p.ticks] 45)).grownBy w' (Value.slice A l.length C).ownBlock) → Hid ((Value.slice A l.length C).ownBlock = some g ∨ g = w.heap.size + 1) → Hid (Below B w w') → wpList Try.prog ops Q rest (a.put o.dst (.slice (some ⟨g, 0, none⟩) (l ++ [p]).length cap)) w') :
    wpList Try.prog ops Q (o :: rest) a (w.alloc (.cells #[.int .i64 p.pid, .int .i64 p.group, .int .i64 p.state, .string p.why, .int .i64 p.ticks] 45)) := by
  subst hq
  obtain ⟨i0, hi, hz0, hz1, hz2⟩ := info_parts info45
  refine wpList_append_lies _ hgd s x 40 ho B 45 i0 _ 5 48 Try.underlying40 hi hz0 hz1 hz2 rfl (by decide) (.slice A l.length C) l.length (flat l) hs (hown.alloc _) ⟨w.heap.size, 0, none⟩ 1 1 (prC p) hx rfl ?c1 ?c2 (by decide) ?c3 ?c4 ?c5 _ rfl ?_
  case c1 => exact World.news_of_block (cs := #[.int .i64 p.pid, .int .i64 p.group, .int .i64 p.state, .string p.why, .int .i64 p.ticks]) (t := 45) (fr := (0, 0)) (heap_alloc_new w _)
  case c2 => intro u hu; simp [prC] at hu; rcases hu with rfl | rfl | rfl | rfl | rfl <;> rfl
  case c3 => simp only [maxLen]; omega
  case c4 => omega
  case c5 => simp; omega
  intro g cap w1 hown1 hgrow hat _
  have e1 : l.length + 1 = (l ++ [p]).length := by simp
  have e2 : flat l ++ prC p = flat (l ++ [p]) := by simp [flat]
  rw [e1, e2] at hown1
  rw [e1]
  exact h g cap w1 hown1 hgrow (Lib.hid (by simpa using hat)) (((Below.refl B w).alloc hB _).grown hgrow (by simp; omega) (fun k hk => (hown.lt k hk).1))
theorem aliveL_snoc (P : List Pr) (j : Nat) (hj : j < P.length) : aliveL (P.take (j + 1)) = aliveL (P.take j) ++ if P[j].state = 6 then [] else [P[j]] := by
  unfold aliveL
  rw [List.take_add_one, List.getElem?_eq_getElem hj, List.filter_append]
  congr 1
  by_cases h : P[j].state = 6 <;> simp [h]
theorem prD_at (P : List Pr) (j : Nat) (hj : j < P.length) : prD P ((j : Int) + 1) = P[j] := by
  unfold prD prAt
  rw [if_pos (by omega), show ((j : Int) + 1 - 1).toNat = j by omega, List.getElem?_eq_getElem hj]
  rfl
theorem oneTo_get (n j : Nat) (hj : j < n) : (ints (oneTo n))[j]? = some (.int .i64 ((j : Int) + 1)) := by
  simp [ints, oneTo, hj]

set_option maxRecDepth 100000 in
set_option maxHeartbeats 4000000 in
theorem procs_calls (T : Tb) (tb : Nat) (p : TA) (w : World) (h : TabAt w tb p T) (hn : T.P.length ≤ 100000) :
    Calls Try.prog 23 #[.pointer (some ⟨tb, 0, none⟩)] w fun e w' => ∃ A C, e = .returned (.slice A (aliveL T.P).length C) ∧ w'.ownsRow w.heap.size 45 5 (.slice A (aliveL T.P).length C) (aliveL T.P).length (flat (aliveL T.P)) ∧ Below w.heap.size w w' := by
  have HT := Lib.hid h
  have HS := Lib.hid (sorted_calls h.map hn)
  obtain ⟨c0, c1, c2, c3, c4, c5, c6, c7, c8, hf⟩ := h.cells
  clear h
  go_enter Try.func23, Try.ntmps23
  go_wp2_with (first
    | (go_at_call 38; refine (keys_calls _ _).mono ?_; rintro e w1 ⟨rfl, rfl⟩)
    | (go_at_call 37; refine HS.out.mono ?_; rintro e w2 ⟨A, C, rfl, ho, hb⟩; have HO := Lib.hid ho; have HB := Lib.hid (((Below.refl w.heap.size w).alloc (Nat.le_refl _) (.cells #[.map (some p.mb)] 61)).step2 hb); clear ho hb))
  go_loopw [3, 16] (fun l i wr => ∃ j : Nat, j ≤ T.P.length ∧ i = .int .i64 j ∧ ∃ A3 C3, l = .slice A3 (aliveL (T.P.take j)).length C3 ∧ Hid (wr.ownsRow w.heap.size 45 5 (.slice A3 (aliveL (T.P.take j)).length C3) (aliveL (T.P.take j)).length (flat (aliveL (T.P.take j)))) ∧ Hid (Below w.heap.size w wr) ∧ Hid (wr.ownsRow w.heap.size 3 1 (.slice A T.P.length C) T.P.length (ints (oneTo T.P.length))) ∧ Hid (∀ a b : Addr, A3 = some a → A = some b → a.block ≠ b.block)) (fun _ i _ => T.P.length - (intOf i).toNat)
  case atStart => exact ⟨0, by omega, rfl, none, 0, rfl, Lib.hid (World.ownsRow_nil _ _ _ _), HB, HO, Lib.hid (fun a b ha _ => by cases ha)⟩
  case round =>
    obtain ⟨j, hj, rfl, A3, C3, rfl, ho3, hB, hO, hD⟩ := hrel
    by_cases hlt : j < T.P.length
    · obtain ⟨g, rfl, hg0, hg, _, p0⟩ := own_cell hO.out j hlt
      rw [oneTo_get _ j hlt] at p0
      have HTr := Lib.hid (HT.out.below hB.out)
      obtain ⟨c0, c1, c2, c3, c4, c5, c6, c7, c8, hf⟩ := HTr.out.cells
      have hl := HTr.out.look ((j : Int) + 1)
      have hlt2 := HTr.out.lt
      rw [prD_at _ j hlt] at hl
      have HSN := Lib.hid (aliveL_snoc T.P j hlt)
      have hL1 : (aliveL (T.P.take j)).length ≤ 100000 := by
        have h1 : (aliveL (T.P.take j)).length ≤ (T.P.take j).length := List.length_filter_le _ _
        have h2 : (T.P.take j).length ≤ j := by rw [List.length_take]; omega
        omega
      have j0 : (0 : Int) ≤ (j : Int) := by omega
      have j1 : (j : Int) < (T.P.length : Int) := by omega
      obtain ⟨L2, hL2⟩ : ∃ L2, L2 = aliveL (T.P.take (j + 1)) := ⟨_, rfl⟩
      rw [← hL2] at HSN
      have HL2 := Lib.hid hL2
      clear hL2
      generalize aliveL (T.P.take j) = L1 at *
      generalize T.P[j] = q at *
      obtain ⟨q0, q1, q2, q3, q4⟩ := q
      simp only at hl HSN
      clear c0 c1 c2 c3 c5 c6 c7 c8 hf
      by_cases h6 : q2 = 6
      · subst h6
        have hE : L2 = L1 := by rw [HSN.out]; simp
        subst hE
        go_wp2
        go_roundw
        case rel =>
          refine ⟨j + 1, by omega, by go_num, ?_⟩
          rw [← HL2.out]
          exact ⟨A3, C3, rfl, Lib.hid (ho3.out.alloc _), Lib.hid (hB.out.alloc hB.out.size _), Lib.hid (hO.out.alloc _), hD⟩
        case measure => simp [intOf]; omega
      · have h7 : (q2 != 6) = true := by simpa using h6
        have HE : Hid (L2 = L1 ++ [⟨q0, q1, q2, q3, q4⟩]) := Lib.hid (by rw [HSN.out, if_neg h6])
        go_wp2_with (at_builtin; refine app_pr rfl _ _ rfl w.heap.size A3 C3 L1 ⟨q0, q1, q2, q3, q4⟩ rfl (ho3.out.alloc _) rfl (by simp) hL1 (Nat.le_trans hB.out.size (by simp)) ?_; intro g5 C5 w5 ho5 hg5 hl5 hb5; have HO5 := Lib.hid ho5.out; have HG5 := Lib.hid hg5.out; have HL5 := Lib.hid hl5.out; have HB5 := Lib.hid ((hB.out.alloc hB.out.size _).trans hb5.out); clear ho5 hg5 hl5 hb5)
        go_roundw
        case rel =>
          refine ⟨j + 1, by omega, by go_num, ?_⟩
          rw [← HL2.out, HE.out]
          have hne : ∀ k, (Value.slice A3 L1.length C3).ownBlock = some k → g ≠ k := fun k hk e => by
            cases hA3 : A3 with
            | none => rw [hA3] at hk; cases hk
            | some a => rw [hA3] at hk; injection hk with hk; exact hD.out a ⟨g, 0, none⟩ hA3 rfl (hk.trans e.symm)
          refine ⟨_, C5, by simp, HO5, HB5, Lib.hid (((hO.out.alloc _).alloc _).kept HG5.out (.inr fun e => hne g e.symm rfl)), Lib.hid (fun a b ha hb => ?_)⟩
          injection ha with ha
          injection hb with hb
          subst ha hb
          intro e
          rcases HL5.out with h | h
          · exact hne g5 h e.symm
          · simp at h e; omega
        case measure => simp [intOf]; omega
    · obtain rfl : j = T.P.length := by omega
      go_wp2
      go_ret
      rw [List.take_length] at *
      exact ⟨A3, C3, rfl, ho3.out, hB.out⟩
end Go.Proofs.Ytnbjknjnpfmklaa
