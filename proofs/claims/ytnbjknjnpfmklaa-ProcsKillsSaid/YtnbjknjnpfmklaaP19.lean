/- Contract: Wake. -/
import Derived.Test.YtnbjknjnpfmklaaP18
import Derived.Test.YtnbjknjnpfmklaaP10
namespace Go.Proofs.Ytnbjknjnpfmklaa
open Go.RowKit

/-- append of one number to a list of the call's own, in a plain region. -/
theorem app_w {ops : Array Oper} {rest : List Oper} {o : Oper} {a : Act} {Q : Exit → Act → World → Prop} {w : World} (hgd : o.guard = none) (s x : Operand)
    (ho : o.op = .call { callee := .builtin .append, args := #[s, x], argTypes := #[22, 22] }) (A : Option Addr) (C : Nat) (xs : List Int) (n : Int)
    (hs : a.eval s = .slice A xs.length C) (hown : w.ownsRow 0 3 1 (.slice A xs.length C) xs.length (ints xs)) (q : Nat) (hx : a.eval x = .slice (some ⟨q, 0, none⟩) 1 1) (hq : w.cell? ⟨q, 0, none⟩ = some (.int .i64 n))
    (hn : xs.length ≤ 100000)
    (h : ∀ g cap w', Hid (w'.ownsRow 0 3 1 (.slice (some ⟨g, 0, none⟩) (xs.length + 1) cap) (xs.length + 1) (ints (xs ++ [n]))) → Hid (w.grownBy w' (Value.slice A xs.length C).ownBlock) → Hid ((Value.slice A xs.length C).ownBlock = some g ∨ g = w.heap.size) → wpList Try.prog ops Q rest (a.put o.dst (.slice (some ⟨g, 0, none⟩) (xs.length + 1) cap)) w') :
    wpList Try.prog ops Q (o :: rest) a w := by
  obtain ⟨i0, hi, hz0, hz1, hz2⟩ := info_parts info3
  refine wpList_append_lies w hgd s x 22 ho 0 3 i0 (.int .i64 0) 1 8 Try.underlying22 hi hz0 hz1 hz2 rfl (by decide) _ xs.length (ints xs) hs hown ⟨q, 0, none⟩ 1 1 [.int .i64 n] hx rfl (one_cell hq) ?c2 (by decide) ?c3 ?c4 (Nat.zero_le _) _ rfl ?_
  case c2 => intro u hu; simp at hu; subst hu; rfl
  case c3 => simp only [maxLen]; omega
  case c4 => omega
  intro g cap w' h2 h3 h4 _
  exact h g cap w' (by rw [show ints (xs ++ [n]) = ints xs ++ [.int .i64 n] by simp [ints]]; exact h2) h3 h4

def wakeE (T : Tb) (pid : Int) : Int := match prAt T.P pid with
  | none => 4
  | some q => if q.state = 6 then 4 else if waitsB q.state = false then 6 else 0
def wakeT (T : Tb) (pid : Int) : Tb := if wakeE T pid = 0 then { T with P := setP T.P pid (fun p => { p with state := 0 }), ready := T.ready ++ [pid] } else T

theorem wake_none (T : Tb) (tb : Nat) (p : TA) (pid : Int) (w : World) (h : TabAt w tb p T) (h1 : prAt T.P pid = none) :
    Calls Try.prog 29 #[.pointer (some ⟨tb, 0, none⟩), .int .i64 pid] w fun e w' => e = .returned (.int .i64 (wakeE T pid)) ∧ Nx w tb p (wakeT T pid) w' := by
  have e1 : wakeE T pid = 4 := by unfold wakeE; rw [h1]
  have e2 : wakeT T pid = T := by unfold wakeT; rw [e1]; rfl
  rw [e1, e2]
  have HT := Lib.hid h
  have hl := h.look2 pid
  rw [h1] at hl
  simp only [Option.isSome_none] at hl
  obtain ⟨c0, c1, c2, c3, c4, c5, c6, c7, c8, hf⟩ := h.cells
  generalize prD T.P pid = q at *
  obtain ⟨q0, q1, q2, q3, q4⟩ := q
  simp only at hl
  clear h e1 e2 h1
  go_enter Try.func29, Try.ntmps29
  go_wp2
  all_goals go_ret
  all_goals exact ⟨rfl, Nx.same (HT.out.below ((Below.refl _ _).alloc (Nat.le_refl _) _)) ((Mut.refl _ _).alloc _)⟩

set_option maxHeartbeats 4000000 in
theorem wake_some (T : Tb) (tb : Nat) (p : TA) (pid : Int) (w : World) (h : TabAt w tb p T) (q : Pr) (h1 : prAt T.P pid = some q) (hr : T.ready.length ≤ 100000) :
    Calls Try.prog 29 #[.pointer (some ⟨tb, 0, none⟩), .int .i64 pid] w fun e w' => e = .returned (.int .i64 (wakeE T pid)) ∧ Nx w tb p (wakeT T pid) w' := by
  have e0 : wakeE T pid = if q.state = 6 then 4 else if waitsB q.state = false then 6 else 0 := by unfold wakeE; rw [h1]
  have HT := Lib.hid h
  have HPUT := Lib.hid (put_setP h1 (fun p => { p with state := 0 }))
  have hl := h.look2 pid
  have hqd : prD T.P pid = q := by unfold prD; rw [h1]; rfl
  rw [hqd, h1] at hl
  simp only [Option.isSome_some] at hl
  obtain ⟨c0, c1, c2, c3, c4, c5, c6, c7, c8, hf⟩ := h.cells
  have hlt := h.lt
  obtain ⟨q0, q1, q2, q3, q4⟩ := q
  simp only at hl HPUT e0
  have HW := Lib.hid (fun w => waits_calls q2 w)
  have HB1 := Lib.hid ((Below.refl w.heap.size w).alloc (Nat.le_refl _) (.cells #[.int .i64 q0, .int .i64 q1, .int .i64 q2, .string q3, .int .i64 q4] 45))
  have HN := Lib.hid (heap_alloc_new w (.cells #[.int .i64 q0, .int .i64 q1, .int .i64 q2, .string q3, .int .i64 q4] 45))
  clear h h1 hqd
  by_cases h6 : q2 = 6
  · subst h6
    have e1 : wakeE T pid = 4 := e0.trans (if_pos rfl)
    have e2 : wakeT T pid = T := by unfold wakeT; rw [e1]; rfl
    rw [e1, e2]
    clear e0 e1 e2
    go_enter Try.func29, Try.ntmps29
    go_wp2
    all_goals go_ret
    all_goals exact ⟨rfl, Nx.same (HT.out.below HB1.out) (Mut.of_below HB1.out)⟩
  · have h7 : (q2 == 6) = false := by simpa using h6
    rw [if_neg h6] at e0
    cases hw : waitsB q2 with
    | false =>
      rw [hw] at HW e0
      have e1 : wakeE T pid = 6 := e0.trans (if_pos rfl)
      have e2 : wakeT T pid = T := by unfold wakeT; rw [e1]; rfl
      rw [e1, e2]
      clear e0 e1 e2 hw
      go_enter Try.func29, Try.ntmps29
      go_wp2_with (go_at_call 52; refine (HW.out _).mono ?_; rintro e w2 ⟨rfl, hb⟩; have HB := Lib.hid (HB1.out.step2 hb); clear hb)
      all_goals go_ret
      all_goals exact ⟨rfl, Nx.same (HT.out.below HB.out) (Mut.of_below HB.out)⟩
    | true =>
      rw [hw] at HW e0
      have e1 : wakeE T pid = 0 := e0.trans (if_neg (by decide))
      have e2 : wakeT T pid = { T with P := setP T.P pid (fun p => { p with state := 0 }), ready := T.ready ++ [pid] } := by unfold wakeT; rw [e1]; rfl
      rw [e1, e2]
      generalize setP T.P pid (fun p => { p with state := 0 }) = P' at *
      clear e0 e1 e2 hw
      go_enter Try.func29, Try.ntmps29
      go_wp2_with (go_at_call 52; refine (HW.out _).mono ?_; rintro e w2 ⟨rfl, hb⟩; have HB := Lib.hid (HB1.out.step2 hb); have hn := (hb.block w.heap.size (by simp)).trans HN.out; have HN2 := Lib.hid hn; have p0 := cell_of_heap (j := 0) hn rfl; have p1 := cell_of_heap (j := 1) hn rfl; have p2 := cell_of_heap (j := 2) hn rfl; have p3 := cell_of_heap (j := 3) hn rfl; have p4 := cell_of_heap (j := 4) hn rfl; have pf : ∀ i, w2.frozen? ⟨w.heap.size, i, none⟩ = false := (fun i => by simp [World.frozen?, hn]); have HT1 := Lib.hid (HT.out.below HB.out); clear hb hn c0 c1 c2 c3 c4 c5 c6 c7 c8 hf; obtain ⟨c0, c1, c2, c3, c4, c5, c6, c7, c8, hf⟩ := HT1.out.cells; have hne : ¬ tb = w.heap.size := Nat.ne_of_lt hlt)
      have HB3 := Lib.hid ((HB.out.setCell (p := ⟨w.heap.size, 2, none⟩) (Nat.le_refl _) (.int .i64 0)).drew)
      have HT3 := Lib.hid (HT.out.below HB3.out)
      obtain ⟨w3, hrun, hm, hg⟩ := upd_run HT3.out.map pid ⟨q0, q1, 0, q3, q4⟩
      rw [HPUT.out] at hm
      simp only [prV] at hrun
      have HT4 := Lib.hid (HT3.out.store P' hm (mut_map hg))
      have HG := Lib.hid hg
      have HT5 : Hid (TabAt (w3.alloc (.cells #[.int .i64 pid] 3)) tb p _) := Lib.hid (HT4.out.below ((Below.refl _ w3).alloc (Nat.le_refl _) _))
      have hlt3 := HT4.out.lt
      clear hm hg
      go_region
      all_goals obtain ⟨d0, d1, d2, d3, d4, d5, d6, d7, d8, df⟩ := HT4.out.cells
      all_goals simp only at d0 d1 d2 d3 d4 d5 d6 d7 d8
      all_goals go_wp2_with (at_builtin; refine app_w rfl _ _ rfl p.rA p.rC T.ready pid rfl HT5.out.rdy _ rfl (by simp) hr ?_; intro g cap w4 ho hg hloc; have HO := Lib.hid ho.out; have HG4 := Lib.hid hg.out; have HL := Lib.hid hloc.out; clear ho hg hloc d0 d1 d2 d3 d4 d5 d6 d7 d8 df; obtain ⟨d0, d1, d2, d3, d4, d5, d6, d7, d8, df⟩ := HT5.out.grown HG4.out; simp only at d0 d1 d2 d3 d4 d5 d6 d7 d8)
      all_goals go_ret
      all_goals refine ⟨rfl, _, HT5.out.push1 g cap HO.out HG4.out HL.out, ?_, ?_, rfl⟩
      · exact ((((Mut.of_below HB3.out).then ((mut_map HG.out).mono fun k hk => .inl (.inr (.inl hk)))).then (Mut.of_below ((Below.refl _ w3).alloc (Nat.le_refl _) _))).then (mut1 HG4.out)).then (Mut.setCell _ _ _ _ (.inl rfl))
      · intro k hk
        rcases fp1 HL.out k hk with h | h
        · exact .inl h
        · have h1 := HB3.out.size
          have h2 := HG.out.size
          simp at h h1 h2
          exact .inr (by omega)
theorem wake_calls (T : Tb) (tb : Nat) (p : TA) (pid : Int) (w : World) (h : TabAt w tb p T) (hr : T.ready.length ≤ 100000) :
    Calls Try.prog 29 #[.pointer (some ⟨tb, 0, none⟩), .int .i64 pid] w fun e w' => e = .returned (.int .i64 (wakeE T pid)) ∧ Nx w tb p (wakeT T pid) w' := by
  cases hq : prAt T.P pid with
  | none => exact wake_none T tb p pid w h hq
  | some q => exact wake_some T tb p pid w h q hq hr
end Go.Proofs.Ytnbjknjnpfmklaa
