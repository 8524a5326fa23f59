/- Contracts: Tick, whole. -/
import Derived.Test.YtnbjknjnpfmklaaP5
namespace Go.Proofs.Ytnbjknjnpfmklaa
open Go.RowKit

theorem upd_run {w : World} {b : Nat} {L : List (Int × Pr)} (hmap : Mp.MapIs w b kV prV L) (k : Int) (q : Pr) : ∃ w', (Instr.mapUpdate 61 (.map (some b)) (.int .i64 k) (prV q)).run Try.prog w = .ok () w' ∧ Mp.MapIs w' b kV prV (Mp.put L k q) ∧ w.grownBy w' (some b) := by
  obtain ⟨o, h1, h2⟩ := hmap.update (P := Try.prog) Try.underlying61 Try.underlying3 kV_key kV_inj k q
  exact ⟨_, h1, h2, rfl, rfl, rfl, by rw [Mp.size_setB]; exact Nat.le_refl _, fun c _ hne => Mp.heap_setB_ne w b o c (fun e => hne (e ▸ rfl))⟩
/-- A store into the map, in a region that draws. -/
theorem step_upd {ops : Array Oper} {o : Oper} {a : Act} {K : Act → World → Prop} {Q : Exit → Act → World → Prop} {E : Prop} {w : World} (hgd : o.guard = none) (m x v : Operand)
    (ho : o.op = .mapUpdate 61 m x v) (b : Nat) (L : List (Int × Pr)) (hm : a.eval m = .map (some b)) (hmap : Mp.MapIs w b kV prV L) (k : Int) (q : Pr) (hx : a.eval x = .int .i64 k) (hv : a.eval v = prV q)
    (h : ∀ w', Hid (Mp.MapIs w' b kV prV (Mp.put L k q)) → Hid (w.grownBy w' (some b)) → K (a.put o.dst undef) w') :
    if Region.wanted o (yielded ops a.tmps) = true then Oper.wp Try.prog o a w K Q else E := by
  have hw : Region.wanted o (yielded ops a.tmps) = true := by simp [Region.wanted, hgd]
  rw [if_pos hw]
  obtain ⟨w', hrun, h2, h3⟩ := upd_run hmap k q
  unfold Oper.wp
  simp [execOp, ho, hm, hx, hv, hrun, Result.andThen]
  exact h w' h2 h3
/-- The table's cells behind a store into its map. -/
theorem TabAt.stored {w w' : World} {tb : Nat} {p : TA} {T : Tb} (h : TabAt w tb p T) (hg : w.grownBy w' (some p.mb)) : Cells w' tb p T := by
  have hb : w'.heap[tb]? = some (.cells (tabC p T) 63 (0, 0)) := (hg.block tb h.lt (fun e => h.mne (by injection e with e; exact e.symm))).trans h.blk
  exact ⟨cell_of_heap hb rfl, cell_of_heap hb rfl, cell_of_heap hb rfl, cell_of_heap hb rfl, cell_of_heap hb rfl, cell_of_heap hb rfl, cell_of_heap hb rfl, cell_of_heap hb rfl, cell_of_heap hb rfl, fun i => by simp [World.frozen?, hb]⟩
theorem mut_map {w w' : World} {b : Nat} (h : w.grownBy w' (some b)) : Mut (· = b) w w' := Mut.of_grown h fun k hk => .inl (by injection hk with hk; exact hk.symm)
theorem prAt_some {P : List Pr} {x : Int} {q : Pr} (h : prAt P x = some q) : 1 ≤ x ∧ (x - 1).toNat < P.length ∧ P[(x - 1).toNat]? = some q := by
  unfold prAt at h
  split at h
  · exact ⟨by assumption, (List.getElem?_eq_some_iff.1 h).1, h⟩
  · cases h
theorem put_setP {P : List Pr} {x : Int} {q : Pr} (h : prAt P x = some q) (f : Pr → Pr) : Mp.put (prs P) x (f q) = prs (setP P x f) := by
  obtain ⟨h1, h2, h3⟩ := prAt_some h
  rw [put_prs_old P x (f q) h1 h2]
  unfold setP
  congr 1
  apply List.ext_getElem?
  intro j
  rw [List.getElem?_set, List.getElem?_modify]
  generalize (x - 1).toNat = i at *
  by_cases e : i = j
  · subst e
    rw [if_pos rfl, if_pos h2, h3]
    simp
  · simp [e]
theorem len_setP (P : List Pr) (x : Int) (f : Pr → Pr) : (setP P x f).length = P.length := by simp [setP]

set_option maxHeartbeats 4000000 in
theorem tick_go (T : Tb) (tb : Nat) (p : TA) (w : World) (h : TabAt w tb p T) (h0 : isB T 0 = true) (hl : T.left ≠ 0) (q : Pr) (hq : prAt T.P T.cur = some q) (b1 : -9000000000000000000 ≤ T.left) (b2 : T.left ≤ 9223372036854775807) (b3 : 0 ≤ T.ticks) (b4 : T.ticks ≤ 9000000000000000000) (b5 : 0 ≤ q.ticks) (b6 : q.ticks ≤ 9000000000000000000) :
    Calls Try.prog 18 #[.pointer (some ⟨tb, 0, none⟩)] w fun e w' => e = .returned (.bool (tickB T)) ∧ Nx w tb p (tickT T) w' := by
  have e1 : tickB T = true := by unfold tickB; rw [h0, decide_eq_true hl]; rfl
  have e2 : tickT T = { T with P := setP T.P T.cur (fun p => { p with ticks := p.ticks + 1 }), left := T.left - 1, ticks := T.ticks + 1 } := by unfold tickT; rw [if_pos h0, if_neg hl]
  rw [e1, e2]
  have HPUT := Lib.hid (put_setP hq (fun p => { p with ticks := p.ticks + 1 }))
  have HT := Lib.hid h
  have HI := Lib.hid (h0 ▸ is_calls T tb p 0 w h)
  have hl2 : (T.left == 0) = false := by simpa using hl
  have hqd : prD T.P T.cur = q := by unfold prD; rw [hq]; rfl
  clear h h0 e1 e2 hq
  generalize setP T.P T.cur (fun p => { p with ticks := p.ticks + 1 }) = P' at *
  obtain ⟨q0, q1, q2, q3, q4⟩ := q
  simp only at b5 b6 HPUT
  go_enter Try.func18, Try.ntmps18
  go_wp2_with (go_at_call 34; refine HI.out.mono ?_; rintro e w1 ⟨rfl, hb⟩; have HB := Lib.hid hb; have HT1 := Lib.hid (HT.out.below hb); clear hb; obtain ⟨c0, c1, c2, c3, c4, c5, c6, c7, c8, hf⟩ := HT1.out.cells; have hlt := HT1.out.lt)
  have hk1 := (HT1.out.below (Below.refl _ w1).drew).look T.cur
  have hk2 := (HT1.out.below ((Below.refl _ w1).alloc (Nat.le_refl _) (.cells #[.int .i64 0, .int .i64 0, .int .i64 0, .string ⟨#[]⟩, .int .i64 0] 45)).drew).look T.cur
  rw [hqd] at hk1 hk2
  simp only at hk1 hk2
  go_region
  all_goals go_wp2
  all_goals obtain ⟨w2, hrun, hm, hg⟩ := upd_run (HT1.out.below ((Below.refl _ w1).alloc (Nat.le_refl _) (.cells #[.int .i64 q0, .int .i64 q1, .int .i64 q2, .string q3, .int .i64 (q4 + 1)] 45)).drew.drew).map T.cur ⟨q0, q1, q2, q3, q4 + 1⟩
  all_goals rw [HPUT.out] at hm
  all_goals simp only [prV] at hrun
  all_goals have HM := Lib.hid hm
  all_goals have HG := Lib.hid hg
  all_goals have HT2 := Lib.hid (HT1.out.below ((Below.refl _ w1).alloc (Nat.le_refl _) (.cells #[.int .i64 q0, .int .i64 q1, .int .i64 q2, .string q3, .int .i64 (q4 + 1)] 45)).drew.drew)
  all_goals obtain ⟨d0, d1, d2, d3, d4, d5, d6, d7, d8, df⟩ := HT2.out.stored HG.out
  all_goals clear hm hg
  all_goals go_region
  all_goals go_wp2
  all_goals go_ret
  all_goals have HT3 := Lib.hid ((HT2.out.store P' HM.out (mut_map HG.out)).upd 7 (.int .i64 (T.left - 1)) { T with P := P', left := T.left - 1 } (by unfold tabC; simp) rfl rfl rfl)
  all_goals have HT4 := Lib.hid (HT3.out.upd 3 (.int .i64 (T.ticks + 1)) { T with P := P', left := T.left - 1, ticks := T.ticks + 1 } (by unfold tabC; simp) rfl rfl rfl)
  all_goals exact ⟨rfl, Nx.same HT4.out ((((Mut.of_below (HB.out.step2 ((Below.refl _ w1).alloc (Nat.le_refl _) (.cells #[.int .i64 q0, .int .i64 q1, .int .i64 q2, .string q3, .int .i64 (q4 + 1)] 45)).drew.drew)).then ((mut_map HG.out).mono fun k hk => .inl (.inr (.inl hk)))).then (Mut.setCell _ _ _ _ (.inl rfl))).then (Mut.setCell _ _ _ _ (.inl rfl)))⟩
end Go.Proofs.Ytnbjknjnpfmklaa
