/- Contract of the reference: Tick. -/
import Derived.Test.YtnbjknjnpfmklaaP31
namespace Go.Proofs.Ytnbjknjnpfmklaa
open Go.RowKit

theorem mutL {w w1 : World} {p : RA} {n : Nat} (hg : w.grownBy w1 (Value.slice p.lA n p.lC).ownBlock) : Mut (fun k => ∃ a, p.lA = some a ∧ a.block = k) w w1 := Mut.of_grown hg fun _ hk => .inl (ownB hk)
theorem RefAt.grownL {w w' : World} {m : Nat} {p : RA} {c : Int} {T : Tb} (h : RefAt w m p c T) (hg : w.grownBy w' (Value.slice p.lA T.ready.length p.lC).ownBlock) : RCells w' m p c T := by
  have hb : w'.heap[m]? = some (.cells (refC p c T) 49 (0, 0)) := ((mutL hg).block m h.lt (fun ⟨a, ha, e⟩ => h.nl a ha e)).trans h.blk
  exact ⟨cell_of_heap hb rfl, cell_of_heap hb rfl, cell_of_heap hb rfl, cell_of_heap hb rfl, cell_of_heap hb rfl, cell_of_heap hb rfl, cell_of_heap hb rfl, cell_of_heap hb rfl, fun i => by simp [World.frozen?, hb]⟩
theorem RefAt.push1 {w w1 : World} {m : Nat} {p : RA} {c : Int} {T : Tb} {x : Int} (h : RefAt w m p c T) (g cap : Nat) (hr : w1.ownsRow 0 3 1 (.slice (some ⟨g, 0, none⟩) (T.ready.length + 1) cap) (T.ready.length + 1) (ints (T.ready ++ [x])))
    (hg : w.grownBy w1 (Value.slice p.lA T.ready.length p.lC).ownBlock) (hl : (Value.slice p.lA T.ready.length p.lC).ownBlock = some g ∨ g = w.heap.size) :
    RefAt (w1.setCell ⟨m, 6, none⟩ (.slice (some ⟨g, 0, none⟩) (T.ready.length + 1) cap)) m { p with lA := some ⟨g, 0, none⟩, lC := cap } c { T with ready := T.ready ++ [x] } := by
  have e : (T.ready ++ [x]).length = T.ready.length + 1 := by simp
  have := h.list (some ⟨g, 0, none⟩) cap (T.ready ++ [x]) (by rw [e]; exact hr) (mutL hg) fun a ha => by
    injection ha with ha
    subst ha
    rcases hl with h1 | h1
    · obtain ⟨b, hb, e2⟩ := ownB h1
      exact .inl (by rw [hb]; simp [e2])
    · exact .inr (by simp [h1])
  rw [e] at this
  exact this
theorem rpush_fp {w W : World} {m n g cap : Nat} {p : RA} (hs : w.heap.size ≤ W.heap.size) (hl : (Value.slice p.lA n p.lC).ownBlock = some g ∨ g = W.heap.size) (k : Nat) (hk : RA.fp m { p with lA := some ⟨g, 0, none⟩, lC := cap } k) : p.fp m k ∨ w.heap.size ≤ k := by
  rcases hk with e | ⟨a, ha, e⟩ | e
  · exact .inl (.inl e)
  · injection ha with ha
    subst ha
    simp only at e
    subst e
    rcases hl with h1 | h1
    · exact .inl (.inr (.inl (ownB h1)))
    · exact .inr (by omega)
  · exact .inl (.inr (.inr e))
theorem mutL_fp {S : Nat → Prop} {w w1 : World} {m : Nat} {p : RA} (h : Mut (fun k => ∃ a, p.lA = some a ∧ a.block = k) w w1) (hs : ∀ k, p.fp m k → S k) : Mut S w w1 := h.mono fun _ hk => .inl (hs _ (.inr (.inl hk)))

theorem rtick_none (T : Tb) (m : Nat) (p : RA) (c : Int) (w : World) (h : RefAt w m p c T) (hc : Cnt c T) (g : Good T) (hn : T.P.length ≤ 100000) (h0 : isB T 0 = false) :
    Calls Try.prog 42 #[.pointer (some ⟨m, 0, none⟩)] w fun e w' => e = .returned (.bool (tickB T)) ∧ Rx w m p (tickT T) w' := by
  have e1 : tickB T = false := by unfold tickB; rw [h0]; rfl
  have e2 : tickT T = T := by unfold tickT; rw [h0]; rfl
  rw [e1, e2]
  have HT := Lib.hid h
  have HC := Lib.hid hc
  have HI := Lib.hid (rstate_calls T m p c w h g hn)
  have hne : (stI T != 0) = true := by rw [stI_is T 0 (by omega)] at h0; simpa using h0
  clear h hc h0 e1 e2
  generalize stI T = st at *
  go_enter Try.func42, Try.ntmps42
  go_wp2_with (go_at_call 60; refine HI.out.mono ?_; rintro e w1 ⟨rfl, hb⟩; have HB := Lib.hid hb; clear hb)
  go_ret
  exact ⟨rfl, Rx.same (HT.out.below HB.out) HC.out (Mut.of_below HB.out)⟩

set_option maxHeartbeats 2000000 in
theorem rtick_over (T : Tb) (m : Nat) (p : RA) (c : Int) (w : World) (h : RefAt w m p c T) (hc : Cnt c T) (g : Good T) (hn : T.P.length ≤ 100000) (h0 : isB T 0 = true) (hl : T.left = 0) (hr : T.ready.length ≤ 90000) :
    Calls Try.prog 42 #[.pointer (some ⟨m, 0, none⟩)] w fun e w' => e = .returned (.bool (tickB T)) ∧ Rx w m p (tickT T) w' := by
  have e1 : tickB T = false := by unfold tickB; rw [h0, hl]; rfl
  have e2 : tickT T = overT { T with ready := T.ready ++ [T.cur] } := by unfold tickT; rw [if_pos h0, if_pos hl]; rfl
  rw [e1, e2]
  have hcq : c = T.q := by rw [hc (isB_cur h0), hl]; omega
  subst hcq
  have HT := Lib.hid h
  have HI := Lib.hid (rstate_calls T m p T.q w h g hn)
  have hst : stI T = 0 := by rw [stI_is T 0 (by omega)] at h0; simpa using h0
  rw [hst] at HI
  clear h hc h0 e1 e2 hst
  go_enter Try.func42, Try.ntmps42
  go_wp2_with (go_at_call 60; refine HI.out.mono ?_; rintro e w1 ⟨rfl, hb⟩; have HB := Lib.hid hb; have HT1 := Lib.hid (HT.out.below hb); clear hb; obtain ⟨c0, c1, c2, c3, c4, c5, c6, c7, hf⟩ := HT1.out.cells; have hlt := HT1.out.lt)
  go_quiet (fail)
  go_wp2
  obtain ⟨W, hW⟩ : ∃ W, W = w1.drewN nq := ⟨_, rfl⟩
  rw [← hW]
  replace HT1 : Hid (RefAt W m p T.q T) := Lib.hid (hW ▸ HT1.out.below ((Below.refl _ w1).dn nq))
  replace HB : Hid (Below w.heap.size w W) := Lib.hid (hW ▸ HB.out.dn nq)
  clear hW c0 c1 c2 c3 c4 c5 c6 c7 hf hlt
  obtain ⟨c0, c1, c2, c3, c4, c5, c6, c7, hf⟩ := HT1.out.cells
  have hlt := HT1.out.lt
  have HT2 : Hid (RefAt (W.drew.alloc (.cells #[.int .i64 T.cur] 3)) m p T.q T) := Lib.hid (HT1.out.below ((Below.refl _ W).drew.alloc (by simp) _))
  go_region_law (refine step_app rfl _ _ rfl p.lA p.lC T.ready T.cur rfl HT2.out.lst _ rfl (by simp) (by omega) ?_; intro b cap w2 ho hg hloc; have HO := Lib.hid ho.out; have HG := Lib.hid hg.out; have HL := Lib.hid hloc.out; clear ho hg hloc; obtain ⟨c0, c1, c2, c3, c4, c5, c6, c7, hf⟩ := HT2.out.grownL HG.out)
  all_goals have HT3 := Lib.hid (HT2.out.push1 b cap HO.out HG.out HL.out)
  all_goals have HT4 := Lib.hid (HT3.out.upd 1 (.int .i64 0) T.q (overT { T with ready := T.ready ++ [T.cur] }) (by unfold refC overT; simp) rfl rfl rfl)
  all_goals go_wp2
  all_goals go_ret
  all_goals refine ⟨rfl, _, _, HT4.out, fun h => absurd rfl h, ?_, ?_, rfl⟩
  all_goals first
    | exact rpush_fp (by have := HB.out.size; simp; omega) HL.out
    | exact (((Mut.of_below (HB.out.step2 ((Below.refl _ W).drew.alloc (by simp) _))).then (mutL_fp (mutL HG.out) fun _ h => h)).then (Mut.setCell _ _ _ _ (.inl rfl))).then (Mut.setCell _ _ _ _ (.inl rfl))

set_option maxHeartbeats 2000000 in
theorem rtick_go (T : Tb) (m : Nat) (p : RA) (c : Int) (w : World) (h : RefAt w m p c T) (hc : Cnt c T) (g : Good T) (hn : T.P.length ≤ 100000) (h0 : isB T 0 = true) (hl : T.left ≠ 0) (b1 : 0 ≤ T.left) (b2 : T.left ≤ T.q) (b7 : T.q ≤ 9223372036854775807) (b3 : 0 ≤ T.ticks) (b4 : T.ticks ≤ 9000000000000000000) (b5 : ∀ (j : Nat) (h : j < T.P.length), 0 ≤ (T.P[j]'h).ticks ∧ (T.P[j]'h).ticks ≤ 9000000000000000000) :
    Calls Try.prog 42 #[.pointer (some ⟨m, 0, none⟩)] w fun e w' => e = .returned (.bool (tickB T)) ∧ Rx w m p (tickT T) w' := by
  have e1 : tickB T = true := by unfold tickB; rw [h0, decide_eq_true hl]; rfl
  have e2 : tickT T = { T with P := setP T.P T.cur (fun p => { p with ticks := p.ticks + 1 }), left := T.left - 1, ticks := T.ticks + 1 } := by unfold tickT; rw [if_pos h0, if_neg hl]
  rw [e1, e2]
  have hcq := hc (isB_cur h0)
  have hq1 : (c == T.q) = false := by simp; omega
  have q1 : 0 ≤ c := by omega
  have q2 : c ≤ 9223372036854775806 := by omega
  have HCQ := Lib.hid hcq
  have HT := Lib.hid h
  have HI := Lib.hid (rstate_calls T m p c w h g hn)
  have hst : stI T = 0 := by rw [stI_is T 0 (by omega)] at h0; simpa using h0
  rw [hst] at HI
  obtain ⟨j, hj, e, _⟩ := isB_spec g h0
  have HE := Lib.hid e
  obtain ⟨b6, b8⟩ := b5 j hj
  have j0 : (0 : Int) ≤ (j : Int) := by omega
  have j1 : (j : Int) < (T.P.length : Int) := by omega
  have j3 : ((j : Int) + 1) - 1 = (j : Int) := by omega
  clear h hc h0 e1 e2 hst g b5 hcq e
  go_enter Try.func42, Try.ntmps42
  go_wp2_with (go_at_call 60; refine HI.out.mono ?_; rintro e w1 ⟨rfl, hb⟩; have HB := Lib.hid hb; have HT1 := Lib.hid (HT.out.below hb); clear hb; obtain ⟨c0, c1, c2, c3, c4, c5, c6, c7, hf⟩ := HT1.out.cells; have hlt := HT1.out.lt; rw [HE.out] at c1; obtain ⟨b, hA, hb, hbm, hC, hfb, p0, p1, p2, p3, p4⟩ := HT1.out.pcells j hj; rw [hA] at c7; have HA := Lib.hid hA; clear hA p0 p1 p2 p3 hC)
  go_quiet (fail)
  go_wp2
  obtain ⟨W, hW⟩ : ∃ W, W = ((w1.drewN nq).setCell ⟨m, 2, none⟩ (.int .i64 (c + 1))).setCell ⟨m, 3, none⟩ (.int .i64 (T.ticks + 1)) := ⟨_, rfl⟩
  rw [← hW]
  have HT2 : Hid (RefAt W m p (c + 1) { T with ticks := T.ticks + 1 }) := Lib.hid (hW ▸ ((HT1.out.below ((Below.refl _ w1).dn nq)).upd 2 (.int .i64 (c + 1)) (c + 1) T (by unfold refC; simp) rfl rfl rfl).upd 3 (.int .i64 (T.ticks + 1)) (c + 1) { T with ticks := T.ticks + 1 } (by unfold refC; simp) rfl rfl rfl)
  have HM2 : Hid (Mut (p.fp m) w W) := Lib.hid (hW ▸ (((Mut.of_below (HB.out.dn nq)).then (Mut.setCell _ _ _ _ (.inl rfl))).then (Mut.setCell _ _ _ _ (.inl rfl))))
  clear hW c0 c1 c2 c3 c4 c5 c6 c7 hf hlt hfb p4 hb
  obtain ⟨c0, c1, c2, c3, c4, c5, c6, c7, hf⟩ := HT2.out.cells
  simp only at c0 c1 c2 c3 c4 c5 c6 c7
  rw [HE.out] at c1
  obtain ⟨b', hA, hb, _, _, hfb, _, _, _, _, p4⟩ := HT2.out.pcells j hj
  simp only at p4
  rw [hA] at c7
  obtain rfl : b = b' := (by have := HA.out.symm.trans hA; simpa using this)
  clear hA
  go_region
  go_wp2
  go_ret
  have HT3 := HT2.out.put b j 4 HA.out hj (by omega) (.int .i64 (T.P[j].ticks + 1)) (fun p => { p with ticks := p.ticks + 1 }) rfl
  refine ⟨rfl, p, c + 1, (HT3.below (Below.refl _ _).drew).as rfl rfl rfl rfl (by rw [HE.out]) rfl rfl, fun _ => ?_, ?_, fun _ => .inl, rfl⟩
  · have := HCQ.out
    show c + 1 = T.q - (T.left - 1)
    omega
  · exact (HM2.out.then (Mut.setCell _ _ _ _ (.inr (.inr ⟨_, HA.out, rfl⟩)))).then (Mut.of_below (Below.refl _ _).drew)
theorem rtick_calls (T : Tb) (m : Nat) (p : RA) (c : Int) (w : World) (h : RefAt w m p c T) (hc : Cnt c T) (n : Nat) (q : Int) (s : List Int) (f : Fit n q s T) (hn : n ≤ 90000) (hq : q ≤ 9223372036854775807) :
    Calls Try.prog 42 #[.pointer (some ⟨m, 0, none⟩)] w fun e w' => e = .returned (.bool (tickB T)) ∧ Rx w m p (tickT T) w' := by
  have h1 := f.np
  have h2 := f.nr
  have h3 := f.t0
  have h4 := f.t1
  have h5 := f.q
  cases h0 : isB T 0 with
  | false => exact rtick_none T m p c w h hc f.good (by omega) h0
  | true =>
    by_cases hl : T.left = 0
    · exact rtick_over T m p c w h hc f.good (by omega) h0 hl (by omega)
    · exact rtick_go T m p c w h hc f.good (by omega) h0 hl f.l0 f.l1 (by omega) h3 (by omega) fun j hj => by have := f.pt j hj; omega
end Go.Proofs.Ytnbjknjnpfmklaa
