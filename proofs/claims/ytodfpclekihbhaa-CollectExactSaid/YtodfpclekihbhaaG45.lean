/- Texts on the heap, merged: E9, E10. -/
import Derived.Test.YtodfpclekihbhaaG44
import Derived.Test.YtodfpclekihbhaaG38
/- CollectExact: the walk of the law. -/
namespace Go.Proofs.Ytodfpclekihbhaa
open Go.RowKit Go.Shelf

/-- A kept list: where it lies, its capacity, what it holds. -/
structure Ls where
  A : Option Addr
  C : Nat
  l : List Int
def lsV (v : Ls) : Value := .slice v.A v.l.length v.C
/-- What the law keeps beside a heap: the objects that could be reached, and a map of their references. -/
structure Fx (w0 : World) (K : Nat → Prop) (H0 : Hp) (WA : Option Addr) (want : List Int) (mb : Nat) (M : List (Int × Ls)) (wr : World) : Prop where
  ge : ∀ k, K k → w0.heap.size ≤ k
  rd : RdI wr WA want
  wk : ∀ a, WA = some a → K a.block ∧ a.block ≠ mb
  mp : Mp.MapIs wr mb kV lsV M
  km : K mb
  vs : ∀ x v, Mp.get M x = some v → RdI wr v.A v.l ∧ (∀ a, v.A = some a → K a.block ∧ a.block ≠ mb) ∧ v.l = refsH H0 x
variable {w0 w wr w' : World} {hb cb : Nat} {K : Nat → Prop} {H H0 : Hp} {N mb : Nat} {WA : Option Addr} {want : List Int} {M : List (Int × Ls)} {c : Cl}
theorem Fx.mut {T : Nat → Prop} (h : Fx w0 K H0 WA want mb M wr) (hm : Mut T wr w') (hT : ∀ k, K k → ¬ T k) : Fx w0 K H0 WA want mb M w' where
  ge := h.ge
  rd := h.rd.mut hm fun a ha => hT _ (h.wk a ha).1
  wk := h.wk
  mp := h.mp.of_block (hm.block _ h.mp.lt (hT _ h.km))
  km := h.km
  vs := fun x v hv => ⟨(h.vs x v hv).1.mut hm fun a ha => hT _ ((h.vs x v hv).2.1 a ha).1, (h.vs x v hv).2⟩
theorem Fx.below (h : Fx w0 K H0 WA want mb M wr) (hb : Below wr.heap.size wr w') : Fx w0 K H0 WA want mb M w' := h.mut (T := fun _ => False) (Mut.of_below hb) fun _ _ h => h
theorem Fx.off (h : Fx w0 K H0 WA want mb M wr) (hm : Mut (Off w0 K) wr w') : Fx w0 K H0 WA want mb M w' := h.mut hm fun k hk e => e.2 hk
theorem updR_run {w : World} {b : Nat} {L : List (Int × Ls)} (hmap : Mp.MapIs w b kV lsV L) (k : Int) (v : Ls) : ∃ w', (Instr.mapUpdate 92 (.map (some b)) (.int .i64 k) (.slice v.A v.l.length v.C)).run Try.prog w = .ok () w' ∧ Mp.MapIs w' b kV lsV (Mp.put L k v) ∧ Mut (· = b) w w' := by
  obtain ⟨o, h1, h2⟩ := hmap.update (P := Try.prog) Try.underlying92 Try.underlying26 kV_key kV_inj k v
  exact ⟨_, h1, h2, Mut.setB w b o rfl⟩
theorem lookR_run {w : World} {b : Nat} {L : List (Int × Ls)} (hmap : Mp.MapIs w b kV lsV L) {x : Int} {v : Ls} (hv : Mp.get L x = some v) : (Instr.lookup 92 (.map (some b)) (.int .i64 x) false).run Try.prog w = .ok (.slice v.A v.l.length v.C) w := by
  have := hmap.lookup (P := Try.prog) (z := .slice none 0 0) Try.underlying92 Try.underlying26 kV_key kV_inj (by kernel_rfl) x
  rw [show (Value.int IntKind.i64 x) = kV x from rfl, this, hv]
  rfl
/-- A heap, and what the law keeps beside it. -/
def HX (w0 : World) (hb : Nat) (H : Hp) (WA : Option Addr) (want : List Int) (mb : Nat) (M : List (Int × Ls)) (wr : World) : Prop := ∃ K, Car w0 hb K H wr ∧ Fx w0 K H WA want mb M wr
/-- A list of references is noted. -/
theorem HX.note (h : HX w0 hb H WA want mb M wr) {RA : Option Addr} {RC : Nat} {x : Int} {w2 w3 : World} (hb2 : Below wr.heap.size wr w2) (ho : w2.ownsRow wr.heap.size 26 1 (.slice RA (refsH H x).length RC) (refsH H x).length (ints (refsH H x))) (hm3 : Mp.MapIs w3 mb kV lsV (Mp.put M x ⟨RA, RC, refsH H x⟩)) (hu3 : Mut (· = mb) w2 w3) : HX w0 hb H WA want mb (Mp.put M x ⟨RA, RC, refsH H x⟩) w3 := by
  obtain ⟨K, hc, hf⟩ := h
  have hc2 := hc.keepA hb2 ho
  have hf2 := hf.below hb2
  have hne : ∀ a, RA = some a → a.block ≠ mb := fun a ha e => by
    have h1 := (own_blk ho a ha).1
    have h2 := hf.mp.lt
    omega
  have hge : ∀ k, KA K RA k → w0.heap.size ≤ k := fun k hk => by
    rcases hk with hk | ⟨a, ha, e⟩
    · exact hf.ge k hk
    · have h1 := (own_blk ho a ha).1
      have h2 := hc.bel.size
      omega
  refine ⟨KA K RA, hc2.turn hu3 fun k hk => by rw [hk]; exact ⟨hf.ge _ hf.km, .inl hf.km⟩, ⟨hge, hf2.rd.mut hu3 fun a ha e => (hf2.wk a ha).2 e, fun a ha => ⟨.inl (hf2.wk a ha).1, (hf2.wk a ha).2⟩, hm3, .inl hf.km, fun y v hv => ?_⟩⟩
  rw [Mp.get_put] at hv
  by_cases e : y = x
  · rw [if_pos e] at hv
    injection hv with hv
    subst hv
    exact ⟨(RdI.of_own ho).mut hu3 fun a ha e => hne a ha e, fun a ha => ⟨KA.has a ha, hne a ha⟩, by rw [e]⟩
  · rw [if_neg e] at hv
    obtain ⟨h1, h2, h3⟩ := hf2.vs y v hv
    exact ⟨h1.mut hu3 fun a ha e => (h2 a ha).2 e, fun a ha => ⟨.inl (h2 a ha).1, (h2 a ha).2⟩, h3⟩
/-- The beginning. -/
theorem HX.start (hc : Car w0 hb K H w) (hk : ∀ k, K k → False) {WC : Nat} (ho : w'.ownsRow w.heap.size 26 1 (.slice WA want.length WC) want.length (ints want)) (hb1 : Below w.heap.size w w') : HX w0 hb H WA want w'.heap.size [] (w'.alloc (.map #[] 0)) := by
  have hc2 := hc.keepA hb1 ho
  have ba : Below w'.heap.size w' (w'.alloc (.map #[] 0)) := (Below.refl _ _).alloc (Nat.le_refl _) _
  have hc3 := hc2.keepS (P := (· = w'.heap.size)) ba fun k hk => by rw [hk]; exact ⟨Nat.le_refl _, by simp⟩
  refine ⟨_, hc3, ⟨fun k hk1 => ?_, (RdI.of_own ho).below ba, fun a ha => ⟨.inl (KA.has a ha), fun e => by have := (own_blk ho a ha).2; omega⟩, Mp.MapIs.made w' kV lsV, .inr rfl, fun x v hv => by cases hv⟩⟩
  rcases hk1 with (hk1 | ⟨a, ha, e⟩) | hk1
  · exact (hk k hk1).elim
  · have h1 := (own_blk ho a ha).1; have h2 := hc.bel.size; omega
  · have h2 := hc2.bel.size; omega
theorem HX.below (h : HX w0 hb H WA want mb M wr) (hb' : Below wr.heap.size wr w') : HX w0 hb H WA want mb M w' := by
  obtain ⟨K, h1, h2⟩ := h
  exact ⟨K, h1.below hb', h2.below hb'⟩
theorem HX.refs (h : HX w0 hb H WA want mb M wr) (ok : Ok H N) (hN : N ≤ 1000) (r : Int) : Calls Try.prog 41 #[.pointer (some ⟨hb, 0, none⟩), .int .i64 r] wr (RfPost wr (refsH H r)) := by
  obtain ⟨K, h1, h2⟩ := h
  exact h1.refs ok hN r
/-- A collector beside them. -/
def CX (w0 : World) (hb cb : Nat) (H : Hp) (c : Cl) (H0 : Hp) (WA : Option Addr) (want : List Int) (mb : Nat) (M : List (Int × Ls)) (wr : World) : Prop := ∃ K, CC w0 hb cb K H c wr ∧ Fx w0 K H0 WA want mb M wr
theorem CX.below (h : CX w0 hb cb H c H0 WA want mb M wr) (hb' : Below wr.heap.size wr w') : CX w0 hb cb H c H0 WA want mb M w' := by
  obtain ⟨K, h1, h2⟩ := h
  exact ⟨K, h1.below hb', h2.below hb'⟩
theorem CX.quiet {P : Program} {f : FuncId} {args : Array Value} {R : Ending → World → Prop} (h : CX w0 hb cb H c H0 WA want mb M wr) (g : ∀ K', Car w0 hb K' H wr → Calls P f args wr R) : Calls P f args wr R := by
  obtain ⟨K, h1, h2⟩ := h
  exact h1.hquiet g
theorem CX.begin_ (h : CX w0 hb cb H c H0 WA want mb M wr) (ok : Ok H N) (hN : N ≤ 900) (hp : c.phase = 0) : Calls Try.prog 22 #[.pointer (some ⟨cb, 0, none⟩)] wr fun e w' => e = .returned (.int .i64 0) ∧ CX w0 hb cb (watchH H true) { c with phase := 1, colors := greyC (watchH H true) (allH H) } H0 WA want mb M w' := by
  obtain ⟨K, h1, h2⟩ := h
  exact (begin_ok h1 ok hN hp).mono fun e w' ⟨q1, q2⟩ => ⟨q1, K, q2.1, h2.off q2.2⟩
theorem CX.step {R : Int} (h : CX w0 hb cb H c H0 WA want mb M wr) (hi : CI H c N R) (hN : N ≤ 900) (hR : R ≤ 900) (n : Nat) (hn : n ≤ 1000) : Calls Try.prog 21 #[.pointer (some ⟨cb, 0, none⟩), .int .i64 (n : Int)] wr fun e w' => e = .returned (.tuple #[.bool (decide ((stepsM n H c).2.phase = 0)), .int .i64 0]) ∧ CX w0 hb cb (stepsM n H c).1 (stepsM n H c).2 H0 WA want mb M w' := by
  obtain ⟨K, h1, h2⟩ := h
  exact (step_calls h1 hi hN hR n hn).mono fun e w' ⟨q1, q2⟩ => ⟨q1, K, q2.1, h2.off q2.2⟩
theorem CX.new (h : HX w0 hb H WA want mb M wr) : Calls Try.prog 20 #[.pointer (some ⟨hb, 0, none⟩)] wr fun e w' => ∃ cb, e = .returned (.pointer (some ⟨cb, 0, none⟩)) ∧ CX w0 hb cb H newCl H WA want mb M w' := by
  obtain ⟨K, h1, h2⟩ := h
  exact (newC_calls h1).mono fun e w' ⟨cb, q1, q2, q3⟩ => ⟨cb, q1, K, q2, h2.below q3⟩
theorem CX.rd (h : CX w0 hb cb H c H0 WA want mb M wr) : RdI wr WA want := by
  obtain ⟨K, h1, h2⟩ := h
  exact h2.rd
theorem CX.look (h : CX w0 hb cb H c H0 WA want mb M wr) {x : Int} {v : Ls} (hv : Mp.get M x = some v) : (Instr.lookup 92 (.map (some mb)) (.int .i64 x) false).run Try.prog wr = .ok (.slice v.A v.l.length v.C) wr ∧ RdI wr v.A v.l ∧ v.l = refsH H0 x := by
  obtain ⟨K, h1, h2⟩ := h
  exact ⟨lookR_run h2.mp hv, (h2.vs x v hv).1, (h2.vs x v hv).2.2⟩
theorem CX.bel (h : CX w0 hb cb H c H0 WA want mb M wr) : Below w0.heap.size w0 wr := by
  obtain ⟨K, h1, h2⟩ := h
  exact h1.bel
end Go.Proofs.Ytodfpclekihbhaa

/- CollectExact: a round without other calls frees all that cannot be reached, and nothing else. -/
namespace Go.Proofs.Ytodfpclekihbhaa
open Go.RowKit Go.Shelf

theorem HX.rd {w0 wr : World} {hb mb : Nat} {H : Hp} {WA : Option Addr} {want : List Int} {M : List (Int × Ls)} (h : HX w0 hb H WA want mb M wr) : RdI wr WA want ∧ Mp.MapIs wr mb kV lsV M := by
  obtain ⟨K, h1, h2⟩ := h
  exact ⟨h2.rd, h2.mp⟩
theorem equal_same {w : World} {A A' : Option Addr} {l : List Int} (C C' : Nat) (h : RdI w A l) (h' : RdI w A' l) (hl : l.length ≤ 100000000) :
    Calls Try.prog 49 #[.slice A l.length C, .slice A' l.length C'] w fun e w' => e = .returned (.bool true) ∧ Below w.heap.size w w' :=
  (equal_ints C C' h h' hl hl).mono fun e w' ⟨h1, h2⟩ => ⟨by rw [h1, decide_eq_true rfl], h2⟩
theorem ci_begin {H : Hp} {N : Nat} (ok : Ok H N) : CI (watchH H true) { newCl with phase := 1, colors := greyC (watchH H true) (allH H) } N 0 :=
  ⟨ok.watch true, .inr (.inl rfl), by simp [newCl], fun _ => rfl, by simp [newCl]⟩
set_option maxRecDepth 100000 in
set_option maxHeartbeats 16000000 in
theorem law_exact {w : World} {A : Option Addr} (C : Nat) {l : List ActM} (h : ActsAt w A l) (hn : l.length ≤ 9223372036854775807) :
    Calls Try.prog 10 #[.slice A l.length C] w fun e w' => e = .returned (.bool true) ∧ Below w.heap.size w w' := by
  have HL := Lib.hid h
  have HN := Lib.hid hn
  clear h hn
  have hmm := @run_makeMap Try.prog
  go_enter Try.func10, Try.ntmps10
  go_wp2_with (first
    | (go_at_call 19; refine (awake18 w).mono ?_; rintro e wa ⟨rfl, hb⟩
       have HB0 := Lib.hid hb
       clear hb)
    | (go_at_call 52; refine (small18_calls C (HL.out.below HB0.out) HN.out).mono ?_; rintro e wb ⟨⟨sb, rfl, hs⟩, hb⟩
       have HS := Lib.hid hs
       have HB1 := Lib.hid (HB0.out.step2 hb)
       clear hs hb)
    | (go_at_call 12; refine (new_car wb).mono ?_; rintro e w1 ⟨hb, rfl, hc⟩
       have HC := Lib.hid hc
       clear hc))
  · go_ret
    exact ⟨rfl, HB1.out⟩
  · have hl50 : l.length ≤ 50 := (HS.out (by have hh := ‹(!sb) = false›; simpa using hh)).1
    have HSM : Hid (∀ j (h : j < l.length), ActSm (l[j]'h)) := Lib.hid (HS.out (by have hh := ‹(!sb) = false›; simpa using hh)).2
    have HLB : Hid (ActsAt wb A l) := Lib.hid (HL.out.below HB1.out)
    clear HS HL HN
    go_loopw [24] (fun p wr => ∃ (j : Nat) (H : Hp), j ≤ l.length ∧ p = .int .i64 j ∧ Hid (Car wb hb (fun _ => False) H wr ∧ Ok H j)) (fun i _ => l.length - (intOf i).toNat)
    case atStart => exact ⟨0, emptyH, Nat.zero_le _, rfl, Lib.hid ⟨HC.out, Ok.empty⟩⟩
    case round =>
      obtain ⟨j, H, hj, rfl, HH⟩ := hrel
      by_cases hlt : j < l.length
      · obtain ⟨hr, g, o, hA, hc⟩ := HLB.out.below HH.out.1.bel j hlt
        have HM : Hid (OpRd wr (l[j]'hlt).op ∧ OpSm (l[j]'hlt).op) := Lib.hid ⟨hr, (HSM.out j hlt).op⟩
        have q0 : (0 : Int) ≤ (j : Int) := by omega
        have q1 : (j : Int) < (l.length : Int) := by omega
        rw [hA]
        clear hA hr
        generalize l[j]'hlt = m at *
        obtain ⟨op, beg, units⟩ := m
        obtain ⟨⟨hg, c0, c1, c2, c3, c4, c5, c6, c7, c8, c9⟩, c10, c11⟩ := hc
        simp only at c0 c1 c2 c3 c4 c5 c6 c7 c8 c9 c10 c11 HM
        have hal : Below wr.heap.size wr (wr.alloc (.cells #[.int .i64 op.k, .int .i64 op.r, .int .i64 op.x, .int .i64 op.a, .int .i64 op.b, .string op.tx, .int .i64 op.cls, .slice op.ra op.refs.length op.rC, .slice op.wa op.words.length op.wC, .bool op.on, .bool beg, .int .i64 units] 90)) := (Below.refl _ _).alloc (Nat.le_refl _) _
        have HD := Lib.hid (do18_box (HH.out.1.below hal) HH.out.2 (by omega) op (HM.out.1.below hal) HM.out.2)
        have HO3 := Lib.hid (HH.out.2.do18 op HM.out.2)
        clear hal
        go_wp2_with (go_at_call 53; refine HD.out.mono ?_; rintro e w3 ⟨rfl, hc3⟩
                     have H3 := Lib.hid hc3.1
                     clear hc3)
        go_roundw
        case rel => exact ⟨j + 1, _, by omega, by go_num, Lib.hid ⟨H3.out, HO3.out⟩⟩
        case measure => simp [intOf]; omega
      · obtain rfl : j = l.length := by omega
        clear hlt hj HLB HSM HC
        have HOK := Lib.hid HH.out.2
        have hq := HH.out.1.all HH.out.2 (by omega)
        obtain ⟨L, hL⟩ : ∃ L, L = allH H := ⟨_, rfl⟩
        obtain ⟨W, hW⟩ : ∃ W, W = reachL H := ⟨_, rfl⟩
        rw [← hL] at hq
        have HQ := Lib.hid hq
        have hL50 : L.length ≤ 50 := by have := all_len HH.out.2; rw [← hL] at this; omega
        have hW50 : W.length ≤ 50 := by have h1 := reach_lost H; rw [← hL, ← hW] at h1; omega
        have HLE := Lib.hid hL
        have HWE := Lib.hid hW
        obtain ⟨H1, c1, H2, c2, e1, e2, e3, e4, e5, e6⟩ := exact_round HH.out.2
        rw [← hL] at e1
        have HST1 : Hid (stepsM (L.length + 1) (watchH H true) { newCl with phase := 1, colors := greyC (watchH H true) (allH H) } = (H1, c1) ∧ c1.phase = 2) := Lib.hid ⟨by rw [hL]; rw [hL] at e1; exact e1, e2⟩
        have HST2 : Hid (stepsM 1 H1 c1 = (H2, c2) ∧ c2.phase = 0) := Lib.hid ⟨e3, e4⟩
        have HEA : Hid (allH H2 = W ∧ ∀ r ∈ W, refsH H2 r = refsH H r) := Lib.hid ⟨by rw [e5, hW], fun r hr => e6 r ((mem_reachL HH.out.2).1 (by rw [← hW]; exact hr))⟩
        have HCI1 : Hid (CI H1 c1 l.length 1) := Lib.hid (by have := (ci_begin HH.out.2).steps (L.length + 1) (by omega); rw [HST1.out.1] at this; exact this)
        have HCI2 : Hid (CI H2 c2 l.length 2) := Lib.hid (by have := HCI1.out.steps 1 (by omega); rw [HST2.out.1] at this; exact this)
        clear hq hL hW e1 e2 e3 e4 e5 e6
        go_wp2_with (first
          | (go_at_call 40; refine HQ.out.mono ?_; rintro e w4 ⟨LA, LC, rfl, ho, hb1⟩
             have H4 := Lib.hid (HH.out.1.below hb1)
             clear ho hb1)
          | (go_at_call 54; refine (reached18_calls H4.out HOK.out (by omega)).mono ?_; rintro e w5 ⟨WA, WC, he, ho, hb2⟩
             rw [← HWE.out] at he ho
             subst he
             have HX0 := Lib.hid (HX.start H4.out (fun _ h => h) ho hb2)
             clear ho hb2))
        clear HQ H4 HH hmm
        generalize w5.heap.size = mb at *
        go_loopw [41] (fun p wr => ∃ (j : Nat) (M : List (Int × Ls)), j ≤ W.length ∧ p = .int .i64 j ∧ Hid (HX wb hb H WA W mb M wr) ∧ Hid (∀ x ∈ W.take j, ∃ v, Mp.get M x = some v)) (fun i _ => W.length - (intOf i).toNat)
        case atStart => exact ⟨0, [], Nat.zero_le _, rfl, HX0, Lib.hid fun x hx => by simp at hx⟩
        case round =>
          clear HX0
          obtain ⟨j, M, hj, rfl, HX1, HM⟩ := hrel
          by_cases hlt : j < W.length
          · obtain ⟨g, o, hA, hg, d0⟩ := HX1.out.rd.1 j hlt
            have q0 : (0 : Int) ≤ (j : Int) := by omega
            have q1 : (j : Int) < (W.length : Int) := by omega
            have HT : Hid (∀ M' : List (Int × Ls), (∃ v, Mp.get M' (W[j]'hlt) = some v) → (∀ x ∈ W.take j, ∃ v, Mp.get M' x = some v) → ∀ x ∈ W.take (j + 1), ∃ v, Mp.get M' x = some v) := Lib.hid fun M' h1 h2 => take_mem (P := fun x => ∃ v, Mp.get M' x = some v) hlt h2 h1
            generalize W[j]'hlt = r at *
            have HAE := Lib.hid hA
            rw [hA]
            clear hA
            have HRF := Lib.hid (HX1.out.refs HOK.out (by omega) r)
            obtain ⟨R, hR⟩ : ∃ R, R = refsH H r := ⟨_, rfl⟩
            have HRE := Lib.hid hR
            clear hR
            go_wp2_with (go_at_call 41; refine HRF.out.mono ?_; rintro e w6 ⟨RA, RC, he, ho, hb6⟩
                         obtain ⟨w7, hrun, hm7, hu7⟩ := updR_run (HX1.out.below hb6).rd.2 r ⟨RA, RC, refsH H r⟩
                         have H7 := Lib.hid (HX1.out.note hb6 ho hm7 hu7)
                         rw [← HRE.out] at he hrun
                         subst he
                         clear ho hb6 hm7 hu7)
            go_roundw
            case rel => (try rw [← HAE.out]); exact ⟨j + 1, _, by omega, by go_num, H7, Lib.hid (HT.out _ ⟨_, by rw [Mp.get_put, if_pos rfl]⟩ fun x hx => by
              rw [Mp.get_put]
              by_cases e : x = r
              · exact ⟨_, by rw [if_pos e]⟩
              · rw [if_neg e]; exact HM.out x hx)⟩
            case measure => simp [intOf]; omega
          · obtain rfl : j = W.length := by omega
            rw [List.take_length] at HM
            clear hlt hj
            have s1 : IntKind.i64.wrap ((L.length : Int) + 1) = (L.length : Int) + 1 := by rw [IntWalk.i64_in _ (by omega)]
            have ta : True := trivial
            have tb : True := trivial
            go_wp2_with (first
              | (go_at_call 20; refine (CX.new HX1.out).mono ?_; rintro e w8 ⟨cb, rfl, hc⟩
                 have D0 := Lib.hid hc
                 clear hc)
              | (go_at_call 27; refine (D0.out.quiet fun K' c => cReached_calls c HOK.out (by omega)).mono ?_; rintro e w9 ⟨QA, QC, he, ho, hb9⟩
                 rw [← HWE.out] at he ho
                 subst he
                 have D1 := Lib.hid (D0.out.below hb9)
                 have R9 := Lib.hid (RdI.of_own ho)
                 clear ho hb9)
              | (go_at_call 49; have _t := ta; refine (equal_same QC WC R9.out D1.out.rd (by omega)).mono ?_; rintro e w10 ⟨rfl, hb10⟩
                 have D2 := Lib.hid (D1.out.below hb10)
                 clear hb10 ta)
              | (go_at_call 22; refine (D2.out.begin_ HOK.out (by omega) rfl).mono ?_; rintro e w11 ⟨rfl, hc⟩
                 have D3 := Lib.hid hc
                 clear hc)
              | (go_at_call 21; have _t := tb; refine (D3.out.step (ci_begin HOK.out) (by omega) (by omega) (L.length + 1) (by omega)).mono ?_; rintro e w12 ⟨he, hc⟩
                 rw [HST1.out.1] at he hc
                 have he : e = .returned (.tuple #[.bool (decide (c1.phase = 0)), .int .i64 0]) := he
                 rw [decide_eq_false (by rw [HST1.out.2]; decide)] at he
                 subst he
                 have D4 : Hid (CX wb hb cb H1 c1 H WA W mb M w12) := Lib.hid hc
                 clear hc tb)
              | (go_at_call 21; refine (D4.out.step HCI1.out (by omega) (by omega) 1 (by omega)).mono ?_; rintro e w13 ⟨he, hc⟩
                 rw [HST2.out.1] at he hc
                 have he : e = .returned (.tuple #[.bool (decide (c2.phase = 0)), .int .i64 0]) := he
                 rw [decide_eq_true HST2.out.2] at he
                 subst he
                 have D5 : Hid (CX wb hb cb H2 c2 H WA W mb M w13) := Lib.hid hc
                 clear hc)
              | (go_at_call 40; refine (D5.out.quiet fun K' c => c.all HCI2.out.ok (by omega)).mono ?_; rintro e w14 ⟨QA2, QC2, he, ho, hb14⟩
                 rw [HEA.out.1] at he ho
                 subst he
                 have D6 := Lib.hid (D5.out.below hb14)
                 have R14 := Lib.hid (RdI.of_own ho)
                 clear ho hb14)
              | (go_at_call 49; refine (equal_same QC2 WC R14.out D6.out.rd (by omega)).mono ?_; rintro e w15 ⟨rfl, hb15⟩
                 have D7 := Lib.hid (D6.out.below hb15)
                 clear hb15))
            clear HX1 D0 D1 R9 D2 D3 D4 D5 D6 R14
            go_loopw [95] (fun p wr => ∃ (j : Nat), j ≤ W.length ∧ p = .int .i64 j ∧ Hid (CX wb hb cb H2 c2 H WA W mb M wr)) (fun i _ => W.length - (intOf i).toNat)
            case atStart => exact ⟨0, Nat.zero_le _, rfl, D7⟩
            case round =>
              clear D7
              obtain ⟨j, hj, rfl, HD⟩ := hrel
              by_cases hlt : j < W.length
              · obtain ⟨g, o, hA, hg, d0⟩ := HD.out.rd j hlt
                have q0 : (0 : Int) ≤ (j : Int) := by omega
                have q1 : (j : Int) < (W.length : Int) := by omega
                obtain ⟨v, hv⟩ := HM.out (W[j]'hlt) (List.getElem_mem _)
                have HRR : Hid (refsH H2 (W[j]'hlt) = refsH H (W[j]'hlt)) := Lib.hid (HEA.out.2 _ (List.getElem_mem _))
                generalize W[j]'hlt = r at *
                have HAE := Lib.hid hA
                rw [hA]
                clear hA
                have HV := Lib.hid hv
                have HVL : Hid (v.l = refsH H r) := Lib.hid (HD.out.look hv).2.2
                have HVN : Hid (v.l.length ≤ 100000000) := Lib.hid (by rw [HVL.out]; have h1 := refs_len' HOK.out r; have h2 := HOK.out.mu; omega)
                have HRF : Hid (∀ W', Below wr.heap.size wr W' → Calls Try.prog 41 #[.pointer (some ⟨hb, 0, none⟩), .int .i64 r] W' (RfPost W' v.l)) := Lib.hid fun W' hb' => by
                  have := (HD.out.below hb').quiet fun K' c => c.refs HCI2.out.ok (by omega) r
                  rw [HRR.out, ← HVL.out] at this
                  exact this
                have hlk : (Instr.lookup 92 (.map (some mb)) (.int .i64 r) false).run Try.prog wr.drew = .ok (.slice v.A v.l.length v.C) wr.drew := ((HD.out.below (Below.refl _ _).drew).look hv).1
                clear hv
                obtain ⟨vA, vC, vl⟩ := v
                simp only at *
                go_wp2_with (fail)
                go_region_with (first
                  | (go_at_call 41; refine (HRF.out _ (by first | exact (Below.refl _ _).drew | exact (Below.refl _ _).dn _)).mono ?_; rintro e w16 ⟨RA, RC, rfl, ho, hb16⟩
                     have HB16 := Lib.hid ((show Below wr.heap.size wr _ from by first | exact (Below.refl _ _).drew | exact (Below.refl _ _).dn _).step2 hb16)
                     have R16 := Lib.hid (RdI.of_own ho)
                     have hlk2 := ((HD.out.below HB16.out).look HV.out).1
                     clear ho hb16)
                  | (go_at_call 49; refine (equal_same RC vC R16.out (((HD.out.below HB16.out).look HV.out).2.1) HVN.out).mono ?_; rintro e w17 ⟨rfl, hb17⟩
                     have HB17 := Lib.hid (HB16.out.step2 hb17)
                     clear hb17))
                all_goals go_wp2
                all_goals go_roundw
                all_goals (first
                  | (case rel => (try rw [← HAE.out]); exact ⟨j + 1, by omega, by go_num, Lib.hid (HD.out.below HB17.out)⟩)
                  | (case measure => simp [intOf]; omega))
              · obtain rfl : j = W.length := by omega
                go_wp2
                go_ret
                exact ⟨rfl, HB1.out.trans (HD.out.bel.mono HB1.out.size)⟩
end Go.Proofs.Ytodfpclekihbhaa

