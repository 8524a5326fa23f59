/- The law: killing ends just these, and leaves all others. -/
import Derived.Test.YtnbjknjnpfmklaaP48
import Derived.IntWalk
namespace Go.Proofs.Ytnbjknjnpfmklaa
open Go.RowKit

theorem PrsAt.mut {S : Nat → Prop} {w w' : World} {A : Option Addr} {l : List Pr} (h : PrsAt w A l) (hm : Mut S w w') (hn : ∀ a, A = some a → ¬ S a.block) : PrsAt w' A l := fun j hj => by
  obtain ⟨g, h1, h2, h3, h4, h5, h6, h7⟩ := h j hj
  have hs := hn _ h1
  exact ⟨g, h1, Nat.lt_of_lt_of_le h2 hm.size, (hm.cell h2 hs).trans h3, (hm.cell h2 hs).trans h4, (hm.cell h2 hs).trans h5, (hm.cell h2 hs).trans h6, (hm.cell h2 hs).trans h7⟩
/-- What the law's walk carries behind Kill. -/
structure KzAt (w w3 : World) (tb : Nat) (p : TA) (T : Tb) : Prop where
  tab : TabAt w3 tb p T
  out : Below w.heap.size w w3
theorem kill_step {w w1 w2 : World} {tb : Nat} {p : TA} {T2 : Tb} {A1 : Option Addr} {L : List Pr} (hw : Below w.heap.size w w1) (hp : PrsAt w1 A1 L) (hA : ∀ a, A1 = some a → ¬ p.fp tb a.block) (hf : ∀ k, p.fp tb k → w.heap.size ≤ k) (hx : Nx w1 tb p T2 w2) : PrsAt w2 A1 L ∧ ∃ p', KzAt w w2 tb p' T2 := by
  obtain ⟨p', h1, h2, _, _⟩ := hx
  exact ⟨hp.mut h2 hA, p', h1, hw.trans (h2.to_below hw.size hf)⟩
set_option maxRecDepth 100000 in
set_option maxHeartbeats 8000000 in
theorem kills_one (q : Int) (A lA : Option Addr) (C lC : Nat) (zs : List Int) (l : List Ac) (pid : Int) (w : World) (hq2 : q ≤ 9223372036854775807) (hA : A = none → C = 0) (hr : RowI w A zs) (hAl : ∀ a, A = some a → a.block < w.heap.size) (hl : ActsAt w lA l) (hact : ActsOk l) (hp0 : -9223372036854775808 ≤ pid) (hp1 : pid ≤ 9223372036854775807) (hg : pid.tmod 2 = 1) :
    Calls Try.prog 5 #[.agg #[.int .i64 q, .slice A zs.length C], .slice lA l.length lC, .int .i64 pid] w fun e w' => e = .returned (.bool true) ∧ Below w.heap.size w w' := by
  obtain ⟨T, hT⟩ : ∃ T, playN (newT (max q 1) zs) l = T := ⟨_, rfl⟩
  have HTE := Lib.hid hT
  have HFT : Hid (Fit l.length (max q 1) zs T) := Lib.hid (hT ▸ (Fit.new (max q 1) zs (by omega)).play l)
  have HKE := Lib.hid (kill_end HFT.out.good pid false)
  clear hT
  have HR := Lib.hid hr
  have HL := Lib.hid hl
  have HAL := Lib.hid hAl
  have HACT := Lib.hid hact
  have HBW : Hid (Below w.heap.size w (w.alloc (.cells #[.int .i64 q, .slice A zs.length C] 32))) := Lib.hid ((Below.refl _ w).alloc (Nat.le_refl _) _)
  have HB0 : Hid (Below (w.alloc (.cells #[.int .i64 q, .slice A zs.length C] 32)).heap.size (w.alloc (.cells #[.int .i64 q, .slice A zs.length C] 32)) (w.alloc (.cells #[.int .i64 q, .slice A zs.length C] 32))) := Lib.hid (Below.refl _ _)
  clear hr hl hAl hact
  go_enter Try.func5, Try.ntmps5
  have t1 : True := trivial
  go_wp2_with (first
    | (go_at_call 9; refine (awake_calls _).mono ?_; rintro e wn ⟨rfl, hb⟩; replace HB0 := Lib.hid (HB0.out.step2 hb); clear hb; (try clear r0 r1); have r0 : wn.cell? ⟨w.heap.size, 0, none⟩ = some (.int .i64 q) := (HB0.out.cell (p := ⟨w.heap.size, 0, none⟩) (by simp)).trans (cell_of_heap (heap_alloc_new w _) rfl); have r1 : wn.cell? ⟨w.heap.size, 1, none⟩ = some (.slice A zs.length C) := (HB0.out.cell (p := ⟨w.heap.size, 1, none⟩) (by simp)).trans (cell_of_heap (heap_alloc_new w _) rfl))
    | (go_at_call 13; refine (few_calls q A zs.length C lA lC l _ (HL.out.below (HBW.out.step2 HB0.out))).mono ?_; rintro e wn ⟨⟨fb, rfl, hf⟩, hb⟩; have HF := Lib.hid hf; replace HB0 := Lib.hid (HB0.out.step2 hb); clear hb hf; (try clear r0 r1); have r0 : wn.cell? ⟨w.heap.size, 0, none⟩ = some (.int .i64 q) := (HB0.out.cell (p := ⟨w.heap.size, 0, none⟩) (by simp)).trans (cell_of_heap (heap_alloc_new w _) rfl); have r1 : wn.cell? ⟨w.heap.size, 1, none⟩ = some (.slice A zs.length C) := (HB0.out.cell (p := ⟨w.heap.size, 1, none⟩) (by simp)).trans (cell_of_heap (heap_alloc_new w _) rfl); cases fb)
    | (go_at_call 14; refine (played_calls q A lA C lC zs l _ hq2 hA (HR.out.below (HBW.out.step2 HB0.out)) (fun a ha => Nat.lt_of_lt_of_le (HAL.out a ha) (HBW.out.step2 HB0.out).size) (HL.out.below (HBW.out.step2 HB0.out)) (HF.out (by first | rfl | trivial)).hs (HF.out (by first | rfl | trivial)).hl HACT.out).mono ?_; rintro e wp ⟨tb, rfl, hcz⟩; have HW := Lib.hid (HBW.out.step2 HB0.out); have HBP := Lib.hid (HB0.out.step2 hcz.out); rw [HTE.out] at hcz; have HCZ := Lib.hid hcz; clear hcz r0 r1; have r0 : wp.cell? ⟨w.heap.size, 0, none⟩ = some (.int .i64 q) := (HBP.out.cell (p := ⟨w.heap.size, 0, none⟩) (by simp)).trans (cell_of_heap (heap_alloc_new w _) rfl); have r1 : wp.cell? ⟨w.heap.size, 1, none⟩ = some (.slice A zs.length C) := (HBP.out.cell (p := ⟨w.heap.size, 1, none⟩) (by simp)).trans (cell_of_heap (heap_alloc_new w _) rfl))
    | (go_at_call 23; have _t := t1; obtain ⟨p, ht, hB, hf⟩ := HCZ.out; refine (procs_calls T tb p _ ht (by have h1 := HFT.out.np; have h2 := (HF.out (by first | rfl | trivial)).hl; omega)).mono ?_; rintro e w1 ⟨A1, C1, rfl, ho, hb⟩; have HPR := Lib.hid (PrsAt.of_own ho); have HFR : Hid (∀ a, A1 = some a → ¬ p.fp tb a.block) := Lib.hid (fun a ha hk => by have h1 := (own_blk ho a ha).1; have h2 := ht.fp_lt _ hk; omega); have HT1 := Lib.hid (ht.below hb); have HFP := Lib.hid hf; have HB1 := Lib.hid (hB.step2 hb); clear ho hb ht hB hf HCZ r0 r1; clear _t t1)
    | (go_at_call 23; refine (procs_calls (killT T pid false) tb p2 _ HKZ.out.tab (by show (killS T pid false T.P.length).1.P.length ≤ 100000; rw [killS_len]; have h1 := HFT.out.np; have h2 := (HF.out (by first | rfl | trivial)).hl; omega)).mono ?_; rintro e w3 ⟨A3, C3, rfl, ho, hb⟩; rw [HKE.out.a] at ho ⊢; have HP3 := Lib.hid (PrsAt.of_own ho); have HP1 := Lib.hid (HPR.out.below hb); have HG3 := Lib.hid (HGR.out.below hb); have HK3 : Hid (KzAt wn w3 tb p2 (killT T pid false)) := Lib.hid ⟨HKZ.out.tab.below hb, HKZ.out.out.step2 hb⟩; clear ho hb HPR HGR)
    | (go_at_call 24; refine (kill_calls T tb p pid false _ HT1.out (by have h1 := HFT.out.np; have h2 := (HF.out (by first | rfl | trivial)).hl; omega) (by have h1 := HFT.out.nr; have h2 := (HF.out (by first | rfl | trivial)).hl; omega)).mono ?_; rintro e w2 ⟨A2, C2, rfl, hrow, hnx, _⟩; have HGR := Lib.hid hrow; have HKS := kill_step HB1.out HPR.out HFR.out HFP.out hnx; clear hrow hnx HPR; obtain ⟨hpr, p2, hkz⟩ := HKS; have HPR := Lib.hid hpr; have HKZ := Lib.hid hkz; clear hpr hkz HT1 HFR HFP))
  · go_ret
    exact ⟨rfl, HBW.out.step2 HB0.out⟩
  · have hn8 : (aliveL T.P).length ≤ 200 := Nat.le_trans (List.length_filter_le _ _) (by have h1 := HFT.out.np; have h2 := (HF.out (by first | rfl | trivial)).hl; omega)
    have HN8 := Lib.hid hn8
    have HGL : Hid ((killL T pid false).length = ((aliveL T.P).filter (selP pid false)).length) := Lib.hid (by rw [HKE.out.l, List.length_map])
    rw [HGL.out]
    go_loopw [13, 14, 15] (fun n k i wr => ∃ j : Nat, j ≤ (aliveL T.P).length ∧ i = .int .i64 j ∧ n = .int .i64 ((((aliveL T.P).take j).filter fun p => !selP pid false p).length : Int) ∧ k = .int .i64 ((((aliveL T.P).take j).filter (selP pid false)).length : Int) ∧ Hid (Below w3.heap.size w3 wr)) (fun _ _ i _ => (aliveL T.P).length - (intOf i).toNat)
    case atStart => exact ⟨0, by omega, rfl, rfl, rfl, Lib.hid (Below.refl _ _)⟩
    case round =>
      obtain ⟨j, hj, rfl, rfl, rfl, hB⟩ := hrel
      have hkj : (((aliveL T.P).take j).filter (selP pid false)).length ≤ j := Nat.le_trans (List.length_filter_le _ _) (by rw [List.length_take]; omega)
      have hnj : (((aliveL T.P).take j).filter fun p => !selP pid false p).length ≤ j := Nat.le_trans (List.length_filter_le _ _) (by rw [List.length_take]; omega)
      by_cases hlt : j < (aliveL T.P).length
      · have HPA : Hid (∀ W, Below w3.heap.size w3 W → _) := Lib.hid (fun W hW => HP1.out.below hW j hlt)
        have hks := filter_snoc (aliveL T.P) (selP pid false) j hlt
        have hns := filter_snoc (aliveL T.P) (fun p => !selP pid false p) j hlt
        have hcu := HKE.out.c _ (List.getElem_mem hlt)
        have hk0 := filter_at (aliveL T.P) (selP pid false) j hlt
        have hn0 := filter_at (aliveL T.P) (fun p => !selP pid false p) j hlt
        obtain ⟨k2, hk2⟩ : ∃ k2, (((aliveL T.P).take (j + 1)).filter (selP pid false)).length = k2 := ⟨_, rfl⟩
        obtain ⟨n2, hn2⟩ : ∃ n2, (((aliveL T.P).take (j + 1)).filter fun p => !selP pid false p).length = n2 := ⟨_, rfl⟩
        rw [hk2] at hks
        rw [hn2] at hns
        have HK2 := Lib.hid hk2
        have HN2 := Lib.hid hn2
        clear hk2 hn2
        generalize (((aliveL T.P).take j).filter (selP pid false)).length = kk at *
        generalize (((aliveL T.P).take j).filter fun p => !selP pid false p).length = nn at *
        generalize (aliveL T.P)[j]'hlt = v at *
        obtain ⟨v0, v1, v2, v3, v4⟩ := v
        simp only at HPA hcu
        obtain ⟨g, rfl, hg, x0, x1, x2, x3, x4⟩ := HPA.out wr hB.out
        have j0 : (0 : Int) ≤ (j : Int) := by omega
        have j1 : (j : Int) < ((aliveL T.P).length : Int) := by omega
        by_cases hs : selP pid false ⟨v0, v1, v2, v3, v4⟩ = true
        · have hk3 := hk0 hs
          obtain ⟨hk4, hk5⟩ := List.getElem?_eq_some_iff.1 hk3
          have HGK : Hid ((killL T pid false).getD kk 0 = v0) := Lib.hid (by rw [HKE.out.l]; simp [List.getD, hk3])
          obtain ⟨g4, o4, rfl, hg4, z0⟩ := HG3.out.below hB.out kk (by rw [HGL.out]; exact hk4)
          rw [HGK.out] at z0
          have hcu2 : ((killT T pid false).cur == v0) = false := by simpa using hcu hs
          have hsel : (v0 == pid) = true := by simpa [selP] using hs
          have hks2 : k2 = kk + 1 := by rw [hks, if_pos hs]
          have hns2 : n2 = nn := by rw [hns, if_neg (by simp [hs])]; rfl
          have HKS2 := Lib.hid hks2
          have HNS2 := Lib.hid hns2
          have hk6 : (kk : Int) < (((aliveL T.P).filter (selP pid false)).length : Int) := by omega
          have hk7 : ¬ ((aliveL T.P).filter (selP pid false)).length ≤ kk := by omega
          have kk0 : (0 : Int) ≤ (kk : Int) := by omega
          clear hk3 hk5 hks hns hk0 hn0 hs hks2 hns2 hcu
          go_wp2
          go_region_held3 (fun w' => w'.cell? ⟨g4, o4 + kk, none⟩ = some (.int .i64 v0) ∧ w'.cell? ⟨g, j * 5, none⟩ = some (.int .i64 v0) ∧ Hid (Below w3.heap.size w3 w'))
            (((try go_split_ands); (repeat' apply And.intro) <;> first | exact keep3 hb (by assumption) | assumption | exact Lib.hid (Below.step2 (Hid.out (by assumption)) hb) | exact Lib.hid (Below.drew (Hid.out (by assumption))) | go_keep))
            (first
              | (go_at_call 17; (try go_split_ands); refine (current_b (killT T pid false) tb p2 _ (HK3.out.tab.below (Hid.out (by assumption)))).mono ?_; rintro e w1 ⟨rfl, hb⟩))
          all_goals have HBZ : Hid (Below w3.heap.size w3 w1) := (by (try go_split_ands); assumption)
          all_goals go_wp2
          all_goals go_roundw
          case rel => exact ⟨j + 1, by omega, by go_num, by rw [HN2.out, HNS2.out], by rw [HK2.out, HKS2.out]; go_num, HBZ⟩
          case measure => simp [intOf]; omega
        · have hn3 := hn0 (by simp [hs])
          obtain ⟨hn4, hn5⟩ := List.getElem?_eq_some_iff.1 hn3
          obtain ⟨g5, rfl, hg5, y0, y1, y2, y3, y4⟩ := HP3.out.below hB.out nn hn4
          rw [hn5] at y0 y1 y2 y3 y4
          simp only at y0 y1 y2 y3 y4
          have hsel : (v0 == pid) = false := by simpa [selP] using hs
          have hks2 : k2 = kk := by rw [hks, if_neg hs]; rfl
          have hns2 : n2 = nn + 1 := by rw [hns, if_pos (by simp [hs])]
          have HKS2 := Lib.hid hks2
          have HNS2 := Lib.hid hns2
          have hn6 : (nn : Int) < (((aliveL T.P).filter fun p => !selP pid false p).length : Int) := by omega
          have hn7 : ¬ ((aliveL T.P).filter fun p => !selP pid false p).length ≤ nn := by omega
          have nn0 : (0 : Int) ≤ (nn : Int) := by omega
          have hn9 : ((aliveL T.P).filter fun p => !selP pid false p).length ≤ 200 := Nat.le_trans (List.length_filter_le _ _) hn8
          clear hn3 hn5 hks hns hk0 hn0 hs hks2 hns2 hcu
          go_wp2
          go_quiet (fail)
          go_wp2
          go_roundw
          case rel => exact ⟨j + 1, by omega, by go_num, by rw [HN2.out, HNS2.out]; go_num, by rw [HK2.out, HKS2.out], Lib.hid (Below.dn hB.out _)⟩
          case measure => simp [intOf]; omega
      · obtain rfl : j = (aliveL T.P).length := by omega
        rw [List.take_length] at *
        have HE : Hid (killE T pid false = if ((aliveL T.P).filter (selP pid false)).length = 0 then 4 else 0) := Lib.hid (by
          unfold killE
          rw [← HGL.out]
          by_cases h : killL T pid false = []
          · rw [if_pos h, if_pos (by rw [h]; rfl)]
          · rw [if_neg h, if_neg (fun e => h (List.eq_nil_of_length_eq_zero e))])
        by_cases hc : ((aliveL T.P).filter (selP pid false)).length = 0
        · have HE2 := Lib.hid (HE.out.trans (if_pos hc))
          rw [HE2.out, hc]
          clear hkj hnj hc
          go_wp2
          go_ret
          exact ⟨rfl, (HW.out.step2 HK3.out.out).step2 hB.out⟩
        · have HE2 := Lib.hid (HE.out.trans (if_neg hc))
          rw [HE2.out]
          have hc2 : 0 < ((aliveL T.P).filter (selP pid false)).length := by omega
          have hc3 : (0 : Int) < (((aliveL T.P).filter (selP pid false)).length : Int) := by omega
          clear hkj hnj hc
          go_wp2
          go_ret
          exact ⟨rfl, (HW.out.step2 HK3.out.out).step2 hB.out⟩
set_option maxRecDepth 100000 in
set_option maxHeartbeats 8000000 in
theorem kills_neg (q : Int) (A lA : Option Addr) (C lC : Nat) (zs : List Int) (l : List Ac) (pid : Int) (w : World) (hq2 : q ≤ 9223372036854775807) (hA : A = none → C = 0) (hr : RowI w A zs) (hAl : ∀ a, A = some a → a.block < w.heap.size) (hl : ActsAt w lA l) (hact : ActsOk l) (hp0 : -9223372036854775808 ≤ pid) (hp1 : pid ≤ 9223372036854775807) (hg : pid.tmod 2 = -1) :
    Calls Try.prog 5 #[.agg #[.int .i64 q, .slice A zs.length C], .slice lA l.length lC, .int .i64 pid] w fun e w' => e = .returned (.bool true) ∧ Below w.heap.size w w' := by
  obtain ⟨T, hT⟩ : ∃ T, playN (newT (max q 1) zs) l = T := ⟨_, rfl⟩
  have HTE := Lib.hid hT
  have HFT : Hid (Fit l.length (max q 1) zs T) := Lib.hid (hT ▸ (Fit.new (max q 1) zs (by omega)).play l)
  have HKE := Lib.hid (kill_end HFT.out.good pid false)
  clear hT
  have HR := Lib.hid hr
  have HL := Lib.hid hl
  have HAL := Lib.hid hAl
  have HACT := Lib.hid hact
  have HBW : Hid (Below w.heap.size w (w.alloc (.cells #[.int .i64 q, .slice A zs.length C] 32))) := Lib.hid ((Below.refl _ w).alloc (Nat.le_refl _) _)
  have HB0 : Hid (Below (w.alloc (.cells #[.int .i64 q, .slice A zs.length C] 32)).heap.size (w.alloc (.cells #[.int .i64 q, .slice A zs.length C] 32)) (w.alloc (.cells #[.int .i64 q, .slice A zs.length C] 32))) := Lib.hid (Below.refl _ _)
  clear hr hl hAl hact
  go_enter Try.func5, Try.ntmps5
  have t1 : True := trivial
  go_wp2_with (first
    | (go_at_call 9; refine (awake_calls _).mono ?_; rintro e wn ⟨rfl, hb⟩; replace HB0 := Lib.hid (HB0.out.step2 hb); clear hb; (try clear r0 r1); have r0 : wn.cell? ⟨w.heap.size, 0, none⟩ = some (.int .i64 q) := (HB0.out.cell (p := ⟨w.heap.size, 0, none⟩) (by simp)).trans (cell_of_heap (heap_alloc_new w _) rfl); have r1 : wn.cell? ⟨w.heap.size, 1, none⟩ = some (.slice A zs.length C) := (HB0.out.cell (p := ⟨w.heap.size, 1, none⟩) (by simp)).trans (cell_of_heap (heap_alloc_new w _) rfl))
    | (go_at_call 13; refine (few_calls q A zs.length C lA lC l _ (HL.out.below (HBW.out.step2 HB0.out))).mono ?_; rintro e wn ⟨⟨fb, rfl, hf⟩, hb⟩; have HF := Lib.hid hf; replace HB0 := Lib.hid (HB0.out.step2 hb); clear hb hf; (try clear r0 r1); have r0 : wn.cell? ⟨w.heap.size, 0, none⟩ = some (.int .i64 q) := (HB0.out.cell (p := ⟨w.heap.size, 0, none⟩) (by simp)).trans (cell_of_heap (heap_alloc_new w _) rfl); have r1 : wn.cell? ⟨w.heap.size, 1, none⟩ = some (.slice A zs.length C) := (HB0.out.cell (p := ⟨w.heap.size, 1, none⟩) (by simp)).trans (cell_of_heap (heap_alloc_new w _) rfl); cases fb)
    | (go_at_call 14; refine (played_calls q A lA C lC zs l _ hq2 hA (HR.out.below (HBW.out.step2 HB0.out)) (fun a ha => Nat.lt_of_lt_of_le (HAL.out a ha) (HBW.out.step2 HB0.out).size) (HL.out.below (HBW.out.step2 HB0.out)) (HF.out (by first | rfl | trivial)).hs (HF.out (by first | rfl | trivial)).hl HACT.out).mono ?_; rintro e wp ⟨tb, rfl, hcz⟩; have HW := Lib.hid (HBW.out.step2 HB0.out); have HBP := Lib.hid (HB0.out.step2 hcz.out); rw [HTE.out] at hcz; have HCZ := Lib.hid hcz; clear hcz r0 r1; have r0 : wp.cell? ⟨w.heap.size, 0, none⟩ = some (.int .i64 q) := (HBP.out.cell (p := ⟨w.heap.size, 0, none⟩) (by simp)).trans (cell_of_heap (heap_alloc_new w _) rfl); have r1 : wp.cell? ⟨w.heap.size, 1, none⟩ = some (.slice A zs.length C) := (HBP.out.cell (p := ⟨w.heap.size, 1, none⟩) (by simp)).trans (cell_of_heap (heap_alloc_new w _) rfl))
    | (go_at_call 23; have _t := t1; obtain ⟨p, ht, hB, hf⟩ := HCZ.out; refine (procs_calls T tb p _ ht (by have h1 := HFT.out.np; have h2 := (HF.out (by first | rfl | trivial)).hl; omega)).mono ?_; rintro e w1 ⟨A1, C1, rfl, ho, hb⟩; have HPR := Lib.hid (PrsAt.of_own ho); have HFR : Hid (∀ a, A1 = some a → ¬ p.fp tb a.block) := Lib.hid (fun a ha hk => by have h1 := (own_blk ho a ha).1; have h2 := ht.fp_lt _ hk; omega); have HT1 := Lib.hid (ht.below hb); have HFP := Lib.hid hf; have HB1 := Lib.hid (hB.step2 hb); clear ho hb ht hB hf HCZ r0 r1; clear _t t1)
    | (go_at_call 23; refine (procs_calls (killT T pid false) tb p2 _ HKZ.out.tab (by show (killS T pid false T.P.length).1.P.length ≤ 100000; rw [killS_len]; have h1 := HFT.out.np; have h2 := (HF.out (by first | rfl | trivial)).hl; omega)).mono ?_; rintro e w3 ⟨A3, C3, rfl, ho, hb⟩; rw [HKE.out.a] at ho ⊢; have HP3 := Lib.hid (PrsAt.of_own ho); have HP1 := Lib.hid (HPR.out.below hb); have HG3 := Lib.hid (HGR.out.below hb); have HK3 : Hid (KzAt wn w3 tb p2 (killT T pid false)) := Lib.hid ⟨HKZ.out.tab.below hb, HKZ.out.out.step2 hb⟩; clear ho hb HPR HGR)
    | (go_at_call 24; refine (kill_calls T tb p pid false _ HT1.out (by have h1 := HFT.out.np; have h2 := (HF.out (by first | rfl | trivial)).hl; omega) (by have h1 := HFT.out.nr; have h2 := (HF.out (by first | rfl | trivial)).hl; omega)).mono ?_; rintro e w2 ⟨A2, C2, rfl, hrow, hnx, _⟩; have HGR := Lib.hid hrow; have HKS := kill_step HB1.out HPR.out HFR.out HFP.out hnx; clear hrow hnx HPR; obtain ⟨hpr, p2, hkz⟩ := HKS; have HPR := Lib.hid hpr; have HKZ := Lib.hid hkz; clear hpr hkz HT1 HFR HFP))
  · go_ret
    exact ⟨rfl, HBW.out.step2 HB0.out⟩
  · have hn8 : (aliveL T.P).length ≤ 200 := Nat.le_trans (List.length_filter_le _ _) (by have h1 := HFT.out.np; have h2 := (HF.out (by first | rfl | trivial)).hl; omega)
    have HN8 := Lib.hid hn8
    have HGL : Hid ((killL T pid false).length = ((aliveL T.P).filter (selP pid false)).length) := Lib.hid (by rw [HKE.out.l, List.length_map])
    rw [HGL.out]
    go_loopw [13, 14, 15] (fun n k i wr => ∃ j : Nat, j ≤ (aliveL T.P).length ∧ i = .int .i64 j ∧ n = .int .i64 ((((aliveL T.P).take j).filter fun p => !selP pid false p).length : Int) ∧ k = .int .i64 ((((aliveL T.P).take j).filter (selP pid false)).length : Int) ∧ Hid (Below w3.heap.size w3 wr)) (fun _ _ i _ => (aliveL T.P).length - (intOf i).toNat)
    case atStart => exact ⟨0, by omega, rfl, rfl, rfl, Lib.hid (Below.refl _ _)⟩
    case round =>
      obtain ⟨j, hj, rfl, rfl, rfl, hB⟩ := hrel
      have hkj : (((aliveL T.P).take j).filter (selP pid false)).length ≤ j := Nat.le_trans (List.length_filter_le _ _) (by rw [List.length_take]; omega)
      have hnj : (((aliveL T.P).take j).filter fun p => !selP pid false p).length ≤ j := Nat.le_trans (List.length_filter_le _ _) (by rw [List.length_take]; omega)
      by_cases hlt : j < (aliveL T.P).length
      · have HPA : Hid (∀ W, Below w3.heap.size w3 W → _) := Lib.hid (fun W hW => HP1.out.below hW j hlt)
        have hks := filter_snoc (aliveL T.P) (selP pid false) j hlt
        have hns := filter_snoc (aliveL T.P) (fun p => !selP pid false p) j hlt
        have hcu := HKE.out.c _ (List.getElem_mem hlt)
        have hk0 := filter_at (aliveL T.P) (selP pid false) j hlt
        have hn0 := filter_at (aliveL T.P) (fun p => !selP pid false p) j hlt
        obtain ⟨k2, hk2⟩ : ∃ k2, (((aliveL T.P).take (j + 1)).filter (selP pid false)).length = k2 := ⟨_, rfl⟩
        obtain ⟨n2, hn2⟩ : ∃ n2, (((aliveL T.P).take (j + 1)).filter fun p => !selP pid false p).length = n2 := ⟨_, rfl⟩
        rw [hk2] at hks
        rw [hn2] at hns
        have HK2 := Lib.hid hk2
        have HN2 := Lib.hid hn2
        clear hk2 hn2
        generalize (((aliveL T.P).take j).filter (selP pid false)).length = kk at *
        generalize (((aliveL T.P).take j).filter fun p => !selP pid false p).length = nn at *
        generalize (aliveL T.P)[j]'hlt = v at *
        obtain ⟨v0, v1, v2, v3, v4⟩ := v
        simp only at HPA hcu
        obtain ⟨g, rfl, hg, x0, x1, x2, x3, x4⟩ := HPA.out wr hB.out
        have j0 : (0 : Int) ≤ (j : Int) := by omega
        have j1 : (j : Int) < ((aliveL T.P).length : Int) := by omega
        by_cases hs : selP pid false ⟨v0, v1, v2, v3, v4⟩ = true
        · have hk3 := hk0 hs
          obtain ⟨hk4, hk5⟩ := List.getElem?_eq_some_iff.1 hk3
          have HGK : Hid ((killL T pid false).getD kk 0 = v0) := Lib.hid (by rw [HKE.out.l]; simp [List.getD, hk3])
          obtain ⟨g4, o4, rfl, hg4, z0⟩ := HG3.out.below hB.out kk (by rw [HGL.out]; exact hk4)
          rw [HGK.out] at z0
          have hcu2 : ((killT T pid false).cur == v0) = false := by simpa using hcu hs
          have hsel : (v0 == pid) = true := by simpa [selP] using hs
          have hks2 : k2 = kk + 1 := by rw [hks, if_pos hs]
          have hns2 : n2 = nn := by rw [hns, if_neg (by simp [hs])]; rfl
          have HKS2 := Lib.hid hks2
          have HNS2 := Lib.hid hns2
          have hk6 : (kk : Int) < (((aliveL T.P).filter (selP pid false)).length : Int) := by omega
          have hk7 : ¬ ((aliveL T.P).filter (selP pid false)).length ≤ kk := by omega
          have kk0 : (0 : Int) ≤ (kk : Int) := by omega
          clear hk3 hk5 hks hns hk0 hn0 hs hks2 hns2 hcu
          go_wp2
          go_region_held3 (fun w' => w'.cell? ⟨g4, o4 + kk, none⟩ = some (.int .i64 v0) ∧ w'.cell? ⟨g, j * 5, none⟩ = some (.int .i64 v0) ∧ Hid (Below w3.heap.size w3 w'))
            (((try go_split_ands); (repeat' apply And.intro) <;> first | exact keep3 hb (by assumption) | assumption | exact Lib.hid (Below.step2 (Hid.out (by assumption)) hb) | exact Lib.hid (Below.drew (Hid.out (by assumption))) | go_keep))
            (first
              | (go_at_call 17; (try go_split_ands); refine (current_b (killT T pid false) tb p2 _ (HK3.out.tab.below (Hid.out (by assumption)))).mono ?_; rintro e w1 ⟨rfl, hb⟩))
          all_goals have HBZ : Hid (Below w3.heap.size w3 w1) := (by (try go_split_ands); assumption)
          all_goals go_wp2
          all_goals go_roundw
          case rel => exact ⟨j + 1, by omega, by go_num, by rw [HN2.out, HNS2.out], by rw [HK2.out, HKS2.out]; go_num, HBZ⟩
          case measure => simp [intOf]; omega
        · have hn3 := hn0 (by simp [hs])
          obtain ⟨hn4, hn5⟩ := List.getElem?_eq_some_iff.1 hn3
          obtain ⟨g5, rfl, hg5, y0, y1, y2, y3, y4⟩ := HP3.out.below hB.out nn hn4
          rw [hn5] at y0 y1 y2 y3 y4
          simp only at y0 y1 y2 y3 y4
          have hsel : (v0 == pid) = false := by simpa [selP] using hs
          have hks2 : k2 = kk := by rw [hks, if_neg hs]; rfl
          have hns2 : n2 = nn + 1 := by rw [hns, if_pos (by simp [hs])]
          have HKS2 := Lib.hid hks2
          have HNS2 := Lib.hid hns2
          have hn6 : (nn : Int) < (((aliveL T.P).filter fun p => !selP pid false p).length : Int) := by omega
          have hn7 : ¬ ((aliveL T.P).filter fun p => !selP pid false p).length ≤ nn := by omega
          have nn0 : (0 : Int) ≤ (nn : Int) := by omega
          have hn9 : ((aliveL T.P).filter fun p => !selP pid false p).length ≤ 200 := Nat.le_trans (List.length_filter_le _ _) hn8
          clear hn3 hn5 hks hns hk0 hn0 hs hks2 hns2 hcu
          go_wp2
          go_quiet (fail)
          go_wp2
          go_roundw
          case rel => exact ⟨j + 1, by omega, by go_num, by rw [HN2.out, HNS2.out]; go_num, by rw [HK2.out, HKS2.out], Lib.hid (Below.dn hB.out _)⟩
          case measure => simp [intOf]; omega
      · obtain rfl : j = (aliveL T.P).length := by omega
        rw [List.take_length] at *
        have HE : Hid (killE T pid false = if ((aliveL T.P).filter (selP pid false)).length = 0 then 4 else 0) := Lib.hid (by
          unfold killE
          rw [← HGL.out]
          by_cases h : killL T pid false = []
          · rw [if_pos h, if_pos (by rw [h]; rfl)]
          · rw [if_neg h, if_neg (fun e => h (List.eq_nil_of_length_eq_zero e))])
        by_cases hc : ((aliveL T.P).filter (selP pid false)).length = 0
        · have HE2 := Lib.hid (HE.out.trans (if_pos hc))
          rw [HE2.out, hc]
          clear hkj hnj hc
          go_wp2
          go_ret
          exact ⟨rfl, (HW.out.step2 HK3.out.out).step2 hB.out⟩
        · have HE2 := Lib.hid (HE.out.trans (if_neg hc))
          rw [HE2.out]
          have hc2 : 0 < ((aliveL T.P).filter (selP pid false)).length := by omega
          have hc3 : (0 : Int) < (((aliveL T.P).filter (selP pid false)).length : Int) := by omega
          clear hkj hnj hc
          go_wp2
          go_ret
          exact ⟨rfl, (HW.out.step2 HK3.out.out).step2 hB.out⟩
set_option maxRecDepth 100000 in
set_option maxHeartbeats 8000000 in
theorem kills_grp (q : Int) (A lA : Option Addr) (C lC : Nat) (zs : List Int) (l : List Ac) (pid : Int) (w : World) (hq2 : q ≤ 9223372036854775807) (hA : A = none → C = 0) (hr : RowI w A zs) (hAl : ∀ a, A = some a → a.block < w.heap.size) (hl : ActsAt w lA l) (hact : ActsOk l) (hp0 : -9223372036854775808 ≤ pid) (hp1 : pid ≤ 9223372036854775807) (hg : pid.tmod 2 = 0) :
    Calls Try.prog 5 #[.agg #[.int .i64 q, .slice A zs.length C], .slice lA l.length lC, .int .i64 pid] w fun e w' => e = .returned (.bool true) ∧ Below w.heap.size w w' := by
  obtain ⟨T, hT⟩ : ∃ T, playN (newT (max q 1) zs) l = T := ⟨_, rfl⟩
  have HTE := Lib.hid hT
  have HFT : Hid (Fit l.length (max q 1) zs T) := Lib.hid (hT ▸ (Fit.new (max q 1) zs (by omega)).play l)
  have HKE := Lib.hid (kill_end HFT.out.good pid true)
  clear hT
  have HR := Lib.hid hr
  have HL := Lib.hid hl
  have HAL := Lib.hid hAl
  have HACT := Lib.hid hact
  have HBW : Hid (Below w.heap.size w (w.alloc (.cells #[.int .i64 q, .slice A zs.length C] 32))) := Lib.hid ((Below.refl _ w).alloc (Nat.le_refl _) _)
  have HB0 : Hid (Below (w.alloc (.cells #[.int .i64 q, .slice A zs.length C] 32)).heap.size (w.alloc (.cells #[.int .i64 q, .slice A zs.length C] 32)) (w.alloc (.cells #[.int .i64 q, .slice A zs.length C] 32))) := Lib.hid (Below.refl _ _)
  clear hr hl hAl hact
  go_enter Try.func5, Try.ntmps5
  have t1 : True := trivial
  go_wp2_with (first
    | (go_at_call 9; refine (awake_calls _).mono ?_; rintro e wn ⟨rfl, hb⟩; replace HB0 := Lib.hid (HB0.out.step2 hb); clear hb; (try clear r0 r1); have r0 : wn.cell? ⟨w.heap.size, 0, none⟩ = some (.int .i64 q) := (HB0.out.cell (p := ⟨w.heap.size, 0, none⟩) (by simp)).trans (cell_of_heap (heap_alloc_new w _) rfl); have r1 : wn.cell? ⟨w.heap.size, 1, none⟩ = some (.slice A zs.length C) := (HB0.out.cell (p := ⟨w.heap.size, 1, none⟩) (by simp)).trans (cell_of_heap (heap_alloc_new w _) rfl))
    | (go_at_call 13; refine (few_calls q A zs.length C lA lC l _ (HL.out.below (HBW.out.step2 HB0.out))).mono ?_; rintro e wn ⟨⟨fb, rfl, hf⟩, hb⟩; have HF := Lib.hid hf; replace HB0 := Lib.hid (HB0.out.step2 hb); clear hb hf; (try clear r0 r1); have r0 : wn.cell? ⟨w.heap.size, 0, none⟩ = some (.int .i64 q) := (HB0.out.cell (p := ⟨w.heap.size, 0, none⟩) (by simp)).trans (cell_of_heap (heap_alloc_new w _) rfl); have r1 : wn.cell? ⟨w.heap.size, 1, none⟩ = some (.slice A zs.length C) := (HB0.out.cell (p := ⟨w.heap.size, 1, none⟩) (by simp)).trans (cell_of_heap (heap_alloc_new w _) rfl); cases fb)
    | (go_at_call 14; refine (played_calls q A lA C lC zs l _ hq2 hA (HR.out.below (HBW.out.step2 HB0.out)) (fun a ha => Nat.lt_of_lt_of_le (HAL.out a ha) (HBW.out.step2 HB0.out).size) (HL.out.below (HBW.out.step2 HB0.out)) (HF.out (by first | rfl | trivial)).hs (HF.out (by first | rfl | trivial)).hl HACT.out).mono ?_; rintro e wp ⟨tb, rfl, hcz⟩; have HW := Lib.hid (HBW.out.step2 HB0.out); have HBP := Lib.hid (HB0.out.step2 hcz.out); rw [HTE.out] at hcz; have HCZ := Lib.hid hcz; clear hcz r0 r1; have r0 : wp.cell? ⟨w.heap.size, 0, none⟩ = some (.int .i64 q) := (HBP.out.cell (p := ⟨w.heap.size, 0, none⟩) (by simp)).trans (cell_of_heap (heap_alloc_new w _) rfl); have r1 : wp.cell? ⟨w.heap.size, 1, none⟩ = some (.slice A zs.length C) := (HBP.out.cell (p := ⟨w.heap.size, 1, none⟩) (by simp)).trans (cell_of_heap (heap_alloc_new w _) rfl))
    | (go_at_call 23; have _t := t1; obtain ⟨p, ht, hB, hf⟩ := HCZ.out; refine (procs_calls T tb p _ ht (by have h1 := HFT.out.np; have h2 := (HF.out (by first | rfl | trivial)).hl; omega)).mono ?_; rintro e w1 ⟨A1, C1, rfl, ho, hb⟩; have HPR := Lib.hid (PrsAt.of_own ho); have HFR : Hid (∀ a, A1 = some a → ¬ p.fp tb a.block) := Lib.hid (fun a ha hk => by have h1 := (own_blk ho a ha).1; have h2 := ht.fp_lt _ hk; omega); have HT1 := Lib.hid (ht.below hb); have HFP := Lib.hid hf; have HB1 := Lib.hid (hB.step2 hb); clear ho hb ht hB hf HCZ r0 r1; clear _t t1)
    | (go_at_call 23; refine (procs_calls (killT T pid true) tb p2 _ HKZ.out.tab (by show (killS T pid true T.P.length).1.P.length ≤ 100000; rw [killS_len]; have h1 := HFT.out.np; have h2 := (HF.out (by first | rfl | trivial)).hl; omega)).mono ?_; rintro e w3 ⟨A3, C3, rfl, ho, hb⟩; rw [HKE.out.a] at ho ⊢; have HP3 := Lib.hid (PrsAt.of_own ho); have HP1 := Lib.hid (HPR.out.below hb); have HG3 := Lib.hid (HGR.out.below hb); have HK3 : Hid (KzAt wn w3 tb p2 (killT T pid true)) := Lib.hid ⟨HKZ.out.tab.below hb, HKZ.out.out.step2 hb⟩; clear ho hb HPR HGR)
    | (go_at_call 24; refine (kill_calls T tb p pid true _ HT1.out (by have h1 := HFT.out.np; have h2 := (HF.out (by first | rfl | trivial)).hl; omega) (by have h1 := HFT.out.nr; have h2 := (HF.out (by first | rfl | trivial)).hl; omega)).mono ?_; rintro e w2 ⟨A2, C2, rfl, hrow, hnx, _⟩; have HGR := Lib.hid hrow; have HKS := kill_step HB1.out HPR.out HFR.out HFP.out hnx; clear hrow hnx HPR; obtain ⟨hpr, p2, hkz⟩ := HKS; have HPR := Lib.hid hpr; have HKZ := Lib.hid hkz; clear hpr hkz HT1 HFR HFP))
  · go_ret
    exact ⟨rfl, HBW.out.step2 HB0.out⟩
  · have hn8 : (aliveL T.P).length ≤ 200 := Nat.le_trans (List.length_filter_le _ _) (by have h1 := HFT.out.np; have h2 := (HF.out (by first | rfl | trivial)).hl; omega)
    have HN8 := Lib.hid hn8
    have HGL : Hid ((killL T pid true).length = ((aliveL T.P).filter (selP pid true)).length) := Lib.hid (by rw [HKE.out.l, List.length_map])
    rw [HGL.out]
    go_loopw [13, 14, 15] (fun n k i wr => ∃ j : Nat, j ≤ (aliveL T.P).length ∧ i = .int .i64 j ∧ n = .int .i64 ((((aliveL T.P).take j).filter fun p => !selP pid true p).length : Int) ∧ k = .int .i64 ((((aliveL T.P).take j).filter (selP pid true)).length : Int) ∧ Hid (Below w3.heap.size w3 wr)) (fun _ _ i _ => (aliveL T.P).length - (intOf i).toNat)
    case atStart => exact ⟨0, by omega, rfl, rfl, rfl, Lib.hid (Below.refl _ _)⟩
    case round =>
      obtain ⟨j, hj, rfl, rfl, rfl, hB⟩ := hrel
      have hkj : (((aliveL T.P).take j).filter (selP pid true)).length ≤ j := Nat.le_trans (List.length_filter_le _ _) (by rw [List.length_take]; omega)
      have hnj : (((aliveL T.P).take j).filter fun p => !selP pid true p).length ≤ j := Nat.le_trans (List.length_filter_le _ _) (by rw [List.length_take]; omega)
      by_cases hlt : j < (aliveL T.P).length
      · have HPA : Hid (∀ W, Below w3.heap.size w3 W → _) := Lib.hid (fun W hW => HP1.out.below hW j hlt)
        have hks := filter_snoc (aliveL T.P) (selP pid true) j hlt
        have hns := filter_snoc (aliveL T.P) (fun p => !selP pid true p) j hlt
        have hcu := HKE.out.c _ (List.getElem_mem hlt)
        have hk0 := filter_at (aliveL T.P) (selP pid true) j hlt
        have hn0 := filter_at (aliveL T.P) (fun p => !selP pid true p) j hlt
        obtain ⟨k2, hk2⟩ : ∃ k2, (((aliveL T.P).take (j + 1)).filter (selP pid true)).length = k2 := ⟨_, rfl⟩
        obtain ⟨n2, hn2⟩ : ∃ n2, (((aliveL T.P).take (j + 1)).filter fun p => !selP pid true p).length = n2 := ⟨_, rfl⟩
        rw [hk2] at hks
        rw [hn2] at hns
        have HK2 := Lib.hid hk2
        have HN2 := Lib.hid hn2
        clear hk2 hn2
        generalize (((aliveL T.P).take j).filter (selP pid true)).length = kk at *
        generalize (((aliveL T.P).take j).filter fun p => !selP pid true p).length = nn at *
        generalize (aliveL T.P)[j]'hlt = v at *
        obtain ⟨v0, v1, v2, v3, v4⟩ := v
        simp only at HPA hcu
        obtain ⟨g, rfl, hg, x0, x1, x2, x3, x4⟩ := HPA.out wr hB.out
        have j0 : (0 : Int) ≤ (j : Int) := by omega
        have j1 : (j : Int) < ((aliveL T.P).length : Int) := by omega
        by_cases hs : selP pid true ⟨v0, v1, v2, v3, v4⟩ = true
        · have hk3 := hk0 hs
          obtain ⟨hk4, hk5⟩ := List.getElem?_eq_some_iff.1 hk3
          have HGK : Hid ((killL T pid true).getD kk 0 = v0) := Lib.hid (by rw [HKE.out.l]; simp [List.getD, hk3])
          obtain ⟨g4, o4, rfl, hg4, z0⟩ := HG3.out.below hB.out kk (by rw [HGL.out]; exact hk4)
          rw [HGK.out] at z0
          have hcu2 : ((killT T pid true).cur == v0) = false := by simpa using hcu hs
          have hsel : (v1 == pid) = true := by simpa [selP] using hs
          have hks2 : k2 = kk + 1 := by rw [hks, if_pos hs]
          have hns2 : n2 = nn := by rw [hns, if_neg (by simp [hs])]; rfl
          have HKS2 := Lib.hid hks2
          have HNS2 := Lib.hid hns2
          have hk6 : (kk : Int) < (((aliveL T.P).filter (selP pid true)).length : Int) := by omega
          have hk7 : ¬ ((aliveL T.P).filter (selP pid true)).length ≤ kk := by omega
          have kk0 : (0 : Int) ≤ (kk : Int) := by omega
          clear hk3 hk5 hks hns hk0 hn0 hs hks2 hns2 hcu
          go_wp2
          go_region_held3 (fun w' => w'.cell? ⟨g4, o4 + kk, none⟩ = some (.int .i64 v0) ∧ w'.cell? ⟨g, j * 5, none⟩ = some (.int .i64 v0) ∧ Hid (Below w3.heap.size w3 w'))
            (((try go_split_ands); (repeat' apply And.intro) <;> first | exact keep3 hb (by assumption) | assumption | exact Lib.hid (Below.step2 (Hid.out (by assumption)) hb) | exact Lib.hid (Below.drew (Hid.out (by assumption))) | go_keep))
            (first
              | (go_at_call 17; (try go_split_ands); refine (current_b (killT T pid true) tb p2 _ (HK3.out.tab.below (Hid.out (by assumption)))).mono ?_; rintro e w1 ⟨rfl, hb⟩))
          all_goals have HBZ : Hid (Below w3.heap.size w3 w1) := (by (try go_split_ands); assumption)
          all_goals go_wp2
          all_goals go_roundw
          case rel => exact ⟨j + 1, by omega, by go_num, by rw [HN2.out, HNS2.out], by rw [HK2.out, HKS2.out]; go_num, HBZ⟩
          case measure => simp [intOf]; omega
        · have hn3 := hn0 (by simp [hs])
          obtain ⟨hn4, hn5⟩ := List.getElem?_eq_some_iff.1 hn3
          obtain ⟨g5, rfl, hg5, y0, y1, y2, y3, y4⟩ := HP3.out.below hB.out nn hn4
          rw [hn5] at y0 y1 y2 y3 y4
          simp only at y0 y1 y2 y3 y4
          have hsel : (v1 == pid) = false := by simpa [selP] using hs
          have hks2 : k2 = kk := by rw [hks, if_neg hs]; rfl
          have hns2 : n2 = nn + 1 := by rw [hns, if_pos (by simp [hs])]
          have HKS2 := Lib.hid hks2
          have HNS2 := Lib.hid hns2
          have hn6 : (nn : Int) < (((aliveL T.P).filter fun p => !selP pid true p).length : Int) := by omega
          have hn7 : ¬ ((aliveL T.P).filter fun p => !selP pid true p).length ≤ nn := by omega
          have nn0 : (0 : Int) ≤ (nn : Int) := by omega
          have hn9 : ((aliveL T.P).filter fun p => !selP pid true p).length ≤ 200 := Nat.le_trans (List.length_filter_le _ _) hn8
          clear hn3 hn5 hks hns hk0 hn0 hs hks2 hns2 hcu
          go_wp2
          go_quiet (fail)
          go_wp2
          go_roundw
          case rel => exact ⟨j + 1, by omega, by go_num, by rw [HN2.out, HNS2.out]; go_num, by rw [HK2.out, HKS2.out], Lib.hid (Below.dn hB.out _)⟩
          case measure => simp [intOf]; omega
      · obtain rfl : j = (aliveL T.P).length := by omega
        rw [List.take_length] at *
        have HE : Hid (killE T pid true = if ((aliveL T.P).filter (selP pid true)).length = 0 then 4 else 0) := Lib.hid (by
          unfold killE
          rw [← HGL.out]
          by_cases h : killL T pid true = []
          · rw [if_pos h, if_pos (by rw [h]; rfl)]
          · rw [if_neg h, if_neg (fun e => h (List.eq_nil_of_length_eq_zero e))])
        by_cases hc : ((aliveL T.P).filter (selP pid true)).length = 0
        · have HE2 := Lib.hid (HE.out.trans (if_pos hc))
          rw [HE2.out, hc]
          clear hkj hnj hc
          go_wp2
          go_ret
          exact ⟨rfl, (HW.out.step2 HK3.out.out).step2 hB.out⟩
        · have HE2 := Lib.hid (HE.out.trans (if_neg hc))
          rw [HE2.out]
          have hc2 : 0 < ((aliveL T.P).filter (selP pid true)).length := by omega
          have hc3 : (0 : Int) < (((aliveL T.P).filter (selP pid true)).length : Int) := by omega
          clear hkj hnj hc
          go_wp2
          go_ret
          exact ⟨rfl, (HW.out.step2 HK3.out.out).step2 hB.out⟩
theorem law_kills (q : Int) (A lA : Option Addr) (C lC : Nat) (zs : List Int) (l : List Ac) (pid : Int) (w : World) (hq2 : q ≤ 9223372036854775807) (hA : A = none → C = 0) (hr : RowI w A zs) (hAl : ∀ a, A = some a → a.block < w.heap.size) (hl : ActsAt w lA l) (hact : ActsOk l) (hp0 : -9223372036854775808 ≤ pid) (hp1 : pid ≤ 9223372036854775807) :
    Calls Try.prog 5 #[.agg #[.int .i64 q, .slice A zs.length C], .slice lA l.length lC, .int .i64 pid] w fun e w' => e = .returned (.bool true) ∧ Below w.heap.size w w' := by
  have h1 := Int.tmod_lt_of_pos pid (show (0 : Int) < 2 by omega)
  have h2 := Int.lt_tmod_of_pos pid (show (0 : Int) < 2 by omega)
  obtain h | h | h : pid.tmod 2 = 1 ∨ pid.tmod 2 = -1 ∨ pid.tmod 2 = 0 := by omega
  · exact kills_one q A lA C lC zs l pid w hq2 hA hr hAl hl hact hp0 hp1 h
  · exact kills_neg q A lA C lC zs l pid w hq2 hA hr hAl hl hact hp0 hp1 h
  · exact kills_grp q A lA C lC zs l pid w hq2 hA hr hAl hl hact hp0 hp1 h
end Go.Proofs.Ytnbjknjnpfmklaa
