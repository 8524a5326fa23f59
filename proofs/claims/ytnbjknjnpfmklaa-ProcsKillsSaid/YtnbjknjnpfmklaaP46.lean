/- The law: each process that has not ended is at one place. -/
import Derived.Test.YtnbjknjnpfmklaaP44
import Derived.IntWalk
namespace Go.Proofs.Ytnbjknjnpfmklaa
open Go.RowKit

theorem count_snoc (r : List Int) (x : Int) (k : Nat) (hk : k < r.length) : (r.take (k + 1)).count x = (r.take k).count x + if r.getD k 0 = x then 1 else 0 := by
  rw [List.take_add_one, List.getElem?_eq_getElem hk, List.count_append, show r.getD k 0 = r[k] by simp [List.getD, List.getElem?_eq_getElem hk]]
  simp [List.count_cons]
theorem procs_cz {w wk : World} {tb : Nat} {T : Tb} (h : Cz w wk tb T) (hn : T.P.length ≤ 100000) :
    Calls Try.prog 23 #[.pointer (some ⟨tb, 0, none⟩)] wk fun e w' => ∃ A C, e = .returned (.slice A (aliveL T.P).length C) ∧ PrsAt w' A (aliveL T.P) ∧ Cz w w' tb T := by
  obtain ⟨p, h1, h2, h3⟩ := h
  exact (procs_calls T tb p wk h1 hn).mono fun e w' ⟨A, C, e1, e2, e3⟩ => ⟨A, C, e1, PrsAt.of_own e2, p, h1.below e3, h2.step2 e3, h3⟩
theorem left_cz {w wk : World} {tb : Nat} {T : Tb} (h : Cz w wk tb T) : Calls Try.prog 22 #[.pointer (some ⟨tb, 0, none⟩)] wk fun e w' => e = .returned (.int .i64 (leftI T)) ∧ Below wk.heap.size wk w' := by
  obtain ⟨p, h1, h2, h3⟩ := h
  exact left_calls T tb p wk h1
theorem used_lz {w wk : World} {tb : Nat} {T : Tb} (h : Cz w wk tb T) : Calls Try.prog 12 #[.pointer (some ⟨tb, 0, none⟩)] wk fun e w' => e = .returned (.int .i64 (T.used : Int)) ∧ Below wk.heap.size wk w' := by
  obtain ⟨p, h1, h2, h3⟩ := h
  exact used_b T tb p wk h1
theorem current_lz {w wk : World} {tb : Nat} {T : Tb} (h : Cz w wk tb T) : Calls Try.prog 17 #[.pointer (some ⟨tb, 0, none⟩)] wk fun e w' => e = .returned (.int .i64 T.cur) ∧ Below wk.heap.size wk w' := by
  obtain ⟨p, h1, h2, h3⟩ := h
  exact current_b T tb p wk h1

set_option maxRecDepth 100000 in
set_option maxHeartbeats 8000000 in
theorem law_places (q : Int) (A lA : Option Addr) (C lC : Nat) (zs : List Int) (l : List Ac) (w : World) (hq2 : q ≤ 9223372036854775807) (hA : A = none → C = 0) (hr : RowI w A zs) (hAl : ∀ a, A = some a → a.block < w.heap.size) (hl : ActsAt w lA l) (hact : ActsOk l) :
    Calls Try.prog 7 #[.agg #[.int .i64 q, .slice A zs.length C], .slice lA l.length lC] w fun e w' => e = .returned (.bool true) ∧ Below w.heap.size w w' := by
  obtain ⟨T, hT⟩ : ∃ T, playN (newT (max q 1) zs) l = T := ⟨_, rfl⟩
  have HTE := Lib.hid hT
  have HFT : Hid (Fit l.length (max q 1) zs T) := Lib.hid (hT ▸ (Fit.new (max q 1) zs (by omega)).play l)
  have HAV : Hid ((aliveL T.P).length ≤ 64) := Lib.hid (hT ▸ alive_play (Fit.new (max q 1) zs (by omega)) (Nat.zero_le _) l)
  clear hT
  have HR := Lib.hid hr
  have HL := Lib.hid hl
  have HAL := Lib.hid hAl
  have HACT := Lib.hid hact
  have HBW : Hid (Below w.heap.size w (w.alloc (.cells #[.int .i64 q, .slice A zs.length C] 32))) := Lib.hid ((Below.refl _ w).alloc (Nat.le_refl _) _)
  have HB0 : Hid (Below (w.alloc (.cells #[.int .i64 q, .slice A zs.length C] 32)).heap.size (w.alloc (.cells #[.int .i64 q, .slice A zs.length C] 32)) (w.alloc (.cells #[.int .i64 q, .slice A zs.length C] 32))) := Lib.hid (Below.refl _ _)
  clear hr hl hAl hact
  go_enter Try.func7, Try.ntmps7
  go_wp2_with (first
    | (go_at_call 9; refine (awake_calls _).mono ?_; rintro e wn ⟨rfl, hb⟩; replace HB0 := Lib.hid (HB0.out.step2 hb); clear hb; (try clear r0 r1); have r0 : wn.cell? ⟨w.heap.size, 0, none⟩ = some (.int .i64 q) := (HB0.out.cell (p := ⟨w.heap.size, 0, none⟩) (by simp)).trans (cell_of_heap (heap_alloc_new w _) rfl); have r1 : wn.cell? ⟨w.heap.size, 1, none⟩ = some (.slice A zs.length C) := (HB0.out.cell (p := ⟨w.heap.size, 1, none⟩) (by simp)).trans (cell_of_heap (heap_alloc_new w _) rfl))
    | (go_at_call 13; refine (few_calls q A zs.length C lA lC l _ (HL.out.below (HBW.out.step2 HB0.out))).mono ?_; rintro e wn ⟨⟨fb, rfl, hf⟩, hb⟩; have HF := Lib.hid hf; replace HB0 := Lib.hid (HB0.out.step2 hb); clear hb hf; (try clear r0 r1); have r0 : wn.cell? ⟨w.heap.size, 0, none⟩ = some (.int .i64 q) := (HB0.out.cell (p := ⟨w.heap.size, 0, none⟩) (by simp)).trans (cell_of_heap (heap_alloc_new w _) rfl); have r1 : wn.cell? ⟨w.heap.size, 1, none⟩ = some (.slice A zs.length C) := (HB0.out.cell (p := ⟨w.heap.size, 1, none⟩) (by simp)).trans (cell_of_heap (heap_alloc_new w _) rfl); cases fb)
    | (go_at_call 14; refine (played_calls q A lA C lC zs l _ hq2 hA (HR.out.below (HBW.out.step2 HB0.out)) (fun a ha => Nat.lt_of_lt_of_le (HAL.out a ha) (HBW.out.step2 HB0.out).size) (HL.out.below (HBW.out.step2 HB0.out)) (HF.out (by first | rfl | trivial)).hs (HF.out (by first | rfl | trivial)).hl HACT.out).mono ?_; rintro e wp ⟨tb, rfl, hcz⟩; have HW := Lib.hid (HBW.out.step2 HB0.out); have HBP := Lib.hid (HB0.out.step2 hcz.out); rw [HTE.out] at hcz; have HCZ := Lib.hid hcz; clear hcz r0 r1; have r0 : wp.cell? ⟨w.heap.size, 0, none⟩ = some (.int .i64 q) := (HBP.out.cell (p := ⟨w.heap.size, 0, none⟩) (by simp)).trans (cell_of_heap (heap_alloc_new w _) rfl); have r1 : wp.cell? ⟨w.heap.size, 1, none⟩ = some (.slice A zs.length C) := (HBP.out.cell (p := ⟨w.heap.size, 1, none⟩) (by simp)).trans (cell_of_heap (heap_alloc_new w _) rfl))
    )
  · go_ret
    exact ⟨rfl, HBW.out.step2 HB0.out⟩
  · have HF2 := Lib.hid (HF.out (by first | rfl | trivial))
    have hu : decide ((zs.length : Int) < (T.used : Int)) = false := decide_eq_false (by have h1 := HFT.out.us; rw [HFT.out.s] at h1; omega)
    have HS0 : Hid (Below wp.heap.size wp wp) := Lib.hid (Below.refl _ _)
    go_region_held3 (fun w' => w'.cell? ⟨w.heap.size, 1, none⟩ = some (.slice A zs.length C) ∧ Hid (Below wp.heap.size wp w'))
      (((try go_split_ands); (repeat' apply And.intro) <;> first | exact keep3 hb (by assumption) | assumption | exact Lib.hid (Below.step2 (Hid.out (by assumption)) hb) | exact Lib.hid (Below.drew (Hid.out (by assumption))) | go_keep))
      (first
        | (go_at_call 12; (try go_split_ands); refine (used_lz (HCZ.out.below (Hid.out (by assumption)))).mono ?_; rintro e w1 ⟨rfl, hb⟩))
    have HC1 : Hid (Cz wn w1 tb T) := Lib.hid (HCZ.out.below (by (try go_split_ands); exact Hid.out (by assumption)))
    have hu2 : ¬ zs.length < T.used := by have h1 := HFT.out.us; rw [HFT.out.s] at h1; omega
    have HN : Hid (T.P.length ≤ 100000 ∧ T.ready.length ≤ 100000) := Lib.hid (by have h1 := HFT.out.np; have h2 := HFT.out.nr; have h3 := HF2.out.hl; omega)
    go_wp2_with (first
      | (go_at_call 23; refine (procs_cz HC1.out HN.out.1).mono ?_; rintro e w2 ⟨A1, C1, rfl, hp, hc⟩; have HP1 := Lib.hid hp; have HC2 := Lib.hid hc; clear hp hc)
      | (go_at_call 16; refine (ready_cz HC2.out HN.out.2).mono ?_; rintro e w3 ⟨A2, C2, rfl, ho, hb, hc⟩; have HRD := Lib.hid (RowI.of_own ho); have HP2 := Lib.hid (HP1.out.below hb); have HC3 := Lib.hid hc; clear ho hb hc))
    have HLN : Hid ((aliveL T.P).length ≤ 64) := HAV
    have HCT := Lib.hid (nameN_all HFT.out)
    go_loopw [8, 9] (fun n i wr => ∃ j : Nat, j ≤ (aliveL T.P).length ∧ i = .int .i64 j ∧ n = .int .i64 (nameN T.ready ((aliveL T.P).take j) : Int) ∧ Hid (Below w3.heap.size w3 wr)) (fun _ i _ => (aliveL T.P).length - (intOf i).toNat)
    case atStart => exact ⟨0, by omega, rfl, rfl, Lib.hid (Below.refl _ _)⟩
    case round =>
      obtain ⟨j, hj, rfl, rfl, hB⟩ := hrel
      by_cases hlt : j < (aliveL T.P).length
      · have HPL := Lib.hid (place_ok HFT.out (List.getElem_mem hlt))
        have HNM := Lib.hid (nameN_snoc T.ready (aliveL T.P) j hlt)
        have HPA : Hid (∀ W, Below w3.heap.size w3 W → _) := Lib.hid (fun W hW => HP2.out.below hW j hlt)
        have HPV : Hid (∀ i (h : i < j), ((aliveL T.P)[i]'(by omega)).pid < ((aliveL T.P)[j]'hlt).pid) := Lib.hid (fun i h => List.pairwise_iff_getElem.1 HFT.out.good.sorted i j (by omega) hlt h)
        have HPP : Hid (∀ W, Below w3.heap.size w3 W → ∀ i (h : i < j), ∃ g, A1 = some ⟨g, 0, none⟩ ∧ W.cell? ⟨g, i * 5, none⟩ = some (.int .i64 ((aliveL T.P)[i]'(by omega)).pid)) := Lib.hid (fun W hW i h => by
          obtain ⟨g, e, _, x0, _⟩ := HP2.out.below hW i (by omega)
          exact ⟨g, e, x0⟩)
        have HNB : Hid (nameN T.ready ((aliveL T.P).take j) ≤ 100000) := Lib.hid (Nat.le_trans (nameN_le _ _ _) (by rw [HCT.out]; exact HN.out.2))
        obtain ⟨n2, hn2⟩ : ∃ n2, nameN T.ready ((aliveL T.P).take (j + 1)) = n2 := ⟨_, rfl⟩
        rw [hn2] at HNM
        have HN2 := Lib.hid hn2
        clear hn2
        generalize nameN T.ready ((aliveL T.P).take j) = n1 at *
        generalize (aliveL T.P)[j]'hlt = v at *
        obtain ⟨v0, v1, v2, v3, v4⟩ := v
        simp only at HPA HPV HNM
        have j0 : (0 : Int) ≤ (j : Int) := by omega
        have j1 : (j : Int) < ((aliveL T.P).length : Int) := by omega
        go_wp2
        go_loopw [10, 11] (fun t k wr2 => ∃ kk : Nat, kk ≤ T.ready.length ∧ k = .int .i64 kk ∧ t = .int .i64 ((T.ready.take kk).count v0 : Int) ∧ Hid (Below w3.heap.size w3 wr2)) (fun _ k _ => T.ready.length - (intOf k).toNat)
        case atStart => exact ⟨0, by omega, rfl, rfl, hB⟩
        case round =>
          obtain ⟨kk, hkk, rfl, rfl, hB2⟩ := hrel
          obtain ⟨g, rfl, hg, x0, x1, x2, x3, x4⟩ := HPA.out wr hB2.out
          have hn9 := HN.out.2
          have hcl : (T.ready.take kk).count v0 ≤ kk := Nat.le_trans (List.count_le_length) (by rw [List.length_take]; omega)
          by_cases hk : kk < T.ready.length
          · obtain ⟨g2, o2, rfl, hg2, z0⟩ := HRD.out.below hB2.out kk hk
            have HCS := Lib.hid (count_snoc T.ready v0 kk hk)
            have k0 : (0 : Int) ≤ (kk : Int) := by omega
            have k1 : (kk : Int) < (T.ready.length : Int) := by omega
            obtain ⟨c2, hc2⟩ : ∃ c2, (T.ready.take (kk + 1)).count v0 = c2 := ⟨_, rfl⟩
            rw [hc2] at HCS
            have HC2' := Lib.hid hc2
            clear hc2
            generalize (T.ready.take kk).count v0 = c1 at *
            generalize T.ready.getD kk 0 = rv at *
            by_cases he : rv = v0
            · have HCS2 := Lib.hid (HCS.out.trans (by rw [if_pos he]))
              subst he
              go_wp2
              go_quiet (fail)
              go_wp2
              go_roundw
              case rel => exact ⟨kk + 1, by omega, by go_num, by rw [HC2'.out, HCS2.out]; go_num, Lib.hid (Below.dn hB2.out _)⟩
              case measure => simp [intOf]; omega
            · have HCS2 := Lib.hid (HCS.out.trans (by rw [if_neg he]))
              have he2 : (rv == v0) = false := by simpa using he
              go_wp2
              go_quiet (fail)
              go_wp2
              go_roundw
              case rel => exact ⟨kk + 1, by omega, by go_num, by rw [HC2'.out, HCS2.out]; rfl, Lib.hid (Below.dn hB2.out _)⟩
              case measure => simp [intOf]; omega
          · obtain rfl : kk = T.ready.length := by omega
            rw [List.take_length] at *
            have hone := HPL.out.one
            have hnb := HPL.out.notboth
            have hac := HPL.out.act
            have hca := HPL.out.call
            have hal6 := HPL.out.alive
            simp only at hone hnb hac hca hal6
            have hcs : (T.ready.count v0 = 1 ∧ T.cur ≠ v0 ∧ v2 = 0) ∨ (T.ready.count v0 = 0 ∧ T.cur = v0 ∧ v2 = 0) ∨ (T.ready.count v0 = 0 ∧ T.cur = v0 ∧ v2 = 4) ∨ (T.ready.count v0 = 0 ∧ T.cur ≠ v0 ∧ v2 ≠ 0 ∧ v2 ≠ 4 ∧ v2 ≠ 6) := place_cases hone hnb hac hca hal6
            clear hone hnb hac hca hal6 HPL hcl
            have h9 := HNB.out
            have h8 := HAV.out
            rcases hcs with ⟨h1, h2, h3⟩ | ⟨h1, h2, h3⟩ | ⟨h1, h2, h3⟩ | ⟨h1, h2, h3⟩
            · by_cases hj0 : j = 0
              · have hjp : ¬ (0 : Int) < (j : Int) := by omega
                have hjq : ¬ 0 < j := by omega
                clear hj0
                have hcur : (T.cur == v0) = false := by simpa using h2
                have HCC := Lib.hid h1
                rw [h1]
                subst h3
                clear h1 h2
                go_wp2
                go_region_held3 (fun w' => w'.cell? ⟨g, j * 5, none⟩ = some (.int .i64 v0) ∧ Hid (Below w3.heap.size w3 w'))
                  (((try go_split_ands); (repeat' apply And.intro) <;> first | exact keep3 hb (by assumption) | assumption | exact Lib.hid (Below.step2 (Hid.out (by assumption)) hb) | exact Lib.hid (Below.drew (Hid.out (by assumption))) | go_keep))
                  (first
                    | (go_at_call 17; (try go_split_ands); refine (current_lz (HC3.out.below (Hid.out (by assumption)))).mono ?_; rintro e w1 ⟨rfl, hb⟩))
                have HBZ : Hid (Below w3.heap.size w3 w1) := by (try go_split_ands); assumption
                clear x0 x1 x2 x3 x4
                obtain ⟨g', e', _, x0, x1, x2, x3, x4⟩ := HPA.out w1 HBZ.out
                obtain rfl : g = g' := by simpa using e'
                go_wp2
                go_quiet (fail)
                go_wp2
                go_roundw
                case rel => exact ⟨j + 1, by omega, by go_num, by rw [HN2.out, HNM.out, HCC.out]; go_num, Lib.hid (Below.dn HBZ.out _)⟩
                case measure => simp [intOf]; omega
              · obtain ⟨i, hij, hji⟩ : ∃ i : Nat, i < j ∧ (j : Int) - 1 = (i : Int) := ⟨j - 1, by omega, by omega⟩
                have hjp : (0 : Int) < (j : Int) := by omega
                have hjq : 0 < j := by omega
                have hjw : IntKind.i64.wrap ((j : Int) - 1) = (i : Int) := by rw [IntWalk.i64_in _ (by omega)]; exact hji
                clear hj0
                have i0 : (0 : Int) ≤ (i : Int) := by omega
                have i1 : (i : Int) < ((aliveL T.P).length : Int) := by omega
                obtain ⟨pv, hpv1, hpv2⟩ : ∃ pv, ((aliveL T.P)[i]'(by omega)).pid = pv ∧ pv < v0 := ⟨_, rfl, HPV.out i hij⟩
                have HPV2 := Lib.hid hpv1
                have hpv3 : decide (v0 ≤ pv) = false := decide_eq_false (by omega)
                clear hpv1
                have hcur : (T.cur == v0) = false := by simpa using h2
                have HCC := Lib.hid h1
                rw [h1]
                subst h3
                clear h1 h2
                go_wp2
                go_region_held3 (fun w' => w'.cell? ⟨g, j * 5, none⟩ = some (.int .i64 v0) ∧ Hid (Below w3.heap.size w3 w'))
                  (((try go_split_ands); (repeat' apply And.intro) <;> first | exact keep3 hb (by assumption) | assumption | exact Lib.hid (Below.step2 (Hid.out (by assumption)) hb) | exact Lib.hid (Below.drew (Hid.out (by assumption))) | go_keep))
                  (first
                    | (go_at_call 17; (try go_split_ands); refine (current_lz (HC3.out.below (Hid.out (by assumption)))).mono ?_; rintro e w1 ⟨rfl, hb⟩))
                have HBZ : Hid (Below w3.heap.size w3 w1) := by (try go_split_ands); assumption
                clear x0 x1 x2 x3 x4
                obtain ⟨g', e', _, x0, x1, x2, x3, x4⟩ := HPA.out w1 HBZ.out
                obtain rfl : g = g' := by simpa using e'
                obtain ⟨g3, e3, u0⟩ := HPP.out _ HBZ.out i hij
                obtain rfl : g = g3 := by simpa using e3
                rw [HPV2.out] at u0
                go_wp2
                go_quiet (fail)
                go_wp2
                go_roundw
                case rel => exact ⟨j + 1, by omega, by go_num, by rw [HN2.out, HNM.out, HCC.out]; go_num, Lib.hid (Below.dn HBZ.out _)⟩
                case measure => simp [intOf]; omega
            · by_cases hj0 : j = 0
              · have hjp : ¬ (0 : Int) < (j : Int) := by omega
                have hjq : ¬ 0 < j := by omega
                clear hj0
                have HCC := Lib.hid h1
                rw [h1]
                subst h3
                clear h1
                go_wp2
                go_region_held3 (fun w' => w'.cell? ⟨g, j * 5, none⟩ = some (.int .i64 v0) ∧ Hid (Below w3.heap.size w3 w'))
                  (((try go_split_ands); (repeat' apply And.intro) <;> first | exact keep3 hb (by assumption) | assumption | exact Lib.hid (Below.step2 (Hid.out (by assumption)) hb) | exact Lib.hid (Below.drew (Hid.out (by assumption))) | go_keep))
                  (first
                    | (go_at_call 17; (try go_split_ands); refine (current_lz (HC3.out.below (Hid.out (by assumption)))).mono ?_; rintro e w1 ⟨rfl, hb⟩))
                have HBZ : Hid (Below w3.heap.size w3 w1) := by (try go_split_ands); assumption
                clear x0 x1 x2 x3 x4
                obtain ⟨g', e', _, x0, x1, x2, x3, x4⟩ := HPA.out w1 HBZ.out
                obtain rfl : g = g' := by simpa using e'
                go_wp2
                go_quiet (fail)
                go_wp2
                go_roundw
                case rel => exact ⟨j + 1, by omega, by go_num, by rw [HN2.out, HNM.out, HCC.out]; go_num, Lib.hid (Below.dn HBZ.out _)⟩
                case measure => simp [intOf]; omega
              · obtain ⟨i, hij, hji⟩ : ∃ i : Nat, i < j ∧ (j : Int) - 1 = (i : Int) := ⟨j - 1, by omega, by omega⟩
                have hjp : (0 : Int) < (j : Int) := by omega
                have hjq : 0 < j := by omega
                have hjw : IntKind.i64.wrap ((j : Int) - 1) = (i : Int) := by rw [IntWalk.i64_in _ (by omega)]; exact hji
                clear hj0
                have i0 : (0 : Int) ≤ (i : Int) := by omega
                have i1 : (i : Int) < ((aliveL T.P).length : Int) := by omega
                obtain ⟨pv, hpv1, hpv2⟩ : ∃ pv, ((aliveL T.P)[i]'(by omega)).pid = pv ∧ pv < v0 := ⟨_, rfl, HPV.out i hij⟩
                have HPV2 := Lib.hid hpv1
                have hpv3 : decide (v0 ≤ pv) = false := decide_eq_false (by omega)
                clear hpv1
                have HCC := Lib.hid h1
                rw [h1]
                subst h3
                clear h1
                go_wp2
                go_region_held3 (fun w' => w'.cell? ⟨g, j * 5, none⟩ = some (.int .i64 v0) ∧ Hid (Below w3.heap.size w3 w'))
                  (((try go_split_ands); (repeat' apply And.intro) <;> first | exact keep3 hb (by assumption) | assumption | exact Lib.hid (Below.step2 (Hid.out (by assumption)) hb) | exact Lib.hid (Below.drew (Hid.out (by assumption))) | go_keep))
                  (first
                    | (go_at_call 17; (try go_split_ands); refine (current_lz (HC3.out.below (Hid.out (by assumption)))).mono ?_; rintro e w1 ⟨rfl, hb⟩))
                have HBZ : Hid (Below w3.heap.size w3 w1) := by (try go_split_ands); assumption
                clear x0 x1 x2 x3 x4
                obtain ⟨g', e', _, x0, x1, x2, x3, x4⟩ := HPA.out w1 HBZ.out
                obtain rfl : g = g' := by simpa using e'
                obtain ⟨g3, e3, u0⟩ := HPP.out _ HBZ.out i hij
                obtain rfl : g = g3 := by simpa using e3
                rw [HPV2.out] at u0
                go_wp2
                go_quiet (fail)
                go_wp2
                go_roundw
                case rel => exact ⟨j + 1, by omega, by go_num, by rw [HN2.out, HNM.out, HCC.out]; go_num, Lib.hid (Below.dn HBZ.out _)⟩
                case measure => simp [intOf]; omega
            · by_cases hj0 : j = 0
              · have hjp : ¬ (0 : Int) < (j : Int) := by omega
                have hjq : ¬ 0 < j := by omega
                clear hj0
                have HCC := Lib.hid h1
                rw [h1]
                subst h3
                clear h1
                go_wp2
                go_region_held3 (fun w' => w'.cell? ⟨g, j * 5, none⟩ = some (.int .i64 v0) ∧ Hid (Below w3.heap.size w3 w'))
                  (((try go_split_ands); (repeat' apply And.intro) <;> first | exact keep3 hb (by assumption) | assumption | exact Lib.hid (Below.step2 (Hid.out (by assumption)) hb) | exact Lib.hid (Below.drew (Hid.out (by assumption))) | go_keep))
                  (first
                    | (go_at_call 17; (try go_split_ands); refine (current_lz (HC3.out.below (Hid.out (by assumption)))).mono ?_; rintro e w1 ⟨rfl, hb⟩))
                have HBZ : Hid (Below w3.heap.size w3 w1) := by (try go_split_ands); assumption
                clear x0 x1 x2 x3 x4
                obtain ⟨g', e', _, x0, x1, x2, x3, x4⟩ := HPA.out w1 HBZ.out
                obtain rfl : g = g' := by simpa using e'
                go_wp2
                go_quiet (fail)
                go_wp2
                go_roundw
                case rel => exact ⟨j + 1, by omega, by go_num, by rw [HN2.out, HNM.out, HCC.out]; go_num, Lib.hid (Below.dn HBZ.out _)⟩
                case measure => simp [intOf]; omega
              · obtain ⟨i, hij, hji⟩ : ∃ i : Nat, i < j ∧ (j : Int) - 1 = (i : Int) := ⟨j - 1, by omega, by omega⟩
                have hjp : (0 : Int) < (j : Int) := by omega
                have hjq : 0 < j := by omega
                have hjw : IntKind.i64.wrap ((j : Int) - 1) = (i : Int) := by rw [IntWalk.i64_in _ (by omega)]; exact hji
                clear hj0
                have i0 : (0 : Int) ≤ (i : Int) := by omega
                have i1 : (i : Int) < ((aliveL T.P).length : Int) := by omega
                obtain ⟨pv, hpv1, hpv2⟩ : ∃ pv, ((aliveL T.P)[i]'(by omega)).pid = pv ∧ pv < v0 := ⟨_, rfl, HPV.out i hij⟩
                have HPV2 := Lib.hid hpv1
                have hpv3 : decide (v0 ≤ pv) = false := decide_eq_false (by omega)
                clear hpv1
                have HCC := Lib.hid h1
                rw [h1]
                subst h3
                clear h1
                go_wp2
                go_region_held3 (fun w' => w'.cell? ⟨g, j * 5, none⟩ = some (.int .i64 v0) ∧ Hid (Below w3.heap.size w3 w'))
                  (((try go_split_ands); (repeat' apply And.intro) <;> first | exact keep3 hb (by assumption) | assumption | exact Lib.hid (Below.step2 (Hid.out (by assumption)) hb) | exact Lib.hid (Below.drew (Hid.out (by assumption))) | go_keep))
                  (first
                    | (go_at_call 17; (try go_split_ands); refine (current_lz (HC3.out.below (Hid.out (by assumption)))).mono ?_; rintro e w1 ⟨rfl, hb⟩))
                have HBZ : Hid (Below w3.heap.size w3 w1) := by (try go_split_ands); assumption
                clear x0 x1 x2 x3 x4
                obtain ⟨g', e', _, x0, x1, x2, x3, x4⟩ := HPA.out w1 HBZ.out
                obtain rfl : g = g' := by simpa using e'
                obtain ⟨g3, e3, u0⟩ := HPP.out _ HBZ.out i hij
                obtain rfl : g = g3 := by simpa using e3
                rw [HPV2.out] at u0
                go_wp2
                go_quiet (fail)
                go_wp2
                go_roundw
                case rel => exact ⟨j + 1, by omega, by go_num, by rw [HN2.out, HNM.out, HCC.out]; go_num, Lib.hid (Below.dn HBZ.out _)⟩
                case measure => simp [intOf]; omega
            · by_cases hj0 : j = 0
              · have hjp : ¬ (0 : Int) < (j : Int) := by omega
                have hjq : ¬ 0 < j := by omega
                clear hj0
                obtain ⟨h3, h4, h5⟩ := h3
                have hcur : (T.cur == v0) = false := by simpa using h2
                have hs0 : (v2 == 0) = false := by simpa using h3
                have hs4 : (v2 == 4) = false := by simpa using h4
                have hs6 : (v2 == 6) = false := by simpa using h5
                have HCC := Lib.hid h1
                rw [h1]
                clear h1 h2 h3 h4 h5
                go_wp2
                go_region_held3 (fun w' => w'.cell? ⟨g, j * 5, none⟩ = some (.int .i64 v0) ∧ Hid (Below w3.heap.size w3 w'))
                  (((try go_split_ands); (repeat' apply And.intro) <;> first | exact keep3 hb (by assumption) | assumption | exact Lib.hid (Below.step2 (Hid.out (by assumption)) hb) | exact Lib.hid (Below.drew (Hid.out (by assumption))) | go_keep))
                  (first
                    | (go_at_call 17; (try go_split_ands); refine (current_lz (HC3.out.below (Hid.out (by assumption)))).mono ?_; rintro e w1 ⟨rfl, hb⟩))
                have HBZ : Hid (Below w3.heap.size w3 w1) := by (try go_split_ands); assumption
                clear x0 x1 x2 x3 x4
                obtain ⟨g', e', _, x0, x1, x2, x3, x4⟩ := HPA.out w1 HBZ.out
                obtain rfl : g = g' := by simpa using e'
                go_wp2
                go_quiet (fail)
                go_wp2
                go_roundw
                case rel => exact ⟨j + 1, by omega, by go_num, by rw [HN2.out, HNM.out, HCC.out]; go_num, Lib.hid (Below.dn HBZ.out _)⟩
                case measure => simp [intOf]; omega
              · obtain ⟨i, hij, hji⟩ : ∃ i : Nat, i < j ∧ (j : Int) - 1 = (i : Int) := ⟨j - 1, by omega, by omega⟩
                have hjp : (0 : Int) < (j : Int) := by omega
                have hjq : 0 < j := by omega
                have hjw : IntKind.i64.wrap ((j : Int) - 1) = (i : Int) := by rw [IntWalk.i64_in _ (by omega)]; exact hji
                clear hj0
                have i0 : (0 : Int) ≤ (i : Int) := by omega
                have i1 : (i : Int) < ((aliveL T.P).length : Int) := by omega
                obtain ⟨pv, hpv1, hpv2⟩ : ∃ pv, ((aliveL T.P)[i]'(by omega)).pid = pv ∧ pv < v0 := ⟨_, rfl, HPV.out i hij⟩
                have HPV2 := Lib.hid hpv1
                have hpv3 : decide (v0 ≤ pv) = false := decide_eq_false (by omega)
                clear hpv1
                obtain ⟨h3, h4, h5⟩ := h3
                have hcur : (T.cur == v0) = false := by simpa using h2
                have hs0 : (v2 == 0) = false := by simpa using h3
                have hs4 : (v2 == 4) = false := by simpa using h4
                have hs6 : (v2 == 6) = false := by simpa using h5
                have HCC := Lib.hid h1
                rw [h1]
                clear h1 h2 h3 h4 h5
                go_wp2
                go_region_held3 (fun w' => w'.cell? ⟨g, j * 5, none⟩ = some (.int .i64 v0) ∧ Hid (Below w3.heap.size w3 w'))
                  (((try go_split_ands); (repeat' apply And.intro) <;> first | exact keep3 hb (by assumption) | assumption | exact Lib.hid (Below.step2 (Hid.out (by assumption)) hb) | exact Lib.hid (Below.drew (Hid.out (by assumption))) | go_keep))
                  (first
                    | (go_at_call 17; (try go_split_ands); refine (current_lz (HC3.out.below (Hid.out (by assumption)))).mono ?_; rintro e w1 ⟨rfl, hb⟩))
                have HBZ : Hid (Below w3.heap.size w3 w1) := by (try go_split_ands); assumption
                clear x0 x1 x2 x3 x4
                obtain ⟨g', e', _, x0, x1, x2, x3, x4⟩ := HPA.out w1 HBZ.out
                obtain rfl : g = g' := by simpa using e'
                obtain ⟨g3, e3, u0⟩ := HPP.out _ HBZ.out i hij
                obtain rfl : g = g3 := by simpa using e3
                rw [HPV2.out] at u0
                go_wp2
                go_quiet (fail)
                go_wp2
                go_roundw
                case rel => exact ⟨j + 1, by omega, by go_num, by rw [HN2.out, HNM.out, HCC.out]; go_num, Lib.hid (Below.dn HBZ.out _)⟩
                case measure => simp [intOf]; omega
      · obtain rfl : j = (aliveL T.P).length := by omega
        rw [List.take_length, HCT.out] at *
        have HBX3 := Lib.hid (HB0.out.step2 HC3.out.out)
        have r0 : wr.cell? ⟨w.heap.size, 0, none⟩ = some (.int .i64 q) := ((HBX3.out.step2 hB.out).cell (p := ⟨w.heap.size, 0, none⟩) (by simp)).trans (cell_of_heap (heap_alloc_new w _) rfl)
        have h8 := HAV.out
        have h7 : ((aliveL T.P).length : Int) ≤ 64 := by omega
        obtain ⟨lf, hlf⟩ : ∃ lf, leftI T = lf := ⟨_, rfl⟩
        have hl0 : 0 ≤ lf ∧ lf ≤ max q 1 := by
          have e1 := HFT.out.l0
          have e2 := HFT.out.l1
          rw [HFT.out.q] at e2
          rw [← hlf]
          unfold leftI
          split <;> omega
        obtain ⟨hl1, hl2⟩ := hl0
        have HLF := Lib.hid hlf
        clear hlf
        go_wp2
        go_region_held3 (fun w' => w'.cell? ⟨w.heap.size, 0, none⟩ = some (.int .i64 q) ∧ Hid (Below w3.heap.size w3 w'))
          (((try go_split_ands); (repeat' apply And.intro) <;> first | exact keep3 hb (by assumption) | assumption | exact Lib.hid (Below.step2 (Hid.out (by assumption)) hb) | exact Lib.hid (Below.drew (Hid.out (by assumption))) | go_keep))
          (first
            | (go_at_call 22; (try go_split_ands); refine (left_cz (HC3.out.below (Hid.out (by assumption)))).mono ?_; rintro e w1 ⟨rfl, hb⟩; rw [HLF.out]))
        all_goals have HBZ : Hid (Below w3.heap.size w3 w1) := (by (try go_split_ands); assumption)
        all_goals go_wp2
        all_goals go_ret
        all_goals exact ⟨rfl, (HW.out.step2 HC3.out.out).step2 HBZ.out⟩
end Go.Proofs.Ytnbjknjnpfmklaa
