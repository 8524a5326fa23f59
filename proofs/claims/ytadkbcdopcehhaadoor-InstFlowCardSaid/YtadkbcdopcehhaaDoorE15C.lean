/- InstFlow, where the answer is no error, part 3 of 4. -/
import Derived.Test.YtadkbcdopcehhaaDoorE15
set_option linter.unusedSimpArgs false
namespace Go.Proofs.YtadkbcdopcehhaaDoor
open Go.RowKit

set_option maxRecDepth 100000 in
set_option maxHeartbeats 16000000 in
theorem flow_c2 (q : MdA) (m : MdV) (k : Nat) (hk : k < m.nc) (w : World) (hm : MdIs w q m) (ht : SpTab w) (hE : nxE m (k : Int) = 0) (hfit : FitM m k) (eZ : ¬ zM m k = 106) (_eY : ¬ yM m k = 115) (eT : yM m k = 116) :
    Calls Tryd.prog 11 #[.agg #[.string q.s, .slice q.a1 q.n1 q.c1, .slice q.a2 q.n2 q.c2, .slice q.a3 q.n3 q.c3, .slice q.a4 m.nc q.c4, .slice q.a5 q.n5 q.c5, .slice q.a6 q.n6 q.c6, .slice q.a7 m.ns q.c7, .slice q.a8 m.nt q.c8, .slice q.a9 q.n9 q.c9, .slice q.a10 m.nh q.c10], .int .i64 (k : Int)] w fun e w' => e = .returned (.bool true) ∧ Below w.heap.size w w' := by
  have HN := Lib.hid (fun w hm hf => next_calls q m (k : Int) w hm hf)
  rw [hE] at HN
  have HLN := Lib.hid (fun hf => nxL_len m (k : Int) hf)
  have HFL := Lib.hid (flowL m k hE)
  have HFM := Lib.hid (fun w => form_fit m k hfit w)
  have HEN := Lib.hid (fun w => ends_calls (m.c k 0) w)
  obtain ⟨b, o, ha, hb, hcell⟩ := hm.code k hk
  have K0 : Hid (∀ w', Below w.heap.size w w' → w'.cell? ⟨b, o + k * 10, none⟩ = some (.int .i64 (m.c k 0))) := Lib.hid (fun w' h => (h.cell (p := ⟨b, _, none⟩) hb).trans (hcell 0 (by omega)))
  clear hcell hE hfit
  have hB0 : Below w.heap.size w (w.alloc (.cells #[.string q.s, .slice q.a1 q.n1 q.c1, .slice q.a2 q.n2 q.c2, .slice q.a3 q.n3 q.c3, .slice q.a4 m.nc q.c4, .slice q.a5 q.n5 q.c5, .slice q.a6 q.n6 q.c6, .slice q.a7 m.ns q.c7, .slice q.a8 m.nt q.c8, .slice q.a9 q.n9 q.c9, .slice q.a10 m.nh q.c10] 60)) := (Below.refl w.heap.size w).alloc (Nat.le_refl _) _
  have HB := Lib.hid hB0
  have HM := Lib.hid (hm.below hB0)
  have HBX := Lib.hid (Bxd.new w q m)
  have CX := Cy.refl (spTab_of_blocks ht hB0)
  clear hm ht hB0
  have HA4 := Lib.hid ha
  clear ha hb
  have g0 : ¬ (k : Int) < 0 := by omega
  have g1 : ¬ (m.nc : Int) ≤ (k : Int) := by omega
  have g2 : (0 : Int) ≤ (k : Int) := by omega
  have g3 : (k : Int) < (m.nc : Int) := by omega
  have g4 : ¬ m.nc ≤ k := by omega
  generalize hx : frm 0 (m.c k 0) = x at *
  generalize hy : frm 1 (m.c k 0) = y at *
  generalize hz : frm 2 (m.c k 0) = z at *
  have HY : Hid ((y.toNat : Int) = yM m k) := Lib.hid (by unfold yM; rw [hy])
  have HZ : Hid ((z.toNat : Int) = zM m k) := Lib.hid (by unfold zM; rw [hz])
  have hE1 : farM m k = true := by unfold farM; rw [eT]; simp
  rw [hE1] at HFL
  rw [eT] at HY
  have fz : (zM m k == 106) = false := by simpa using eZ
  clear hE1 eZ _eY eT
  clear hx hy hz
  generalize nxL m (k : Int) = L at *
  generalize zM m k = Z at *
  generalize endsI (m.c k 0) = en at *
  generalize m.c k 0 = op at *
  have hi1 : ∀ w, (Instr.index 9 (.string ⟨#[x, y, z]⟩) (.int .i64 1)).run Tryd.prog w = .ok (.int .u8 116) w := fun w => run_index_lit [x, y, z] 1 116 (by simp) HY.out w
  have hi2 : ∀ w, (Instr.index 9 (.string ⟨#[x, y, z]⟩) (.int .i64 2)).run Tryd.prog w = .ok (.int .u8 Z) w := fun w => run_index_lit [x, y, z] 2 Z (by simp) HZ.out w
  have t1 := trivial
  go_enter Tryd.func11, Tryd.ntmps11
  go_wp2_with (first
                    | (clear t1; go_at_call 12; generalize w.alloc (.cells #[.string q.s, .slice q.a1 q.n1 q.c1, .slice q.a2 q.n2 q.c2, .slice q.a3 q.n3 q.c3, .slice q.a4 m.nc q.c4, .slice q.a5 q.n5 q.c5, .slice q.a6 q.n6 q.c6, .slice q.a7 m.ns q.c7, .slice q.a8 m.nt q.c8, .slice q.a9 q.n9 q.c9, .slice q.a10 m.nh q.c10] 60) = w1 at *; refine (awake_calls _ CX.tab).mono ?_; rintro e wn ⟨rfl, hb⟩; replace CX := CX.next hb; clear hb; (try clear x0 x1 x2 x3 x4 x5 x6 x7 x8 x9 x10); obtain ⟨x0, x1, x2, x3, x4, x5, x6, x7, x8, x9, x10⟩ := HBX.out.next CX.below)
                    | (go_at_call 12; refine (awake_calls _ CX.tab).mono ?_; rintro e wn ⟨rfl, hb⟩; replace CX := CX.next hb; clear hb; (try clear x0 x1 x2 x3 x4 x5 x6 x7 x8 x9 x10); obtain ⟨x0, x1, x2, x3, x4, x5, x6, x7, x8, x9, x10⟩ := HBX.out.next CX.below)
                    | (go_at_call 25; refine (few_calls q m _ (HM.out.below CX.below)).mono ?_; rintro e wn ⟨⟨fb, rfl, hf⟩, hb⟩; replace CX := CX.next hb; clear hb; (try clear x0 x1 x2 x3 x4 x5 x6 x7 x8 x9 x10); obtain ⟨x0, x1, x2, x3, x4, x5, x6, x7, x8, x9, x10⟩ := HBX.out.next CX.below; have HF := Lib.hid hf; clear hf; cases fb)
                    | (go_at_call 29; refine (HN.out _ (HM.out.below CX.below) (HF.out (by first | rfl | trivial))).mono ?_; rintro e wn ⟨A1, C1, rfl, hr, hb⟩; replace CX := CX.next hb; have HR := Lib.hid hr; have k0 := K0.out _ (HB.out.step2 CX.below); clear hb hr; (try clear x0 x1 x2 x3 x4 x5 x6 x7 x8 x9 x10); obtain ⟨x0, x1, x2, x3, x4, x5, x6, x7, x8, x9, x10⟩ := HBX.out.next CX.below; rw [HA4.out] at x4)
                    | (go_at_call 17; refine (HFM.out _).mono ?_; rintro e wn ⟨rfl, rfl⟩))
  · go_ret
    exact ⟨rfl, HB.out.trans (CX.below.mono HB.out.size)⟩
  · have HZZ := Lib.hid (HB.out.trans (CX.below.mono HB.out.size))
    replace HLN := Lib.hid (HLN.out (HF.out (by first | rfl | trivial)))
    have hn40 : (m.nc : Int) ≤ 40 := by have := (HF.out (by first | rfl | trivial)).nc; omega
    (try clear x0 x1 x2 x3 x4 x5 x6 x7 x8 x9 x10)
    have CB := Lib.hid CX.below
    have K1 : Hid (∀ w', Below wn.heap.size wn w' → w'.cell? ⟨b, o + k * 10, none⟩ = some (.int .i64 op)) := Lib.hid (fun w' h => K0.out _ (HZZ.out.step2 h))
    clear CX k0
    go_loopw [9, 10] (fun bh i wr => ∃ j : Nat, j ≤ L.length ∧ i = .int .i64 j ∧ bh = .bool (bhI L ((k : Int) + 1) j) ∧ Hid (Below wn.heap.size wn wr)) (fun _ i _ => L.length - (intOf i).toNat)
    case atStart => exact ⟨0, by omega, rfl, rfl, Lib.hid (Below.refl _ _)⟩
    case round =>
      obtain ⟨j, hj, rfl, rfl, hB⟩ := hrel
      obtain ⟨x0, x1, x2, x3, x4, x5, x6, x7, x8, x9, x10⟩ := HBX.out.next (CB.out.step2 hB.out)
      rw [HA4.out] at x4
      have k0 := K1.out _ hB.out
      by_cases hlt : j < L.length
      · clear x0 x1 x2 x3 x4 x5 x6 x7 x8 x9 x10 k0
        obtain ⟨g, rfl, hg, p0⟩ := HR.out.below hB.out j hlt
        have j0 : (0 : Int) ≤ (j : Int) := by omega
        have j1 : (j : Int) < (L.length : Int) := by omega
        have hl14 : (L.length : Int) ≤ 14 := by have := HLN.out; omega
        have HBS : Hid (bhI L ((k : Int) + 1) (j + 1) = (bhI L ((k : Int) + 1) j || (L.getD j 0 == (k : Int) + 1))) := Lib.hid rfl
        have HON := Lib.hid (fun h => HFL.out.only h j hlt)
        rcases Nat.eq_zero_or_pos j with h0 | h0
        · subst h0
          clear hg
          have f1 : bhI L ((k : Int) + 1) 0 = false := rfl
          rw [f1]
          generalize L.getD 0 0 = u at *
          by_cases hv : u = (k : Int) + 1
          · subst hv
            go_wp2
            go_quiet (fail)
            go_wp2
            go_roundw
            case rel => exact ⟨0 + 1, by omega, by go_num, by rw [HBS.out]; simp [bhI, *], Lib.hid (Below.dn hB.out _)⟩
            case measure => simp [intOf]; omega
          · have hv2 : (u != (k : Int) + 1) = true := by simpa using hv
            have hv3 : (u == (k : Int) + 1) = false := by simpa using hv
            go_wp2
            go_quiet (fail)
            go_wp2
            go_roundw
            case rel => exact ⟨0 + 1, by omega, by go_num, by rw [HBS.out]; simp [bhI, *], Lib.hid (Below.dn hB.out _)⟩
            case measure => simp [intOf]; omega
        · obtain ⟨i, rfl⟩ : ∃ i, j = i + 1 := ⟨j - 1, by omega⟩
          obtain ⟨g', hg', _, p1⟩ := HR.out.below hB.out i (by omega)
          obtain rfl : g = g' := by injection hg' with h; injection h
          have hup := HFL.out.up i hlt
          have hup2 : decide (L.getD (i + 1) 0 ≤ L.getD i 0) = false := decide_eq_false (by omega)
          have g9 : (0 : Int) < (i : Int) + 1 := by omega
          have g10 : (i : Int) + 1 - 1 = (i : Int) := by omega
          have g11 : (i : Int) + 1 < (L.length : Int) := by omega
          have hl14 : (L.length : Int) ≤ 14 := by have := HLN.out; omega
          have g5 : (0 : Int) < ((i + 1 : Nat) : Int) := by omega
          have g6 : ((i + 1 : Nat) : Int) - 1 = (i : Int) := by omega
          have g7 : (0 : Int) ≤ (i : Int) := by omega
          have g8 : (i : Int) < (L.length : Int) := by omega
          clear hg hg' hup
          generalize bhI L ((k : Int) + 1) (i + 1) = bb at *
          generalize L.getD (i + 1) 0 = u at *
          generalize L.getD i 0 = u' at *
          cases bb
          · skip
            by_cases hv : u = (k : Int) + 1
            · subst hv
              go_wp2
              go_quiet (fail)
              go_wp2
              go_roundw
              case rel => exact ⟨i + 1 + 1, by omega, by go_num, by rw [HBS.out]; simp [bhI, *], Lib.hid (Below.dn hB.out _)⟩
              case measure => simp [intOf]; omega
            · have hv2 : (u != (k : Int) + 1) = true := by simpa using hv
              have hv3 : (u == (k : Int) + 1) = false := by simpa using hv
              go_wp2
              go_quiet (fail)
              go_wp2
              go_roundw
              case rel => exact ⟨i + 1 + 1, by omega, by go_num, by rw [HBS.out]; simp [bhI, *], Lib.hid (Below.dn hB.out _)⟩
              case measure => simp [intOf]; omega
          · skip
            by_cases hv : u = (k : Int) + 1
            · subst hv
              go_wp2
              go_quiet (fail)
              go_wp2
              go_roundw
              case rel => exact ⟨i + 1 + 1, by omega, by go_num, by rw [HBS.out]; simp [bhI, *], Lib.hid (Below.dn hB.out _)⟩
              case measure => simp [intOf]; omega
            · have hv2 : (u != (k : Int) + 1) = true := by simpa using hv
              have hv3 : (u == (k : Int) + 1) = false := by simpa using hv
              go_wp2
              go_quiet (fail)
              go_wp2
              go_roundw
              case rel => exact ⟨i + 1 + 1, by omega, by go_num, by rw [HBS.out]; simp [bhI, *], Lib.hid (Below.dn hB.out _)⟩
              case measure => simp [intOf]; omega
      · obtain rfl : j = L.length := by omega
        have hfin := HFL.out.fin
        generalize bhI L ((k : Int) + 1) L.length = bb at *
        cases en
        · obtain rfl : bb = true := hfin.1 rfl
          clear hfin
          go_wp2_with (go_at_call 31; refine (HEN.out _).mono ?_; rintro e wm ⟨rfl, rfl⟩)
          go_ret
          exact ⟨rfl, HZZ.out.step2 hB.out⟩
        · clear hfin
          cases bb
          · skip
            go_wp2_with (go_at_call 31; refine (HEN.out _).mono ?_; rintro e wm ⟨rfl, rfl⟩)
            go_ret
            exact ⟨rfl, HZZ.out.step2 hB.out⟩
          · skip
            go_wp2_with (go_at_call 31; refine (HEN.out _).mono ?_; rintro e wm ⟨rfl, rfl⟩)
            go_ret
            exact ⟨rfl, HZZ.out.step2 hB.out⟩
end Go.Proofs.YtadkbcdopcehhaaDoor
