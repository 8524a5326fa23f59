/- HeapShares: the walk. -/
import Derived.Test.YtodfpclekihbhaaG49
import Derived.Test.YtodfpclekihbhaaG54
import Derived.Test.YtodfpclekihbhaaG55
namespace Go.Proofs.Ytodfpclekihbhaa
open Go.RowKit Go.Shelf

set_option maxRecDepth 100000 in
theorem run_slice_64 (w : World) (A : Option Addr) (D C f t : Nat) (h1 : f ≤ t) (h2 : t ≤ C) : (Instr.slice 33 (.slice A D C) (some (.int .i64 (f : Int))) (some (.int .i64 (t : Int))) (some (.int .i64 (t : Int)))).run Try.prog w = .ok (sliced A f t t 1) w := by
  obtain ⟨i0, hi, hz0, hz1, hz2⟩ := info_parts Try.infoI64
  rw [run_slice_lhm w 33 A D C Try.underlying33 .i64 .i64 .i64 f t t (by omega) (by omega) (by omega) (by omega)]
  simp [go_sem, sliced]
set_option maxRecDepth 100000 in
set_option maxHeartbeats 64000000 in
theorem law_shares {w : World} {A : Option Addr} (C : Nat) {l : List CutM} (n : Nat) (hn : n ≤ 255) (h : CutsAt w A l) (hl : l.length ≤ 9223372036854775807) :
    Calls Try.prog 3 #[.int .u8 (n : Int), .slice A l.length C] w fun e w' => e = .returned (.bool true) ∧ Below w.heap.size w w' := by
  have HL := Lib.hid h
  clear h
  by_cases hn30 : 30 < n
  · have k1 : decide ((30 : Int) < (n : Int)) = true := decide_eq_true (by omega)
    go_enter Try.func3, Try.ntmps3
    go_wp2_with (go_at_call 11; refine (awake17 w).mono ?_; rintro e wa ⟨rfl, hb⟩; have HB0 := Lib.hid hb; clear hb)
    all_goals go_ret
    all_goals exact ⟨rfl, HB0.out⟩
  · by_cases hl30 : 30 < l.length
    · have k1 : decide ((30 : Int) < (n : Int)) = false := decide_eq_false (by omega)
      have k2 : decide ((30 : Int) < (l.length : Int)) = true := decide_eq_true (by omega)
      go_enter Try.func3, Try.ntmps3
      go_wp2_with (go_at_call 11; refine (awake17 w).mono ?_; rintro e wa ⟨rfl, hb⟩; have HB0 := Lib.hid hb; clear hb)
      all_goals go_ret
      all_goals exact ⟨rfl, HB0.out⟩
    · have k1 : decide ((30 : Int) < (n : Int)) = false := decide_eq_false (by omega)
      have k2 : decide ((30 : Int) < (l.length : Int)) = false := decide_eq_false (by omega)
      go_enter Try.func3, Try.ntmps3
      go_wp2_with (first
        | (go_at_call 11; refine (awake17 w).mono ?_; rintro e wa ⟨rfl, hb⟩; have HB0 := Lib.hid hb; clear hb)
        | (go_at_call 12; refine (new_car wa).mono ?_; rintro e w1 ⟨hb, rfl, hc⟩
           have c0 : Car wa hb (fun _ => False) emptyH (w1.alloc (.cells #[.bool false] 4)) := hc.below ((Below.refl _ _).alloc (Nat.le_refl _) _)
           have hrd : RdB (w1.alloc (.cells #[.bool false] 4)) (some ⟨w1.heap.size, 0, none⟩) 1 [false] := ⟨fun p hp j u hj => by
             injection hp with hp
             subst hp
             cases j with
             | zero => simp at hj; subst hj; exact cell_of_heap (heap_alloc_new w1 _) rfl
             | succ j => simp at hj, fun e => by cases e⟩
           have HC := Lib.hid (c0.array ok0 (by decide) 0 hrd n)
           rw [(Sh.array n (by omega)).1] at HC
           have HBW := Lib.hid c0.bel
           clear hc c0 hrd)
        | (go_at_call 13; refine HC.out.mono ?_; rintro e w3 ⟨rfl, hc3⟩
           have HS0 := Lib.hid (SA.start (n := n) hc3.1 (ok0.array 0 [false] n (by simp only [List.length_cons, List.length_nil]; omega)))
           have hmk := run_mk64 w3 n (by omega)
           clear hc3))
      have HLA : Hid (CutsAt wa A l) := Lib.hid (HL.out.below HB0.out)
      have HSH := Lib.hid (Sh.array n (by omega)).2
      have hln : l.length ≤ 30 := by omega
      have hn3 : n ≤ 30 := by omega
      clear HL HC HBW hmk hl30 hn30 hl k2
      go_loopw [8, 9, 57] (fun s8 s9 p wr => ∃ (j m : Nat) (H : Hp) (R : List Int) (rs : List (Nat × Nat)) (A9 : Option Addr) (C9 : Nat) (A8 : Option Addr) (C8 : Nat) (vs : List Value), j ≤ l.length ∧ p = .int .i64 j ∧ s8 = .slice A8 m C8 ∧ s9 = .slice A9 m C9 ∧ 0 < m ∧ m ≤ j + 1 ∧ Hid (SA (fun _ => False) wa wr hb H (j + 1) w3.heap.size R A9 C9 (numsL m) A8 C8 vs) ∧ Hid (Sh H R rs ∧ rs.length = m ∧ vs.length = m ∧ R.length = n) ∧ Hid (∀ i (h1 : i < vs.length) (h2 : i < rs.length), PV w3.heap.size (vs[i]'h1) (rs[i]'h2))) (fun _ _ i _ => l.length - (intOf i).toNat)
      case atStart => exact ⟨0, 1, _, _, [(0, n)], _, 1, _, 1, _, Nat.zero_le _, rfl, rfl, rfl, by decide, by omega, HS0, Lib.hid ⟨HSH.out, rfl, rfl, by simp⟩, Lib.hid fun i h1 h2 => by
        obtain rfl : i = 0 := by simp at h1; exact h1
        exact ⟨some ⟨w3.heap.size, 0, none⟩, n, by simp, by simp, fun _ => by simp, by simp⟩⟩
      case round =>
        clear HS0 HSH
        obtain ⟨j, m, H, R, rs, A9, C9, A8, C8, vs, hj, rfl, rfl, rfl, hm, hmj, HS, HH, HV⟩ := hrel
        by_cases hlt : j < l.length
        · obtain ⟨g, o, hA, hc⟩ := HLA.out.below HS.out.car.bel j hlt
          have q0 : (0 : Int) ≤ (j : Int) := by omega
          have q1 : (j : Int) < (l.length : Int) := by omega
          rw [hA]
          clear hA
          generalize l[j]'hlt = cu at *
          obtain ⟨hg, c0, c1, c2, c3, c4⟩ := hc
          have HS1 := Lib.hid (HS.out.box (.cells #[.int .i64 cu.f, .int .i64 cu.t, .int .i64 cu.at_, .int .i64 cu.num, .bool cu.copy] 37))
          obtain ⟨g9, g8, rfl, rfl, hcell⟩ := HS1.out.sm.open HH.out.2.2.1 hm
          obtain ⟨k, hk⟩ : ∃ k, k = j % m := ⟨_, rfl⟩
          have hrem : Int.tmod (j : Int) (m : Int) = (k : Int) := by rw [hk, Int.natCast_emod, Int.tmod_eq_emod_of_nonneg (by omega)]
          have hm0 : (m : Int) ≠ 0 := by omega
          have hkm : k < m := by rw [hk]; exact Nat.mod_lt _ hm
          have r0 : (0 : Int) ≤ (k : Int) := by omega
          have r1 : (k : Int) < (m : Int) := by omega
          obtain ⟨e9, e8⟩ := hcell k hkm
          have hkr : k < rs.length := by rw [HH.out.2.1]; exact hkm
          have hkv : k < vs.length := by rw [HH.out.2.2.1]; exact hkm
          obtain ⟨Ak, Ck, hv, hcap, hAk, hAn⟩ := HV.out k hkv hkr
          rw [hv] at e8
          obtain ⟨D, hD⟩ : ∃ D, D = (rs[k]'hkr).2 - (rs[k]'hkr).1 := ⟨_, rfl⟩
          have HD := Lib.hid hD
          rw [← hD] at e8 hcap
          obtain ⟨W4, hW4⟩ : ∃ W4, W4 = (wr.alloc (.cells #[.int .i64 cu.f, .int .i64 cu.t, .int .i64 cu.at_, .int .i64 cu.num, .bool cu.copy] 37)).drew := ⟨_, rfl⟩
          have HW4 := Lib.hid hW4.symm
          have HS4 : Hid (SA (· = wr.heap.size) wa W4 hb H (j + 1) w3.heap.size R (some ⟨g9, 0, none⟩) C9 (numsL m) (some ⟨g8, 0, none⟩) C8 vs) := Lib.hid (by rw [hW4]; exact HS1.out.below (Below.refl _ _).drew)
          have hcb : W4.heap[wr.heap.size]? = some (.cells #[.int .i64 cu.f, .int .i64 cu.t, .int .i64 cu.at_, .int .i64 cu.num, .bool cu.copy] 37 (0, 0)) := by rw [hW4]; exact heap_alloc_new wr _
          have HCB := Lib.hid hcb
          clear hW4 hcb
          have HPN : Hid ((cu.f < 0 ∨ cu.t < cu.f ∨ (D : Int) < cu.t) → Calls Try.prog 14 #[.pointer (some ⟨hb, 0, none⟩), .int .i64 ((k : Int) + 1), .int .i64 cu.f, .int .i64 cu.t] W4 fun e w' => e = .returned (.tuple #[.int .i64 0, .int .i64 11]) ∧ CPost wa W4 hb (fun x => SK w3.heap.size (some ⟨g9, 0, none⟩) (some ⟨g8, 0, none⟩) x ∨ x = wr.heap.size) H w') := Lib.hid fun hbad => by
            have := HS4.out.car.part HS4.out.ok (by omega) ((k : Int) + 1) cu.f cu.t
            rw [HH.out.1.part_no hkr (by rw [← hD]; exact hbad)] at this
            exact this
          clear hD hcell hv hk
          by_cases b1 : cu.f < 0
          · have HPN := Lib.hid (HPN.out (.inl b1))
            go_wp2
            go_region
            go_wp2_with (go_at_call 14; rw [HW4.out]; refine HPN.out.mono ?_; rintro e w5 ⟨rfl, hc5⟩; have H5 := Lib.hid (HS4.out.next hc5 (HS4.out.ok.mono (Nat.le_succ _))).drop; clear hc5)
            go_roundw
            case rel => exact ⟨j + 1, m, H, R, rs, _, C9, _, C8, vs, by omega, by go_num, rfl, rfl, hm, by omega, H5, HH, HV⟩
            case measure => simp [intOf]; omega
          · by_cases b2 : cu.t < cu.f
            · have HPN := Lib.hid (HPN.out (.inr (.inl b2)))
              go_wp2
              go_region
              go_wp2_with (go_at_call 14; rw [HW4.out]; refine HPN.out.mono ?_; rintro e w5 ⟨rfl, hc5⟩; have H5 := Lib.hid (HS4.out.next hc5 (HS4.out.ok.mono (Nat.le_succ _))).drop; clear hc5)
              go_roundw
              case rel => exact ⟨j + 1, m, H, R, rs, _, C9, _, C8, vs, by omega, by go_num, rfl, rfl, hm, by omega, H5, HH, HV⟩
              case measure => simp [intOf]; omega
            · by_cases b3 : (D : Int) < cu.t
              · have HPN := Lib.hid (HPN.out (.inr (.inr b3)))
                go_wp2
                go_region
                go_wp2_with (go_at_call 14; rw [HW4.out]; refine HPN.out.mono ?_; rintro e w5 ⟨rfl, hc5⟩; have H5 := Lib.hid (HS4.out.next hc5 (HS4.out.ok.mono (Nat.le_succ _))).drop; clear hc5)
                go_roundw
                case rel => exact ⟨j + 1, m, H, R, rs, _, C9, _, C8, vs, by omega, by go_num, rfl, rfl, hm, by omega, H5, HH, HV⟩
                case measure => simp [intOf]; omega
              · have HPY : Hid (∀ f t : Nat, cu.f = f → cu.t = t → Calls Try.prog 14 #[.pointer (some ⟨hb, 0, none⟩), .int .i64 ((k : Int) + 1), .int .i64 (f : Int), .int .i64 (t : Int)] W4 fun e w' => e = .returned (.tuple #[.int .i64 ((m : Int) + 1), .int .i64 0]) ∧ CPost wa W4 hb (fun x => SK w3.heap.size (some ⟨g9, 0, none⟩) (some ⟨g8, 0, none⟩) x ∨ x = wr.heap.size) (partH H ((k : Int) + 1) f t).1 w') := Lib.hid fun f t hf ht => by
                  have := HS4.out.car.part HS4.out.ok (by omega) ((k : Int) + 1) (f : Int) (t : Int)
                  rw [(HH.out.1.part hkr (f := f) (t := t) (by omega) (by rw [← HD.out]; omega)).1, HH.out.2.1] at this
                  exact this
                have HPS : Hid (∀ f t : Nat, cu.f = f → cu.t = t → Sh (partH H ((k : Int) + 1) f t).1 R (rs ++ [((rs[k]'hkr).1 + f, (rs[k]'hkr).1 + t)]) ∧ Ok (partH H ((k : Int) + 1) f t).1 (j + 2)) := Lib.hid fun f t hf ht => ⟨(HH.out.1.part hkr (f := f) (t := t) (by omega) (by rw [← HD.out]; omega)).2, HS4.out.ok.part _ _ _⟩
                clear HPN
                generalize cu.f = cf at *
                generalize cu.t = ct at *
                generalize cu.at_ = ca at *
                generalize cu.num = cn at *
                obtain ⟨f, rfl⟩ : ∃ f : Nat, cf = f := ⟨cf.toNat, by omega⟩
                obtain ⟨t, rfl⟩ : ∃ t : Nat, ct = t := ⟨ct.toNat, by omega⟩
                have HPY := Lib.hid (HPY.out f t rfl rfl)
                have HPS := Lib.hid (HPS.out f t rfl rfl)
                obtain ⟨H2, hH2⟩ : ∃ H2, H2 = (partH H ((k : Int) + 1) f t).1 := ⟨_, rfl⟩
                rw [← hH2] at HPY HPS
                clear hH2
                go_wp2
                go_region
                go_wp2_with (go_at_call 14; rw [HW4.out]; refine HPY.out.mono ?_; rintro e w5 ⟨rfl, hc5⟩
                             have H5 := Lib.hid (HS4.out.next hc5 HPS.out.2)
                             have hcb5 := hc5.at HCB.out (.inl (.inr rfl))
                             have HCB5 := Lib.hid hcb5
                             have d0 := cell_of_heap (v := .int .i64 (f : Int)) hcb5 (j := 0) rfl
                             have d1 := cell_of_heap (v := .int .i64 (t : Int)) hcb5 (j := 1) rfl
                             have d2 := cell_of_heap (v := .int .i64 ca) hcb5 (j := 2) rfl
                             have d3 := cell_of_heap (v := .int .i64 cn) hcb5 (j := 3) rfl
                             have d4 := cell_of_heap (v := .bool cu.copy) hcb5 (j := 4) rfl
                             have dl := lt_of_heap hcb5
                             clear hc5 hcb5)
                have hft : f ≤ t := by omega
                have htD : t ≤ D := by omega
                obtain ⟨AV, hAV⟩ : ∃ AV, AV = (if t = f then Ak else Ak.map (·.add (f * 1))) := ⟨_, rfl⟩
                obtain ⟨L, hL⟩ : ∃ L, L = t - f := ⟨_, rfl⟩
                have hV : Value.slice AV L L = sliced Ak f t t 1 := by rw [hAV, hL]; rfl
                have hvo : (Value.slice AV L L).oneCell' = true := rfl
                have hrun : ∀ w, (Instr.slice 33 (.slice Ak D Ck) (some (.int .i64 (f : Int))) (some (.int .i64 (t : Int))) (some (.int .i64 (t : Int)))).run Try.prog w = .ok (.slice AV L L) w := fun w => by rw [hV]; exact run_slice_64 w Ak D Ck f t hft (by omega)
                have HPV : Hid (PV w3.heap.size (.slice AV L L) ((rs[k]'hkr).1 + f, (rs[k]'hkr).1 + t)) := Lib.hid (by rw [hV]; exact PV.part (by rw [← HD.out]; exact hcap) hAk hAn hft (by rw [← HD.out]; exact htD))
                have HLL := Lib.hid hL
                clear hV hAV hL
                have HMM : Hid (rs.length = m ∧ vs.length = m ∧ R.length = n) := Lib.hid HH.out.2
                go_cut [8, 9] from 115 to 129 (fun s8 s9 wc => ∃ (ga ca' gb cb' : Nat), s8 = .slice (some ⟨gb, 0, none⟩) (m + 1) cb' ∧ s9 = .slice (some ⟨ga, 0, none⟩) (m + 1) ca' ∧ Hid (SA (· = wr.heap.size) wa wc hb H2 (j + 2) w3.heap.size R (some ⟨ga, 0, none⟩) ca' (numsL m ++ [(m : Int) + 1]) (some ⟨gb, 0, none⟩) cb' (vs ++ [.slice AV L L])) ∧ Hid (wc.heap[wr.heap.size]? = some (.cells #[.int .i64 (f : Int), .int .i64 (t : Int), .int .i64 ca, .int .i64 cn, .bool cu.copy] 37 (0, 0))))
                case first =>
                  refine sharesA wa wr w3 hb j k m n g9 C9 g8 C8 f t ca cn cu.copy Ak D Ck AV L R rs vs H2 w5 hm (by omega) HMM HCB5 H5 hvo hrun (fun _ _ _ _ _ h => h) (by assumption) (by assumption)
                case rest =>
                  obtain ⟨ga, ca', gb, cb', rfl, rfl, HS6', HB6⟩ := hcut
                  have HS6 : Hid (SA (· = wr.heap.size) wa wc hb H2 (j + 2) w3.heap.size R (some ⟨ga, 0, none⟩) ca' (numsL (m + 1)) (some ⟨gb, 0, none⟩) cb' (vs ++ [.slice AV L L])) := Lib.hid (by rw [numsL_succ]; exact HS6'.out)
                  have HVX : Hid (∀ i (h1 : i < (vs ++ [Value.slice AV L L]).length) (h2 : i < (rs ++ [((rs[k]'hkr).1 + f, (rs[k]'hkr).1 + t)]).length), PV w3.heap.size ((vs ++ [Value.slice AV L L])[i]'h1) ((rs ++ [((rs[k]'hkr).1 + f, (rs[k]'hkr).1 + t)])[i]'h2)) := Lib.hid fun i h1 h2 => by
                    by_cases hi : i < m
                    · rw [List.getElem_append_left (by rw [HMM.out.2.1]; exact hi), List.getElem_append_left (by rw [HMM.out.1]; exact hi)]
                      exact HV.out i _ _
                    · have e1 : i = m := by rw [List.length_append, HMM.out.1] at h2; simp at h2; omega
                      subst e1
                      rw [List.getElem_append_right (by rw [HMM.out.2.1]; exact Nat.le_refl _), List.getElem_append_right (by rw [HMM.out.1]; exact Nat.le_refl _)]
                      simpa using HPV.out
                  have HHX : Hid (Sh H2 R (rs ++ [((rs[k]'hkr).1 + f, (rs[k]'hkr).1 + t)]) ∧ (rs ++ [((rs[k]'hkr).1 + f, (rs[k]'hkr).1 + t)]).length = m + 1 ∧ (vs ++ [Value.slice AV L L]).length = m + 1 ∧ R.length = n) := Lib.hid ⟨HPS.out.1, by rw [List.length_append, HMM.out.1]; rfl, by rw [List.length_append, HMM.out.2.1]; rfl, HMM.out.2.2⟩
                  have hD30 : D ≤ 30 := by have h1 := HH.out.1.le k hkr; have h2 := HMM.out.2.2; have h3 := HD.out; omega
                  have d0 := cell_of_heap (v := .int .i64 (f : Int)) HB6.out (j := 0) rfl
                  have d1 := cell_of_heap (v := .int .i64 (t : Int)) HB6.out (j := 1) rfl
                  have d2 := cell_of_heap (v := .int .i64 ca) HB6.out (j := 2) rfl
                  have d3 := cell_of_heap (v := .int .i64 cn) HB6.out (j := 3) rfl
                  have d4 := cell_of_heap (v := .bool cu.copy) HB6.out (j := 4) rfl
                  have dl := lt_of_heap HB6.out
                  clear HS HS1 HS4 HS6' HPY H5 HCB HCB5 HW4 c0 c1 c2 c3 c4 hrun hvo HPS HV HH HLA HB0
                  generalize cu.copy = cp at *
                  go_upto_if 131 with (fail)
                  go_cut [] from 130 to 204 (fun wx => ∃ (H3 : Hp) (R3 : List Int), Hid (SA (fun _ => False) wa wx hb H3 (j + 2) w3.heap.size R3 (some ⟨ga, 0, none⟩) ca' (numsL (m + 1)) (some ⟨gb, 0, none⟩) cb' (vs ++ [.slice AV L L])) ∧ Hid (Sh H3 R3 (rs ++ [((rs[k]'hkr).1 + f, (rs[k]'hkr).1 + t)]) ∧ R3.length = n))
                  case first =>
                    refine sharesB wa wr w3 hb j k m n g9 C9 g8 C8 f t ca cn cp Ak D Ck AV L R rs vs H2 wc ga ca' gb cb' hm hmj hkm hn3 (by omega) hft htD hD30 hcap hkr hAk hAn HD HLL HPV HMM HS6 HHX HB6 (by assumption) (by assumption) ?hc
                    case hc =>
                      intro u4 u19 u20 u130 u131 u132 u133 u134 u135 u136 u137 u138 u139 u140 u141 u142 u143 u144 u145 u146 u147 u148 u149 u150 u151 u152 u153 u154 u155 u156 u157 u158 u159 u160 u161 u162 u163 u164 u165 u166 u167 u168 u169 u170 u171 u172 u173 u174 u175 u176 u177 u178 u179 u180 u181 u182 u183 u184 u185 u186 u187 u188 u189 u190 u191 u192 u193 u194 u195 u196 u197 u198 u199 u200 u201 u202 u203 u204 w6 H6
                      go_wp2
                      go_roundw
                      case rel => exact ⟨j + 1, m + 1, H2, R, _, _, ca', _, cb', _, by omega, by go_num, rfl, rfl, by omega, by omega, H6, HHX, HVX⟩
                      case measure => simp [intOf]; omega
                  case rest =>
                    obtain ⟨H3, R3, HS3, HH3⟩ := hcut
                    obtain ⟨VX, hVX⟩ : ∃ VX, VX = vs ++ [Value.slice AV L L] := ⟨_, rfl⟩
                    obtain ⟨RX, hRX⟩ : ∃ RX, RX = rs ++ [((rs[k]'hkr).1 + f, (rs[k]'hkr).1 + t)] := ⟨_, rfl⟩
                    have HVX3 : Hid (∀ i (h1 : i < VX.length) (h2 : i < RX.length), PV w3.heap.size (VX[i]'h1) (RX[i]'h2)) := Lib.hid (by subst hVX hRX; exact HVX.out)
                    have HHZ : Hid (Sh H3 R3 RX ∧ RX.length = m + 1 ∧ VX.length = m + 1 ∧ R3.length = n) := Lib.hid (by subst hVX hRX; exact ⟨HH3.out.1, HHX.out.2.1, HHX.out.2.2.1, HH3.out.2⟩)
                    rw [← hVX] at HS3
                    clear HVX HHX HH3 HB6 d0 d1 d2 d3 d4 dl HPV HLL HMM hVX hRX
                    go_step
                    refine sharesC wa w3 wc hb j m n H3 R3 ga ca' gb cb' VX RX hn3 (by omega) (by omega) HS3 HVX3 HHZ ?hc2
                    case hc2 =>
                      intro u4 u21 u22 u23 u24 u25 u26 u27 u28 u205 u206 u207 u208 u209 u210 u211 u212 u213 u214 u215 u216 u217 u218 u219 u220 u221 u222 u223 u224 u225 u226 u227 u228 u229 u230 u231 u232 u233 u234 u235 u236 u237 u238 u239 u240 u241 u242 u243 u244 u245 u246 u247 u248 u249 u250 u251 u252 u253 u254 u255 wx HR
                      go_wp2
                      go_roundw
                      case rel => exact ⟨j + 1, m + 1, H3, R3, RX, _, ca', _, cb', VX, by omega, by go_num, rfl, rfl, by omega, by omega, HR, HHZ, HVX3⟩
                      case measure => simp [intOf]; omega
        · obtain rfl : j = l.length := by omega
          go_wp2
          go_ret
          exact ⟨rfl, HB0.out.trans (HS.out.car.bel.mono HB0.out.size)⟩
end Go.Proofs.Ytodfpclekihbhaa

