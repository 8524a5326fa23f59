/- HeapReaches: what can be reached exists; what exists and cannot be reached is referred to by something else that cannot be reached. -/
import Derived.Test.YtodfpclekihbhaaG24
import Derived.Test.YtodfpclekihbhaaG22
namespace Go.Proofs.Ytodfpclekihbhaa
open Go.RowKit Go.Shelf

/-- What is noted of the references of objects that are not reached. -/
structure Frm (H : Hp) (M F : List (Int × Bool)) (l : List Int) : Prop where
  tr : AllT F
  all : ∀ r ∈ l, ¬ InM M r → ∀ x ∈ refsH H r, InM F x
theorem Frm.nil (H : Hp) (M : List (Int × Bool)) : Frm H M [] [] := ⟨AllT.nil, fun r h => by cases h⟩
theorem Frm.skip {H : Hp} {M F : List (Int × Bool)} {l : List Int} (h : Frm H M F l) {r : Int} (hr : InM M r) : Frm H M F (l ++ [r]) := ⟨h.tr, fun x hx hn => by
  rcases List.mem_append.1 hx with hx | hx
  · exact h.all x hx hn
  · obtain rfl : x = r := by simpa using hx
    exact absurd hr hn⟩
theorem Frm.add {H : Hp} {M F F' : List (Int × Bool)} {l : List Int} (h : Frm H M F l) {r : Int} (ht : AllT F') (hs : ∀ x, InM F x → InM F' x) (ha : ∀ x ∈ refsH H r, InM F' x) : Frm H M F' (l ++ [r]) := ⟨ht, fun x hx hn y hy => by
  rcases List.mem_append.1 hx with hx | hx
  · exact hs y (h.all x hx hn y hy)
  · obtain rfl : x = r := by simpa using hx
    exact ha y hy⟩
set_option maxRecDepth 100000 in
set_option maxHeartbeats 8000000 in
theorem law_reaches {w : World} {A : Option Addr} (C : Nat) {l : List OpM} (h : OpsAt w A l) (hn : l.length ≤ 9223372036854775807) :
    Calls Try.prog 7 #[.slice A l.length C] w fun e w' => e = .returned (.bool true) ∧ Below w.heap.size w w' := by
  have HL := Lib.hid h
  have HN := Lib.hid hn
  clear h hn
  go_enter Try.func7, Try.ntmps7
  go_wp2_with (first
    | (go_at_call 11; refine (awake17 w).mono ?_; rintro e wa ⟨rfl, hb⟩
       have HB0 := Lib.hid hb
       clear hb)
    | (go_at_call 43; refine (small_calls C (HL.out.below HB0.out) HN.out).mono ?_; rintro e wb ⟨⟨sb, rfl, hs⟩, hb⟩
       have HS := Lib.hid hs
       have HB1 := Lib.hid (HB0.out.step2 hb)
       clear hs hb)
    | (go_at_call 12; refine (new_car wb).mono ?_; rintro e w1 ⟨hb, rfl, hc⟩
       have HC := Lib.hid hc
       clear hc))
  · go_ret
    exact ⟨rfl, HB1.out⟩
  · have hl50 : l.length ≤ 50 := (HS.out (by have hh := ‹(!sb) = false›; simpa using hh)).1
    have HSM : Hid (∀ j (h : j < l.length), OpSm (l[j]'h)) := Lib.hid (HS.out (by have hh := ‹(!sb) = false›; simpa using hh)).2
    have HLB : Hid (OpsAt wb A l) := Lib.hid (HL.out.below HB1.out)
    clear HS HL HN
    go_loopw [23] (fun p wr => ∃ (j : Nat) (H : Hp), j ≤ l.length ∧ p = .int .i64 j ∧ Hid (Car wb hb (fun _ => False) H wr ∧ Ok H j)) (fun i _ => l.length - (intOf i).toNat)
    case atStart => exact ⟨0, emptyH, Nat.zero_le _, rfl, Lib.hid ⟨HC.out, Ok.empty⟩⟩
    case round =>
      obtain ⟨j, H, hj, rfl, HH⟩ := hrel
      by_cases hlt : j < l.length
      · obtain ⟨hr, g, o, hA, hc⟩ := HLB.out.below HH.out.1.bel j hlt
        have HM : Hid (OpRd wr (l[j]'hlt) ∧ OpSm (l[j]'hlt)) := Lib.hid ⟨hr, HSM.out j hlt⟩
        have q0 : (0 : Int) ≤ (j : Int) := by omega
        have q1 : (j : Int) < (l.length : Int) := by omega
        rw [hA]
        clear hA hr
        generalize l[j]'hlt = m at *
        obtain ⟨hg, c0, c1, c2, c3, c4, c5, c6, c7, c8, c9⟩ := hc
        have hal : Below wr.heap.size wr (wr.alloc (.cells m.box 76)) := (Below.refl _ _).alloc (Nat.le_refl _) _
        have HD := Lib.hid (do_box (HH.out.1.below hal) HH.out.2 (by omega) m (HM.out.1.below hal) HM.out.2)
        unfold OpM.box at HD
        clear hal
        go_wp2_with (go_at_call 44; refine HD.out.mono ?_; rintro e w3 ⟨⟨v, rfl⟩, H', hc3, hok3⟩
                     have H3 := Lib.hid (And.intro hc3.1 hok3)
                     clear hc3 hok3)
        go_roundw
        case rel => exact ⟨j + 1, H', by omega, by go_num, H3⟩
        case measure => simp [intOf]; omega
      · obtain rfl : j = l.length := by omega
        clear hlt hj HLB HSM HC
        obtain ⟨wp, hwp⟩ : ∃ wp : World, wp = wr := ⟨_, rfl⟩
        subst hwp
        have hmm := @run_makeMap Try.prog
        have HRE := Lib.hid (reached_calls HH.out.1 HH.out.2 (by omega))
        obtain ⟨L, hL⟩ : ∃ L, L = allH H := ⟨_, rfl⟩
        have hall : ∀ W, Below wp.heap.size wp W → Calls Try.prog 40 #[.pointer (some ⟨hb, 0, none⟩)] W (RfPost W L) := fun W hW => by rw [hL]; exact (HH.out.1.below hW).all HH.out.2 (by omega)
        have HALL := Lib.hid hall
        have hL50 : L.length ≤ 50 := by have := all_len HH.out.2; rw [← hL] at this; omega
        have HLE := Lib.hid hL
        clear hall hL
        go_wp2_with (first
          | (go_at_call 45; refine HRE.out.mono ?_; rintro e w5 ⟨mb, M, rfl, hlo, hmap, hrch, hb5⟩
             have HRC := Lib.hid hrch
             have HMB := Lib.hid (And.intro hlo hmap.lt)
             have HM5 := Lib.hid hmap
             have HLO := Lib.hid hb5.size
             have HMK := Lib.hid (Mp.MapIs.made w5 kV Value.bool)
             have HB5A : Hid (Below wp.heap.size wp (w5.alloc (.map #[] 0))) := Lib.hid (hb5.trans ((Below.refl _ _).alloc hb5.size _))
             clear hlo hmap hrch hb5)
          | (go_at_call 40; refine (HALL.out _ HB5A.out).mono ?_; rintro e w6 ⟨LA, LC, rfl, ho, hb6⟩
             have HM6 : Hid (Mp.MapIs w6 mb kV Value.bool M ∧ Mp.MapIs w6 w5.heap.size kV Value.bool [] ∧ mb < w5.heap.size ∧ w5.heap.size < w6.heap.size) := Lib.hid ⟨HM5.out.of_block (((Below.refl _ _).alloc (Nat.le_refl _) _ |>.step2 hb6).block _ HMB.out.2), HMK.out.of_block (hb6.block _ (by simp)), HMB.out.2, by have := hb6.size; simp at this; omega⟩
             have HR6 : Hid (RdI w6 LA L ∧ ∀ a, LA = some a → w5.heap.size < a.block ∧ a.block < w6.heap.size) := Lib.hid ⟨RdI.of_own ho, fun a ha => by have := own_blk ho a ha; simp at this; omega⟩
             have HB6 := Lib.hid (HB5A.out.step2 hb6)
             clear ho hb6))
        clear hmm HRE HMK HB5A HM5
        generalize w5.heap.size = m2 at *
        go_loopw [37] (fun p wi => ∃ (j : Nat) (F : List (Int × Bool)), j ≤ L.length ∧ p = .int .i64 j ∧ Hid (Mut (· = m2) w6 wi ∧ Mp.MapIs wi m2 kV Value.bool F ∧ Below wp.heap.size wp wi) ∧ Hid (Frm H M F (L.take j))) (fun i _ => L.length - (intOf i).toNat)
        case atStart => exact ⟨0, [], Nat.zero_le _, rfl, Lib.hid ⟨Mut.refl _ _, HM6.out.2.1, HB6.out⟩, Lib.hid (Frm.nil H M)⟩
        case round =>
          obtain ⟨j, F, hj, rfl, HI, HF⟩ := hrel
          have HMI : Hid (Mp.MapIs wr mb kV Value.bool M) := Lib.hid (HM6.out.1.of_block (HI.out.1.block _ HM6.out.1.lt (by have := HM6.out.2.2.1; omega)))
          by_cases hlt : j < L.length
          · obtain ⟨g, o, hA, hg, c0⟩ := HR6.out.1.mut HI.out.1 (fun a ha e => by have h1 := (HR6.out.2 a ha).1; have e : a.block = m2 := e; omega) j hlt
            have q0 : (0 : Int) ≤ (j : Int) := by omega
            have q1 : (j : Int) < (L.length : Int) := by omega
            have HT : Hid (L.take (j + 1) = L.take j ++ [L[j]'hlt]) := Lib.hid (List.take_succ_eq_append_getElem hlt)
            generalize L[j]'hlt = r at *
            have HAE := Lib.hid hA
            rw [hA]
            clear hA
            have hlk := lookB_run HMI.out r
            cases hgx : Mp.get M r with
            | some bb =>
              have hbb := HRC.out.tr r bb hgx
              subst hbb
              rw [hgx] at hlk
              have hlk : (Instr.lookup 79 (.map (some mb)) (.int .i64 r) false).run Try.prog wr = .ok (.bool true) wr := hlk
              have HIN : Hid (InM M r) := Lib.hid hgx
              clear hgx
              go_wp2
              go_roundw
              case rel => (try rw [← HAE.out]); exact ⟨j + 1, F, by omega, by go_num, HI, Lib.hid (by rw [HT.out]; exact HF.out.skip HIN.out)⟩
              case measure => simp [intOf]; omega
            | none =>
              rw [hgx] at hlk
              have hlk : (Instr.lookup 79 (.map (some mb)) (.int .i64 r) false).run Try.prog wr = .ok (.bool false) wr := hlk
              obtain ⟨R, hR⟩ : ∃ R, R = refsH H r := ⟨_, rfl⟩
              have hq := (HH.out.1.below HI.out.2.2).refs HH.out.2 (by omega) r
              rw [← hR] at hq
              have HQ := Lib.hid hq
              have hR9 : R.length ≤ 40000001 := by have h1 := refs_len HH.out.2 r; have h2 := HH.out.2.mu4 (by omega); rw [← hR] at h1; omega
              have HRR := Lib.hid hR
              clear hq hR hgx
              go_wp2_with (go_at_call 41; refine HQ.out.mono ?_; rintro e w7 ⟨RA, RC, rfl, ho, hb7⟩
                           have HI7 : Hid (Mut (· = m2) w6 w7 ∧ Mp.MapIs w7 m2 kV Value.bool F ∧ Below wp.heap.size wp w7) := Lib.hid ⟨HI.out.1.then (Mut.of_below hb7), HI.out.2.1.of_block (hb7.block _ HI.out.2.1.lt), HI.out.2.2.step2 hb7⟩
                           have HR7 : Hid (RdI w7 RA R ∧ ∀ a, RA = some a → m2 < a.block) := Lib.hid ⟨RdI.of_own ho, fun a ha => by have := own_blk ho a ha; have := HI.out.2.1.lt; omega⟩
                           clear ho hb7)
              go_loopw [49] (fun p wi => ∃ (j : Nat) (F2 : List (Int × Bool)), j ≤ R.length ∧ p = .int .i64 j ∧ Hid (Mut (· = m2) w6 wi ∧ Mp.MapIs wi m2 kV Value.bool F2 ∧ Below wp.heap.size wp wi) ∧ Hid (RdI wi RA R) ∧ Hid (AllT F2 ∧ (∀ x, InM F x → InM F2 x) ∧ ∀ x ∈ R.take j, InM F2 x)) (fun i _ => R.length - (intOf i).toNat)
              case atStart => exact ⟨0, F, Nat.zero_le _, rfl, HI7, Lib.hid HR7.out.1, Lib.hid ⟨HF.out.tr, fun _ h => h, fun x hx => by simp at hx⟩⟩
              case round =>
                obtain ⟨i, F2, hi, rfl, HJ, HRJ, HFJ⟩ := hrel
                by_cases hlt2 : i < R.length
                · obtain ⟨g2, o2, hA, hg2, d0⟩ := HRJ.out i hlt2
                  have k0 : (0 : Int) ≤ (i : Int) := by omega
                  have k1 : (i : Int) < (R.length : Int) := by omega
                  have HT2 : Hid (∀ M', InM M' (R[i]'hlt2) → (∀ x ∈ R.take i, InM M' x) → ∀ x ∈ R.take (i + 1), InM M' x) := Lib.hid fun M' h1 h2 => take_mem hlt2 h2 h1
                  generalize R[i]'hlt2 = x at *
                  have HAE2 := Lib.hid hA
                  rw [hA]
                  clear hA
                  obtain ⟨w8, hrun, hm8, hu8⟩ := updB_run HJ.out.2.1 x true
                  have H8 : Hid (Mut (· = m2) w6 w8 ∧ Mp.MapIs w8 m2 kV Value.bool (Mp.put F2 x true) ∧ Below wp.heap.size wp w8) := Lib.hid ⟨HJ.out.1.then hu8, hm8, HJ.out.2.2.trans (hu8.to_below HJ.out.2.2.size fun k hk => by rw [hk]; exact HLO.out)⟩
                  have H8R : Hid (RdI w8 RA R) := Lib.hid (HRJ.out.mut hu8 fun a ha e => by have h1 := HR7.out.2 a ha; have e : a.block = m2 := e; omega)
                  clear hm8 hu8
                  go_wp2
                  go_roundw
                  case rel => (try rw [← HAE2.out]); (try rw [← HAE.out]); exact ⟨i + 1, _, by omega, by go_num, H8, H8R, Lib.hid ⟨HFJ.out.1.put x, fun y hy => InM.put.2 (.inr (HFJ.out.2.1 y hy)), HT2.out _ (InM.put.2 (.inl rfl)) fun y hy => InM.put.2 (.inr (HFJ.out.2.2 y hy))⟩⟩
                  case measure => simp [intOf]; omega
                · obtain rfl : i = R.length := by omega
                  clear hlt2 hi
                  go_wp2
                  go_roundw
                  case rel => (try rw [← HAE.out]); exact ⟨j + 1, F2, by omega, by go_num, HJ, Lib.hid (by rw [HT.out]; exact HF.out.add HFJ.out.1 HFJ.out.2.1 (by have h1 := HFJ.out.2.2; rw [List.take_length, HRR.out] at h1; exact h1))⟩
                  case measure => simp [intOf]; omega
          · obtain rfl : j = L.length := by omega
            rw [List.take_length] at HF
            clear hlt hj
            obtain ⟨wq, hwq⟩ : ∃ wq : World, wq = wr := ⟨_, rfl⟩
            subst hwq
            obtain ⟨es, clk, hbm, hst, hme⟩ := HMI.out
            have hrg := run_range_map (P := Try.prog) wq 79 26 4 mb es clk Try.underlying79 hbm
            have HST := Lib.hid hst
            have HME := Lib.hid hme
            have HBM := Lib.hid hbm
            have HQ0 : Hid (Below wq.heap.size wq (wq.alloc (.mapIter (some mb) clk #[] clk))) := Lib.hid ((Below.refl _ _).alloc (Nat.le_refl _) _)
            have HI0 : Hid ((wq.alloc (.mapIter (some mb) clk #[] clk)).heap[wq.heap.size]? = some (.mapIter (some mb) clk #[] clk)) := Lib.hid (heap_alloc_new wq _)
            clear hst hme hbm
            go_wp2
            clear hrg
            go_loopw [] (fun wi => ∃ seen, Hid (wi.heap[wq.heap.size]? = some (.mapIter (some mb) clk seen clk)) ∧ Hid (Below wq.heap.size wq wi)) (fun wi => (leftOf es (wi.iterSeen wq.heap.size)).size)
            case atStart => exact ⟨#[], HI0, HQ0⟩
            case round =>
              obtain ⟨seen, hri, HB⟩ := hrel
              have hbr : wr.heap[mb]? = some (.map es clk) := (HB.out.block mb (lt_of_heap HBM.out)).trans HBM.out
              have hsd : wr.iterSeen wq.heap.size = seen := by unfold World.iterSeen; rw [hri.out]
              rcases next_step wr wq.heap.size mb clk seen es hri.out hbr HST.out (by have := lt_of_heap HBM.out; omega) with ⟨h0, hnx⟩ | ⟨e, he, hs, hlt, w1, hnx, hen, hr1, hBn⟩
              · have HB9 := Lib.hid (HI.out.2.2.step2 HB.out)
                have HM9 : Hid (Mp.MapIs wr mb kV Value.bool M ∧ Mp.MapIs wr m2 kV Value.bool F) := Lib.hid ⟨HMI.out.of_block (HB.out.block _ HMI.out.lt), HI.out.2.1.of_block (HB.out.block _ HI.out.2.1.lt)⟩
                have HQ9 := Lib.hid (HALL.out _ HB9.out)
                clear h0 hbr hsd hri
                go_wp2_with (go_at_call 40; refine HQ9.out.mono ?_; rintro e w9 ⟨LB, LD, rfl, ho, hb9⟩
                             have HM10 : Hid (Mp.MapIs w9 mb kV Value.bool M ∧ Mp.MapIs w9 m2 kV Value.bool F) := Lib.hid ⟨HM9.out.1.of_block (hb9.block _ HM9.out.1.lt), HM9.out.2.of_block (hb9.block _ HM9.out.2.lt)⟩
                             have HR10 : Hid (RdI w9 LB L) := Lib.hid (RdI.of_own ho)
                             have HB10 := Lib.hid (HB9.out.step2 hb9)
                             clear ho hb9)
                clear hnx
                go_loopw [70] (fun p wi => ∃ (j : Nat), j ≤ L.length ∧ p = .int .i64 j ∧ Hid (Below w9.heap.size w9 wi)) (fun i _ => L.length - (intOf i).toNat)
                case atStart => exact ⟨0, Nat.zero_le _, rfl, Lib.hid (Below.refl _ _)⟩
                case round =>
                  obtain ⟨j, hj, rfl, HK⟩ := hrel
                  by_cases hlt : j < L.length
                  · obtain ⟨g, o, hA, hg, c0⟩ := HR10.out.below HK.out j hlt
                    have q0 : (0 : Int) ≤ (j : Int) := by omega
                    have q1 : (j : Int) < (L.length : Int) := by omega
                    have HX : Hid (L[j]'hlt ∈ allH H) := Lib.hid (by rw [← HLE.out]; exact List.getElem_mem _)
                    generalize L[j]'hlt = r at *
                    have HAE := Lib.hid hA
                    rw [hA]
                    clear hA
                    have hl1 := lookB_run (HM10.out.1.of_block (HK.out.block _ HM10.out.1.lt)) r
                    have hl2 := lookB_run (HM10.out.2.of_block (HK.out.block _ HM10.out.2.lt)) r
                    cases hgx : Mp.get M r with
                    | some bb =>
                      have hbb := HRC.out.tr r bb hgx
                      subst hbb
                      rw [hgx] at hl1
                      have hl1 : (Instr.lookup 79 (.map (some mb)) (.int .i64 r) false).run Try.prog wr = .ok (.bool true) wr := hl1
                      clear hl2 hgx
                      go_wp2
                      go_roundw
                      case rel => (try rw [← HAE.out]); exact ⟨j + 1, by omega, by go_num, HK⟩
                      case measure => simp [intOf]; omega
                    | none =>
                      rw [hgx] at hl1
                      have hl1 : (Instr.lookup 79 (.map (some mb)) (.int .i64 r) false).run Try.prog wr = .ok (.bool false) wr := hl1
                      obtain ⟨y, hy1, hy2, hy3⟩ := from_not HH.out.2 HRC.out ((mem_all H r).1 HX.out) ((not_inM HRC.out.tr).2 hgx)
                      have hin := HF.out.all y (by rw [HLE.out]; exact hy1) hy2 r hy3
                      unfold InM at hin
                      rw [hin] at hl2
                      have hl2 : (Instr.lookup 79 (.map (some m2)) (.int .i64 r) false).run Try.prog wr = .ok (.bool true) wr := hl2
                      clear hgx hin hy1 hy2 hy3
                      go_wp2
                      go_roundw
                      case rel => (try rw [← HAE.out]); exact ⟨j + 1, by omega, by go_num, HK⟩
                      case measure => simp [intOf]; omega
                  · obtain rfl : j = L.length := by omega
                    clear hlt hj
                    go_wp2
                    go_ret
                    exact ⟨rfl, HB1.out.step2 (HH.out.1.bel.step2 (HB10.out.step2 HK.out))⟩
              · obtain ⟨p, hp, hk1, hv1⟩ := entry_of HME.out he
                have hin : InM M p.1 := by
                  have h1 := Mp.get_of_mem HRC.out.nd hp
                  unfold InM
                  rw [h1, HRC.out.tr _ _ h1]
                have hkd := kind_some HH.out.2 (HRC.out.ex _ hin)
                have HB2 : Hid (Below wq.heap.size wq w1) := Lib.hid (HB.out.trans (hBn _ (Nat.le_refl _)))
                have HKC := Lib.hid ((HH.out.1.below (HI.out.2.2.step2 HB2.out)).kind p.1)
                have HR2 := Lib.hid hr1
                have hms : w1.iterSeen wq.heap.size = seen.push e.born := by unfold World.iterSeen; rw [hr1]
                have hkd2 : (kindH H p.1 == 0) = false := by simpa using hkd
                rw [hk1, hv1] at hnx hen
                obtain ⟨pk, pv⟩ := p
                unfold kV at hnx hen
                simp only at hnx hen HKC hkd2
                generalize kindH H pk = kd at *
                clear hri hbr he hp hin hkd hk1 hv1 hr1 hBn hs
                go_wp2_with (go_at_call 37; refine HKC.out.mono ?_; rintro e w7 ⟨rfl, rfl⟩)
                go_roundw
                case rel => exact ⟨_, HR2, HB2⟩
                case measure => rw [hms, hsd]; exact hlt
end Go.Proofs.Ytodfpclekihbhaa

