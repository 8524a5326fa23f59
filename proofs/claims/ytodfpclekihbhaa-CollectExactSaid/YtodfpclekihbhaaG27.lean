/- HeapCounts: each object is referred to or held as often as its count says. -/
import Derived.Test.YtodfpclekihbhaaG26
namespace Go.Proofs.Ytodfpclekihbhaa
open Go.RowKit Go.Shelf

theorem lookI_run {w : World} {b : Nat} {L : List (Int × Int)} (hmap : Mp.MapIs w b kV (Value.int .i64) L) (x : Int) : (Instr.lookup 81 (.map (some b)) (.int .i64 x) false).run Try.prog w = .ok (.int .i64 (gC L x)) w := by
  have := hmap.lookup (P := Try.prog) (z := .int .i64 0) Try.underlying81 Try.underlying26 kV_key kV_inj (by kernel_rfl) x
  rw [show (Value.int IntKind.i64 x) = kV x from rfl, this]
  unfold gC
  cases Mp.get L x <;> rfl
theorem updI_run {w : World} {b : Nat} {L : List (Int × Int)} (hmap : Mp.MapIs w b kV (Value.int .i64) L) (k q : Int) : ∃ w', (Instr.mapUpdate 81 (.map (some b)) (.int .i64 k) (.int .i64 q)).run Try.prog w = .ok () w' ∧ Mp.MapIs w' b kV (Value.int .i64) (Mp.put L k q) ∧ Mut (· = b) w w' := by
  obtain ⟨o, h1, h2⟩ := hmap.update (P := Try.prog) Try.underlying81 Try.underlying26 kV_key kV_inj k q
  exact ⟨_, h1, h2, Mut.setB w b o rfl⟩
theorem len_map_run {w : World} {b clk : Nat} {es : Array MapEntry} {t k e : TypeId} (ht : Try.prog.underlying t = some (.map k e)) (hb : w.heap[b]? = some (.map es clk)) (ty : TypeId) : (Builtin.len_ #[t] ty #[.map (some b)]).run Try.prog w = .ok (.int .i64 es.size) w := by
  simp [Builtin.len_, run_underlying ht, MapKept.run_getObj_map hb, goInt, Result.andThen]
/-- The counts and the stores of a round lie in memory. -/
structure CS (w3 w6 : World) (C : List (Int × Int)) (S : List (Int × Bool)) (wi : World) : Prop where
  mut_ : Mut (fun k => k = w3.heap.size ∨ k = w3.heap.size + 1) w6 wi
  mc : Mp.MapIs wi w3.heap.size kV (Value.int .i64) C
  ms : Mp.MapIs wi (w3.heap.size + 1) kV Value.bool S
  bel : Below w3.heap.size w3 wi
variable {w3 w6 wi w' : World} {C C' : List (Int × Int)} {S S' : List (Int × Bool)}
theorem CS.below (h : CS w3 w6 C S wi) (hb : Below wi.heap.size wi w') : CS w3 w6 C S w' := ⟨h.mut_.then (Mut.of_below hb), h.mc.of_block (hb.block _ h.mc.lt), h.ms.of_block (hb.block _ h.ms.lt), h.bel.step2 hb⟩
theorem CS.updC (h : CS w3 w6 C S wi) (hm : Mp.MapIs w' w3.heap.size kV (Value.int .i64) C') (hu : Mut (· = w3.heap.size) wi w') : CS w3 w6 C' S w' :=
  ⟨h.mut_.trans hu fun i hi => .inl (.inl hi), hm, h.ms.of_block (hu.block _ h.ms.lt (by omega)), h.bel.trans (hu.to_below h.bel.size fun k hk => by omega)⟩
theorem CS.updS (h : CS w3 w6 C S wi) (hm : Mp.MapIs w' (w3.heap.size + 1) kV Value.bool S') (hu : Mut (· = w3.heap.size + 1) wi w') : CS w3 w6 C S' w' :=
  ⟨h.mut_.trans hu fun i hi => .inl (.inr hi), h.mc.of_block (hu.block _ h.mc.lt (by omega)), hm, h.bel.trans (hu.to_below h.bel.size fun k hk => by omega)⟩
theorem CS.rd {LA : Option Addr} {L : List Int} (h : CS w3 w6 C S wi) (hl : RdI w6 LA L) (hn : ∀ a, LA = some a → w3.heap.size + 1 < a.block) : RdI wi LA L :=
  hl.mut h.mut_ fun a ha e => by have := hn a ha; omega
theorem not_in_take {l : List Int} (hn : l.Nodup) {j : Nat} (hj : j < l.length) : l[j]'hj ∉ l.take j := fun hm => by
  rw [← List.take_append_drop (j + 1) l, List.take_succ_eq_append_getElem hj, List.nodup_append, List.nodup_append] at hn
  exact hn.1.2.2 _ hm _ (by simp) rfl
set_option maxRecDepth 100000 in
set_option maxHeartbeats 8000000 in
theorem law_counts {w : World} {A : Option Addr} (C : Nat) {l : List OpM} (h : OpsAt w A l) (hn : l.length ≤ 9223372036854775807) :
    Calls Try.prog 8 #[.slice A l.length C] w fun e w' => e = .returned (.bool true) ∧ Below w.heap.size w w' := by
  have HL := Lib.hid h
  have HN := Lib.hid hn
  clear h hn
  go_enter Try.func8, Try.ntmps8
  go_wp2_with (first
    | (go_at_call 11; refine (awake17 w).mono ?_; rintro e wa ⟨rfl, hb⟩
       have HB0 := Lib.hid hb
       clear hb)
    | (go_at_call 43; refine (small_calls C (HL.out.below HB0.out) HN.out).mono ?_; rintro e wb ⟨⟨sb, rfl, hs⟩, hb⟩
       have HS := Lib.hid hs
       have HB1 := Lib.hid (HB0.out.step2 hb)
       clear hs hb)
    | (go_at_call 12; refine (new_car wb).mono ?_; rintro e w1 ⟨hb, rfl, hc⟩
       have HC := Lib.hid hc
       clear hc))
  · go_ret
    exact ⟨rfl, HB1.out⟩
  · have hl50 : l.length ≤ 50 := (HS.out (by have hh := ‹(!sb) = false›; simpa using hh)).1
    have HSM : Hid (∀ j (h : j < l.length), OpSm (l[j]'h)) := Lib.hid (HS.out (by have hh := ‹(!sb) = false›; simpa using hh)).2
    have HLB : Hid (OpsAt wb A l) := Lib.hid (HL.out.below HB1.out)
    clear HS HL HN
    go_loopw [25] (fun p wr => ∃ (j : Nat) (H : Hp), j ≤ l.length ∧ p = .int .i64 j ∧ Hid (Car wb hb (fun _ => False) H wr ∧ Ok H j)) (fun i _ => l.length - (intOf i).toNat)
    case atStart => exact ⟨0, emptyH, Nat.zero_le _, rfl, Lib.hid ⟨HC.out, Ok.empty⟩⟩
    case round =>
      obtain ⟨j, H, hj, rfl, HH⟩ := hrel
      by_cases hlt : j < l.length
      · obtain ⟨hr, g, o, hA, hc⟩ := HLB.out.below HH.out.1.bel j hlt
        have HM : Hid (OpRd wr (l[j]'hlt) ∧ OpSm (l[j]'hlt)) := Lib.hid ⟨hr, HSM.out j hlt⟩
        have q0 : (0 : Int) ≤ (j : Int) := by omega
        have q1 : (j : Int) < (l.length : Int) := by omega
        rw [hA]
        clear hA hr
        generalize l[j]'hlt = m at *
        obtain ⟨hg, c0, c1, c2, c3, c4, c5, c6, c7, c8, c9⟩ := hc
        have hal : Below wr.heap.size wr (wr.alloc (.cells m.box 76)) := (Below.refl _ _).alloc (Nat.le_refl _) _
        have HD := Lib.hid (do_box (HH.out.1.below hal) HH.out.2 (by omega) m (HM.out.1.below hal) HM.out.2)
        unfold OpM.box at HD
        clear hal
        have hmm := @run_makeMap Try.prog
        go_wp2_with (first
          | (go_at_call 44; refine HD.out.mono ?_; rintro e w3 ⟨⟨v, rfl⟩, H', hc3, hok3⟩
             have H3 := Lib.hid (And.intro hc3.1 hok3)
             have HMK := Lib.hid (Mp.MapIs.made w3 kV (Value.int .i64))
             have HMK2 := Lib.hid (Mp.MapIs.made (w3.alloc (.map #[] 0)) kV Value.bool)
             have HB5A : Hid (Below w3.heap.size w3 ((w3.alloc (.map #[] 0)).alloc (.map #[] 0))) := Lib.hid (((Below.refl _ _).alloc (Nat.le_refl _) _).alloc (by simp) _)
             clear hc3 hok3
             obtain ⟨L, hL⟩ : ∃ L, L = allH H' := ⟨_, rfl⟩
             have hall : Calls Try.prog 40 #[.pointer (some ⟨hb, 0, none⟩)] ((w3.alloc (.map #[] 0)).alloc (.map #[] 0)) (RfPost ((w3.alloc (.map #[] 0)).alloc (.map #[] 0)) L) := by rw [hL]; exact (H3.out.1.below HB5A.out).all H3.out.2 (by omega)
             have HALL := Lib.hid hall
             have hL50 : L.length ≤ 51 := by have := all_len H3.out.2; rw [← hL] at this; omega
             have HLE := Lib.hid hL
             clear hall hL)
          | (go_at_call 40; refine HALL.out.mono ?_; rintro e w6 ⟨LA, LC, rfl, ho, hb6⟩
             have H6 : Hid (CS w3 w6 [] [] w6) := Lib.hid ⟨Mut.refl _ _, HMK.out.of_block (((Below.refl _ (w3.alloc (.map #[] 0))).alloc (Nat.le_refl _) _ |>.step2 hb6).block _ HMK.out.lt), by have h1 := HMK2.out.of_block (hb6.block _ HMK2.out.lt); simpa using h1, HB5A.out.step2 hb6⟩
             have HR6 : Hid (RdI w6 LA L ∧ ∀ a, LA = some a → w3.heap.size + 1 < a.block) := Lib.hid ⟨RdI.of_own ho, fun a ha => by have := own_blk ho a ha; simp at this; omega⟩
             clear ho hb6))
        clear hmm HMK HMK2 HB5A HALL HD
        go_loopw [38] (fun p wi => ∃ (i : Nat) (Cn : List (Int × Int)) (Sn : List (Int × Bool)) (D : List Int), i ≤ L.length ∧ p = .int .i64 i ∧ Hid (CS w3 w6 Cn Sn wi) ∧ Hid (Cnt H' (L.take i) D Cn Sn)) (fun i _ => L.length - (intOf i).toNat)
        case atStart => exact ⟨0, [], [], [], Nat.zero_le _, rfl, H6, Lib.hid (Cnt.nil H')⟩
        case round =>
          obtain ⟨i, Cn, Sn, D, hi, rfl, HI, HT⟩ := hrel
          by_cases hlt : i < L.length
          · obtain ⟨g2, o2, hA, hg2, c0⟩ := (HI.out.rd HR6.out.1 HR6.out.2) i hlt
            have k0 : (0 : Int) ≤ (i : Int) := by omega
            have k1 : (i : Int) < (L.length : Int) := by omega
            have HX : Hid (L.take (i + 1) = L.take i ++ [L[i]'hlt] ∧ L[i]'hlt ∉ L.take i ∧ Mp.get H'.objs (L[i]'hlt) ≠ none) := Lib.hid ⟨List.take_succ_eq_append_getElem hlt, not_in_take (by rw [HLE.out]; exact all_nodup H3.out.2.inv) hlt, (mem_all H' _).1 (by rw [← HLE.out]; exact List.getElem_mem _)⟩
            have hbd := HT.out.bound H3.out.2 (by omega) ((List.take_sublist i L).nodup (by rw [HLE.out]; exact all_nodup H3.out.2.inv)) (fun x hx => by rw [← HLE.out]; exact List.mem_of_mem_take hx)
            have HBD := Lib.hid hbd
            generalize L[i]'hlt = r at *
            obtain ⟨b1, b2, b3, b4⟩ := hbd r
            have HAE := Lib.hid hA
            rw [hA]
            clear hA hbd
            have hho : ∀ W, Below wr.heap.size wr W → Calls Try.prog 38 #[.pointer (some ⟨hb, 0, none⟩), .int .i64 r] W fun e w' => e = .returned (.int .i64 (holdsH H' r)) ∧ W = w' := fun W hW => (H3.out.1.below (HI.out.bel.step2 hW)).holds r
            have HHO := Lib.hid hho
            have hlk := lookI_run (w := wr.drew) (HI.out.mc.of_block rfl) r
            obtain ⟨w7, hup, hm7, hu7⟩ := updI_run (w := wr.drew) (HI.out.mc.of_block rfl) r (gC Cn r + holdsH H' r)
            have H7 : Hid (CS w3 w6 (cntC H' Cn r) Sn w7) := Lib.hid ((HI.out.below (Below.refl _ _).drew).updC hm7 hu7)
            clear hm7 hu7 hho
            generalize gC Cn r = v at *
            generalize holdsH H' r = n at *
            have h9 : IntKind.i64.wrap (v + n) = v + n := by rw [IntKind.wrap_i64]; omega
            go_wp2
            go_region_with (go_at_call 38; refine (HHO.out _ (by first | exact Below.refl _ _ | exact (Below.refl _ _).drew | exact (Below.refl _ _).dn _)).mono ?_; rintro e w8 ⟨rfl, rfl⟩)
            clear hlk hup h9
            all_goals (
              cases ho : Mp.get H'.objs r with
              | none => exact absurd ho HX.out.2.2
              | some ob =>
                have HO := Lib.hid ho
                have hkd : kindH H' r = ob.kind := by unfold kindH; rw [ho]; rfl
                have hst : storeOfH H' r = if ob.kind ≠ 2 then (0, 13) else (ob.row, 0) := by unfold storeOfH; rw [ho]
                have hkc := (H3.out.1.below H7.out.bel).kind r
                have hsc := (H3.out.1.below H7.out.bel).store H3.out.2 r
                rw [hkd] at hkc
                rw [hst] at hsc
                clear ho hkd hst
                by_cases hk : ob.kind = 2
                · rw [if_neg (by simpa using hk)] at hsc
                  rw [hk] at hkc
                  have HKC := Lib.hid hkc
                  have HSC := Lib.hid hsc
                  have HK2 := Lib.hid hk
                  clear hkc hsc hk
                  have hl2 := lookB_run H7.out.ms ob.row
                  cases hgs : Mp.get Sn ob.row with
                  | some bb =>
                    have hbb := HT.out.tr ob.row bb hgs
                    subst hbb
                    rw [hgs] at hl2
                    have hl2 : (Instr.lookup 79 (.map (some (w3.heap.size + 1))) (.int .i64 ob.row) false).run Try.prog w7 = .ok (.bool true) w7 := hl2
                    have HIN : Hid (InM Sn ob.row) := Lib.hid hgs
                    clear hgs
                    generalize hrw : ob.row = rw_ at *
                    have HRW := Lib.hid hrw
                    clear hrw
                    go_wp2_with (first
                      | (go_at_call 37; refine HKC.out.mono ?_; rintro e w8 ⟨rfl, rfl⟩)
                      | (go_at_call 46; refine HSC.out.mono ?_; rintro e w8 ⟨rfl, rfl⟩))
                    go_roundw
                    case rel => (try rw [← HAE.out]); exact ⟨i + 1, _, Sn, D, by omega, by go_num, H7, Lib.hid (by rw [HX.out.1]; exact HT.out.skip H3.out.2 HO.out HK2.out (by rw [HRW.out]; exact HIN.out) HX.out.2.1)⟩
                    case measure => simp [intOf]; omega
                  | none =>
                    rw [hgs] at hl2
                    have hl2 : (Instr.lookup 79 (.map (some (w3.heap.size + 1))) (.int .i64 ob.row) false).run Try.prog w7 = .ok (.bool false) w7 := hl2
                    obtain ⟨w8, hup8, hm8, hu8⟩ := updB_run H7.out.ms ob.row true
                    have H8 := Lib.hid (H7.out.updS hm8 hu8)
                    have HNI : Hid (∀ D', D' = D ++ [ob.row] → Cnt H' (L.take i ++ [r]) D' (upAll (cntC H' Cn r) (refsH H' r)) (Mp.put Sn ob.row true)) := Lib.hid fun D' e => by rw [e]; exact HT.out.next H3.out.2 HO.out (fun _ h => by unfold InM at h; rw [hgs] at h; cases h) HX.out.2.1 (.inl ⟨HK2.out, rfl⟩)
                    clear hgs hm8 hu8
                    generalize hS2 : Mp.put Sn ob.row true = S2 at *
                    clear hS2
                    generalize ob.row = rw_ at *
                    obtain ⟨R, hR⟩ : ∃ R, R = refsH H' r := ⟨_, rfl⟩
                    have hq := (H3.out.1.below H8.out.bel).refs H3.out.2 (by omega) r
                    rw [← hR] at hq
                    have HQ := Lib.hid hq
                    have hR9 : R.length ≤ 40000001 := by have h1 := refs_len H3.out.2 r; have h2 := H3.out.2.mu4 (by omega); rw [← hR] at h1; omega
                    rw [← hR] at HNI
                    clear hq hR
                    go_wp2_with (first
                      | (go_at_call 37; refine HKC.out.mono ?_; rintro e w8x ⟨rfl, rfl⟩)
                      | (go_at_call 46; refine HSC.out.mono ?_; rintro e w8x ⟨rfl, rfl⟩)
                      | (go_at_call 41; refine HQ.out.mono ?_; rintro e w9 ⟨RA, RC, rfl, ho, hb9⟩
                         have H9 := Lib.hid (H8.out.below hb9)
                         have HR9 : Hid (RdI w9 RA R ∧ ∀ a, RA = some a → w3.heap.size + 1 < a.block) := Lib.hid ⟨RdI.of_own ho, fun a ha => by have := own_blk ho a ha; have := H8.out.ms.lt; omega⟩
                         clear ho hb9))
                    go_loopw [70] (fun p wi => ∃ (k : Nat) (C2 : List (Int × Int)), k ≤ R.length ∧ p = .int .i64 k ∧ Hid (C2 = upAll (cntC H' Cn r) (R.take k)) ∧ Hid (CS w3 w6 C2 S2 wi) ∧ Hid (RdI wi RA R)) (fun i _ => R.length - (intOf i).toNat)
                    case atStart => exact ⟨0, _, Nat.zero_le _, rfl, Lib.hid rfl, H9, Lib.hid HR9.out.1⟩
                    case round =>
                      obtain ⟨k, C2, hk, rfl, HC2, HJ, HRJ⟩ := hrel
                      by_cases hlt2 : k < R.length
                      · obtain ⟨g3, o3, hA3, hg3, d0⟩ := HRJ.out k hlt2
                        have l0 : (0 : Int) ≤ (k : Int) := by omega
                        have l1 : (k : Int) < (R.length : Int) := by omega
                        have HT2 : Hid (R.take (k + 1) = R.take k ++ [R[k]'hlt2]) := Lib.hid (List.take_succ_eq_append_getElem hlt2)
                        generalize R[k]'hlt2 = x at *
                        have HAE2 := Lib.hid hA3
                        rw [hA3]
                        clear hA3
                        have hgb : 0 ≤ gC C2 x ∧ gC C2 x ≤ 4000000000 := by
                          have h1 := HBD.out x
                          have h2 := HBD.out r
                          have h3 := List.count_le_length (a := x) (l := R.take k)
                          have h4 := List.length_take_le k R
                          rw [HC2.out, gC_all]
                          unfold cntC
                          rw [gC_up]
                          split <;> omega
                        obtain ⟨e1, e2⟩ := hgb
                        have hlk := lookI_run HJ.out.mc x
                        obtain ⟨w10, hup, hm10, hu10⟩ := updI_run HJ.out.mc x (gC C2 x + 1)
                        have H10 : Hid (CS w3 w6 (upC C2 x 1) S2 w10) := Lib.hid (HJ.out.updC hm10 hu10)
                        have H10R : Hid (RdI w10 RA R) := Lib.hid (HRJ.out.mut hu10 fun a ha e => by have h1 := HR9.out.2 a ha; have e : a.block = w3.heap.size := e; omega)
                        clear hm10 hu10
                        generalize gC C2 x = y at *
                        go_wp2
                        go_roundw
                        case rel => (try rw [← HAE2.out]); (try rw [← HAE.out]); exact ⟨k + 1, upC C2 x 1, by omega, by go_num, Lib.hid (by rw [HC2.out, HT2.out, upAll_snoc]), H10, H10R⟩
                        case measure => simp [intOf]; omega
                      · obtain rfl : k = R.length := by omega
                        clear hlt2 hk
                        rw [List.take_length] at HC2
                        go_wp2
                        go_roundw
                        case rel => (try rw [← HAE.out]); exact ⟨i + 1, _, S2, _, by omega, by go_num, HJ, Lib.hid (by rw [HX.out.1, HC2.out]; exact HNI.out _ rfl)⟩
                        case measure => simp [intOf]; omega
                · have h13 : (ob.kind == 2) = false := by simpa using hk
                  have HKC := Lib.hid hkc
                  have H8 := H7
                  obtain ⟨S2, hS2⟩ : ∃ S2, S2 = Sn := ⟨_, rfl⟩
                  rw [← hS2] at H8
                  have HNI : Hid (∀ D', D' = D ++ [ob.row] → Cnt H' (L.take i ++ [r]) D' (upAll (cntC H' Cn r) (refsH H' r)) S2) := Lib.hid fun D' e => by rw [e, hS2]; exact HT.out.next H3.out.2 HO.out (fun h => absurd h hk) HX.out.2.1 (.inr ⟨hk, rfl⟩)
                  clear hS2 hk hsc hkc
                  generalize ob.row = rw_ at *
                  generalize ob.kind = ok_ at *
                  obtain ⟨R, hR⟩ : ∃ R, R = refsH H' r := ⟨_, rfl⟩
                  have hq := (H3.out.1.below H8.out.bel).refs H3.out.2 (by omega) r
                  rw [← hR] at hq
                  have HQ := Lib.hid hq
                  have hR9 : R.length ≤ 40000001 := by have h1 := refs_len H3.out.2 r; have h2 := H3.out.2.mu4 (by omega); rw [← hR] at h1; omega
                  rw [← hR] at HNI
                  clear hq hR
                  go_wp2_with (first
                    | (go_at_call 37; refine HKC.out.mono ?_; rintro e w8x ⟨rfl, rfl⟩)
                    | (go_at_call 41; refine HQ.out.mono ?_; rintro e w9 ⟨RA, RC, rfl, ho, hb9⟩
                       have H9 := Lib.hid (H8.out.below hb9)
                       have HR9 : Hid (RdI w9 RA R ∧ ∀ a, RA = some a → w3.heap.size + 1 < a.block) := Lib.hid ⟨RdI.of_own ho, fun a ha => by have := own_blk ho a ha; have := H8.out.ms.lt; omega⟩
                       clear ho hb9))
                  go_loopw [70] (fun p wi => ∃ (k : Nat) (C2 : List (Int × Int)), k ≤ R.length ∧ p = .int .i64 k ∧ Hid (C2 = upAll (cntC H' Cn r) (R.take k)) ∧ Hid (CS w3 w6 C2 S2 wi) ∧ Hid (RdI wi RA R)) (fun i _ => R.length - (intOf i).toNat)
                  case atStart => exact ⟨0, _, Nat.zero_le _, rfl, Lib.hid rfl, H9, Lib.hid HR9.out.1⟩
                  case round =>
                    obtain ⟨k, C2, hk, rfl, HC2, HJ, HRJ⟩ := hrel
                    by_cases hlt2 : k < R.length
                    · obtain ⟨g3, o3, hA3, hg3, d0⟩ := HRJ.out k hlt2
                      have l0 : (0 : Int) ≤ (k : Int) := by omega
                      have l1 : (k : Int) < (R.length : Int) := by omega
                      have HT2 : Hid (R.take (k + 1) = R.take k ++ [R[k]'hlt2]) := Lib.hid (List.take_succ_eq_append_getElem hlt2)
                      generalize R[k]'hlt2 = x at *
                      have HAE2 := Lib.hid hA3
                      rw [hA3]
                      clear hA3
                      have hgb : 0 ≤ gC C2 x ∧ gC C2 x ≤ 4000000000 := by
                        have h1 := HBD.out x
                        have h2 := HBD.out r
                        have h3 := List.count_le_length (a := x) (l := R.take k)
                        have h4 := List.length_take_le k R
                        rw [HC2.out, gC_all]
                        unfold cntC
                        rw [gC_up]
                        split <;> omega
                      obtain ⟨e1, e2⟩ := hgb
                      have hlk := lookI_run HJ.out.mc x
                      obtain ⟨w10, hup, hm10, hu10⟩ := updI_run HJ.out.mc x (gC C2 x + 1)
                      have H10 : Hid (CS w3 w6 (upC C2 x 1) S2 w10) := Lib.hid (HJ.out.updC hm10 hu10)
                      have H10R : Hid (RdI w10 RA R) := Lib.hid (HRJ.out.mut hu10 fun a ha e => by have h1 := HR9.out.2 a ha; have e : a.block = w3.heap.size := e; omega)
                      clear hm10 hu10
                      generalize gC C2 x = y at *
                      go_wp2
                      go_roundw
                      case rel => (try rw [← HAE2.out]); (try rw [← HAE.out]); exact ⟨k + 1, upC C2 x 1, by omega, by go_num, Lib.hid (by rw [HC2.out, HT2.out, upAll_snoc]), H10, H10R⟩
                      case measure => simp [intOf]; omega
                    · obtain rfl : k = R.length := by omega
                      clear hlt2 hk
                      rw [List.take_length] at HC2
                      go_wp2
                      go_roundw
                      case rel => (try rw [← HAE.out]); exact ⟨i + 1, _, S2, _, by omega, by go_num, HJ, Lib.hid (by rw [HX.out.1, HC2.out]; exact HNI.out _ rfl)⟩
                      case measure => simp [intOf]; omega)
          · obtain rfl : i = L.length := by omega
            rw [List.take_length] at HT
            clear hlt hi H6
            have HTA : Hid (Cnt H' (allH H') D Cn Sn) := Lib.hid (by rw [← HLE.out]; exact HT.out)
            obtain ⟨wq, hwq⟩ : ∃ wq : World, wq = wr := ⟨_, rfl⟩
            subst hwq
            have HRQ : Hid (RdI wq LA L) := Lib.hid (HI.out.rd HR6.out.1 HR6.out.2)
            have HND := Lib.hid HI.out.mc.nodup
            obtain ⟨es, clk, hbm, hst, hme⟩ := HI.out.mc
            have hesz : es.size = L.length := by
              have h1 := congrArg List.length hme
              simp only [List.length_map, Array.length_toList] at h1
              rw [h1, HLE.out]
              exact HTA.out.len H3.out.2 HND.out
            have hrg := run_range_map (P := Try.prog) wq 81 26 3 w3.heap.size es clk Try.underlying81 hbm
            have HST := Lib.hid hst
            have HME := Lib.hid hme
            have HBM := Lib.hid hbm
            have HESZ := Lib.hid hesz
            have HQ0 : Hid (Below wq.heap.size wq (wq.alloc (.mapIter (some w3.heap.size) clk #[] clk))) := Lib.hid ((Below.refl _ _).alloc (Nat.le_refl _) _)
            have HI0 : Hid ((wq.alloc (.mapIter (some w3.heap.size) clk #[] clk)).heap[wq.heap.size]? = some (.mapIter (some w3.heap.size) clk #[] clk)) := Lib.hid (heap_alloc_new wq _)
            clear hst hme hbm hesz HT
            go_wp2
            clear hrg
            go_loopw [] (fun wi => ∃ seen, Hid (wi.heap[wq.heap.size]? = some (.mapIter (some w3.heap.size) clk seen clk)) ∧ Hid (Below wq.heap.size wq wi)) (fun wi => (leftOf es (wi.iterSeen wq.heap.size)).size)
            case atStart => exact ⟨#[], HI0, HQ0⟩
            case round =>
              obtain ⟨seen, hri, HB⟩ := hrel
              have hbr : wr.heap[w3.heap.size]? = some (.map es clk) := (HB.out.block _ (lt_of_heap HBM.out)).trans HBM.out
              have hsd : wr.iterSeen wq.heap.size = seen := by unfold World.iterSeen; rw [hri.out]
              rcases next_step wr wq.heap.size w3.heap.size clk seen es hri.out hbr HST.out (by have := lt_of_heap HBM.out; omega) with ⟨h0, hnx⟩ | ⟨e, he, hs, hlt, w1, hnx, hen, hr1, hBn⟩
              · have HB9 := Lib.hid (HI.out.bel.step2 HB.out)
                have HSR := Lib.hid (sorted_refs LC (HRQ.out.below HB.out) (by omega) (by rw [HLE.out]; exact sorted_all H'))
                have hln := len_map_run Try.underlying81 hbr 3
                rw [HESZ.out] at hln
                clear h0 hsd hri
                go_wp2_with (go_at_call 48; refine HSR.out.mono ?_; rintro e w9 ⟨rfl, hb9⟩
                             have HB10 := Lib.hid (HB9.out.step2 hb9)
                             clear hb9)
                go_roundw
                case rel => exact ⟨j + 1, H', by omega, by go_num, Lib.hid ⟨H3.out.1.below HB10.out, H3.out.2⟩⟩
                case measure => simp [intOf]; omega
              · obtain ⟨p, hp, hk1, hv1⟩ := entry_of HME.out he
                obtain ⟨hn1, hn2, hn3⟩ := (HTA.out.done H3.out.2).1 p.1 p.2 (Mp.get_of_mem HND.out hp)
                have HB2 : Hid (Below wq.heap.size wq w1) := Lib.hid (HB.out.trans (hBn _ (Nat.le_refl _)))
                have hcc := (H3.out.1.below (HI.out.bel.step2 HB2.out)).count H3.out.2 (by omega) p.1
                rw [← hn1] at hcc
                have HCC := Lib.hid hcc
                have HIN : Hid (p.1 ∈ L) := Lib.hid (by rw [HLE.out]; exact hn3)
                have HR2 := Lib.hid hr1
                have hn4 : (p.2 == 0) = false := by simpa using hn2
                rw [hk1, hv1] at hnx hen
                have HLT := Lib.hid hlt
                obtain ⟨pk, pv⟩ := p
                unfold kV at hnx hen
                simp only at hnx hen HCC HIN hn4
                clear hri hbr he hp hn1 hn2 hn3 hk1 hv1 hr1 hBn hs hcc hlt
                go_wp2_with (first
                  | (go_at_call 39; refine HCC.out.mono ?_; rintro e w7 ⟨rfl, hb7⟩
                     have HB7 := Lib.hid (HB2.out.step2 hb7)
                     have HR7 := Lib.hid ((hb7.block _ (lt_of_heap HR2.out)).trans HR2.out)
                     clear hb7)
                  | (go_at_call 47; refine (contains_refs LC (HRQ.out.below HB7.out) (by omega) HIN.out).mono ?_; rintro e w8 ⟨rfl, hb8⟩
                     have HB8 := Lib.hid (HB7.out.step2 hb8)
                     have HR8 := Lib.hid ((hb8.block _ (lt_of_heap HR7.out)).trans HR7.out)
                     clear hb8))
                go_roundw
                case rel => exact ⟨_, HR8, HB8⟩
                case measure =>
                  have hms : w8.iterSeen wq.heap.size = seen.push e.born := by unfold World.iterSeen; rw [HR8.out]
                  rw [hms, hsd]
                  exact HLT.out
      · obtain rfl : j = l.length := by omega
        clear hlt hj
        go_wp2
        go_ret
        exact ⟨rfl, HB1.out.step2 HH.out.1.bel⟩
end Go.Proofs.Ytodfpclekihbhaa

