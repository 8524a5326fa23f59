/- The search, with the closure of Whole. -/
import Derived.Test.YtcajnmhbkjngbaaG17
namespace Go.Proofs.Ytcajnmhbkjngbaa
open Go.RowKit Go.Shelf
set_option maxRecDepth 100000
set_option maxHeartbeats 16000000 in
theorem searchW {w : World} {rb : Nat} {s : ByteArray} {t : Nat} {A : Option Addr} {C : Nat} {code : List CI} {n : Nd} (hrx : RxO w rb s t A C code) (ha : Auto (toIn (riL code)) n) {l : List Int} (hc : ChOk l) (hl : l.length ≤ 100000) {lo : Nat} (hlo : lo ≤ l.length) (here : Bool) {c1 c2 : Value} {I : World → Option (Nat × Nat) → Prop} {T : Nat → Prop} (hsz : ∀ (k : Nat) (z : CSet), (toIn (riL code))[k]? = some (.take z) → z.spans.length ≤ 1000000) (hclo : Clo 44 [c1, c2] w.heap.size I T) (h0 : I w none) :
    Calls Try.prog 43 #[.pointer (some ⟨rb, 0, none⟩), strV l, .int .i64 (lo : Nat), .bool here, .func (.func 44) #[] #[c1, c2]] w fun e w' => e = .returned (.tuple #[]) ∧ ∃ m, Fnd l n lo here m ∧ I w' m ∧ Mut T w w' := by
  have HAU := Lib.hid ha
  have HCO := Lib.hid hc
  have HCLO := Lib.hid hclo
  have HSZ := Lib.hid hsz
  have HLEN := fun W => Lib.hid (len_is l (by omega) W)
  have HLINE := fun (i : Nat) hi W => Lib.hid (line_is l hc (by omega) i hi W)
  have HAT := fun (i : Int) W => Lib.hid (at_is l hc (by omega) i W)
  have hcl : (toIn (riL code)).length = code.length := by simp [toIn, riL]
  have HCL := Lib.hid hcl
  have HST0 : Hid (SeS w.heap.size ((w.alloc (.cells #[.string (packV l).1, .bool (packV l).2] 39)).alloc (.map #[] 0)) rb s t A C code w.heap.size #[.string (packV l).1, .bool (packV l).2] none 0 [] (w.heap.size + 1) [] ∧ I ((w.alloc (.cells #[.string (packV l).1, .bool (packV l).2] 39)).alloc (.map #[] 0)) none ∧ Mut T w ((w.alloc (.cells #[.string (packV l).1, .bool (packV l).2] 39)).alloc (.map #[] 0))) := Lib.hid (by
    have hb : Below w.heap.size w ((w.alloc (.cells #[.string (packV l).1, .bool (packV l).2] 39)).alloc (.map #[] 0)) := ((Below.refl _ _).alloc (Nat.le_refl _) _).alloc (by simp) _
    have hmm := Mp.MapIs.made (w.alloc (.cells #[.string (packV l).1, .bool (packV l).2] 39)) kV (Value.int .i64)
    have hz : (w.alloc (.cells #[.string (packV l).1, .bool (packV l).2] 39)).heap.size = w.heap.size + 1 := by simp
    rw [hz] at hmm
    exact ⟨⟨hrx.below hb, (heap2 w _ _).1, World.ownsRow_nil _ _ _ _, hmm, Nat.le_refl _, by omega⟩, hclo.below h0 hb, Mut.of_below hb⟩)
  have HKB0 : Hid (Ker (toIn (riL code)) l lo here (-1) lo [] (fun p => Mp.get ([] : List (Int × Int)) (p : Int)) ∧ Bst l n lo here (-1) lo none) := Lib.hid ⟨Ker.start, Bst.start⟩
  unfold strV at HLEN HLINE HAT ⊢
  generalize (packV l).1 = str at *
  generalize (packV l).2 = wide at *
  have HSM := Lib.hid hrx.small
  have HLO := Lib.hid hlo
  clear hrx ha hc hclo h0 hcl hlo hsz
  have hmm := @run_makeMap Try.prog
  go_enter Try.func43, Try.ntmps43
  go_wp2
  generalize hbx : w.heap.size = bx at *
  go_loopg [10, 11, 12, 13] (l.length + 2 - lo) (fun k s10 s11 s12 s13 wr => ∃ (i : Nat) (b : Int) (m : Option (Nat × Nat)) (kA : Option Addr) (kC : Nat) (ker : List Nat) (mb : Nat) (L : List (Int × Int)), s10 = .slice kA ker.length kC ∧ s11 = .map (some mb) ∧ s12 = .int .i64 b ∧ s13 = .int .i64 (i : Nat) ∧ Hid (SeS bx wr rb s t A C code bx #[.string str, .bool wide] kA kC ker mb L ∧ I wr m ∧ Mut T w wr) ∧ Hid (Ker (toIn (riL code)) l lo here b i ker (fun p => Mp.get L (p : Int)) ∧ Bst l n lo here b i m) ∧ Hid (lo ≤ i ∧ i ≤ l.length + 1 ∧ ker.length ≤ 20001) ∧ Hid (l.length + 2 - i = k))
  case atStart => exact ⟨lo, -1, none, none, 0, [], _, [], rfl, rfl, rfl, rfl, HST0, HKB0, Lib.hid ⟨Nat.le_refl _, by have := HLO.out; omega, Nat.zero_le _⟩, Lib.hid rfl⟩
  case round =>
    clear HST0 HKB0
    obtain ⟨i, b, m, kA, kC, ker, mb, L, rfl, rfl, rfl, rfl, HS, HKB, HI, HK⟩ := hrel
    have d0 := cell_of_heap (v := .string str) HS.out.1.sb (j := 0) rfl
    have d1 := cell_of_heap (v := .bool wide) HS.out.1.sb (j := 1) rfl
    by_cases hil : i ≤ l.length
    · have q1 : (i : Int) ≤ (l.length : Int) := by omega
      have q2 : i ≤ 1000000 := by omega
      obtain ⟨bg, hbg⟩ : ∃ bg, bg = begL l i := ⟨_, rfl⟩
      obtain ⟨fn, hfn⟩ : ∃ fn, fn = finL l i := ⟨_, rfl⟩
      have HLI := fun W => HLINE i q2 W
      rw [← hbg, ← hfn] at HLI
      have HBF := Lib.hid (And.intro hbg hfn)
      clear hbg hfn
      obtain ⟨st, hst⟩ : ∃ st : Nat → Option Int, st = fun p : Nat => Mp.get L (p : Int) := ⟨_, rfl⟩
      rw [← hst] at HKB
      have HST := Lib.hid hst
      clear hst
      go_upto_region 9 with (first
        | (go_at_call 32; refine (HLEN _).out.mono ?_; rintro e w1 ⟨rfl, hb1⟩
           have HS1 : Hid (SeS bx w1 rb s t A C code bx #[.string str, .bool wide] kA kC ker mb L ∧ I w1 m ∧ Mut T w w1) := Lib.hid ⟨HS.out.1.below hb1, HCLO.out.below HS.out.2.1 hb1, HS.out.2.2.then (Mut.of_below hb1)⟩
           have b0 := cell_of_heap (v := .string str) HS1.out.1.sb (j := 0) rfl
           have b1 := cell_of_heap (v := .bool wide) HS1.out.1.sb (j := 1) rfl
           clear hb1 d0 d1)
        | (go_at_call 71; refine (HLI _).out.mono ?_; rintro e w2 ⟨rfl, hb2⟩
           have HS2 : Hid (SeS bx w2 rb s t A C code bx #[.string str, .bool wide] kA kC ker mb L ∧ I w2 m ∧ Mut T w w2) := Lib.hid ⟨HS1.out.1.below hb2, HCLO.out.below HS1.out.2.1 hb2, HS1.out.2.2.then (Mut.of_below hb2)⟩
           clear hb2 b0 b1)
        | (go_at_call 72; refine (empty_is HS2.out.1.rx).mono ?_; rintro e wE ⟨tb, fA, fC, rfl, hth, hbE⟩
           have HKEEP : Hid (∀ W, Below w2.heap.size wE W → SeS bx W rb s t A C code bx #[.string str, .bool wide] kA kC ker mb L ∧ I W m ∧ Mut T w W) := Lib.hid fun W hW => ⟨HS2.out.1.below (hbE.trans hW), HCLO.out.below HS2.out.2.1 (hbE.trans hW), HS2.out.2.2.then (Mut.of_below (hbE.trans hW))⟩
           have HTH : Hid (ThAt w2.heap.size wE tb none 0 fA fC [] (List.replicate code.length (-1)) ∧ w2.heap.size ≤ wE.heap.size ∧ bx < w2.heap.size) := Lib.hid ⟨hth, hbE.size, lt_of_heap HS2.out.1.sb⟩
           clear hth hbE))
      clear HS HS1 HS2
      generalize w2.heap.size = D at *
      have HP0 : Hid (ThAt D wE tb none 0 fA fC [] (List.replicate code.length (-1)) ∧ Below D wE wE ∧ Pha (toIn (riL code)) bg fn st (ker.take 0) (List.replicate code.length (-1)) []) := Lib.hid ⟨HTH.out.1, Below.refl _ _, by rw [← HCL.out]; exact Pha.start⟩
      have q3 : ker.length ≤ 20001 := HI.out.2.2
      go_wp2_with (fail)
      go_loopw [45] (fun p wx => ∃ (q : Nat) (oA : Option Addr) (oC : Nat) (fA : Option Addr) (fC : Nat) (ord : List Nat) (fr : List Int), q ≤ ker.length ∧ p = .int .i64 (q : Nat) ∧ Hid (ThAt D wx tb oA oC fA fC ord fr ∧ Below D wE wx ∧ Pha (toIn (riL code)) bg fn st (ker.take q) fr ord)) (fun i _ => ker.length - (intOf i).toNat)
      case atStart => exact ⟨0, none, 0, fA, fC, [], _, Nat.zero_le _, rfl, HP0⟩
      case round =>
        clear HP0
        obtain ⟨q, oA, oC, fA, fC, ord, fr, hq, rfl, HR⟩ := hrel
        by_cases hlt : q < ker.length
        · have hkeep := HKEEP.out wr HR.out.2.1
          obtain ⟨gk, hkA, _, hgk, hck, _⟩ := own_cell hkeep.1.kn q (by omega)
          have hmem : ker[q] ∈ ker := List.getElem_mem hlt
          obtain ⟨hpl, v, hv, hf0, hvi, _⟩ := HKB.out.1.snd _ hmem
          have hlk := lookI_run hkeep.1.mp ((ker[q] : Nat) : Int) (v : Nat) (by have h1 := HST.out; rw [h1] at hv; exact hv)
          have hck2 : wr.cell? ⟨gk, q, none⟩ = some (.int .i64 ((ker[q] : Nat) : Int)) := hck.trans (by simp [ints, nats, hlt])
          have HTK : Hid (ker.take (q + 1) = ker.take q ++ [ker[q]] ∧ st ker[q] = some (v : Int)) := Lib.hid ⟨List.take_succ_eq_append_getElem hlt, hv⟩
          have q4 : (q : Int) < (ker.length : Int) := by omega
          rw [HCL.out] at hpl
          have HADD := Lib.hid (add_calls (B := D) (w := wr) (fun W hW => (HKEEP.out W (HR.out.2.1.trans hW)).1.rx) HAU.out.valid HR.out.1 (Nat.le_trans HTH.out.2.1 HR.out.2.1.size) HR.out.2.2.thr hpl v (by omega))
          generalize ker[q] = p at *
          rw [hkA]
          clear hkeep hck hgk hmem hv hf0 hvi hpl hlt hkA
          go_wp2_with (first
            | (go_at_call 73; refine HADD.out.mono ?_; rintro e wy ⟨rfl, oA2, oC2, fA2, fC2, ord2, fr2, hth, hadg, hby⟩
               have HR2 : Hid (ThAt D wy tb oA2 oC2 fA2 fC2 ord2 fr2 ∧ Below D wE wy ∧ Pha (toIn (riL code)) bg fn st (ker.take (q + 1)) fr2 ord2) := Lib.hid ⟨hth, HR.out.2.1.trans hby, by rw [HTK.out.1]; exact HR.out.2.2.step hadg HTK.out.2⟩
               clear hth hadg hby))
          go_roundw
          case rel => exact ⟨q + 1, oA2, oC2, fA2, fC2, ord2, fr2, by omega, by go_num, HR2⟩
          case measure => simp [intOf]; omega
        · obtain rfl : q = ker.length := by omega
          rw [List.take_length] at HR
          clear hq hlt
          go_upto_region 14 with (fail)
          go_cut [69] from 59 to 69 (fun s69 wx => ∃ beg : Bool, s69 = .bool beg ∧ wx = wr ∧ Hid (BegIs beg b lo here i))
          case first =>
            have hli : lo ≤ i := HI.out.1
            by_cases hb0 : b < 0
            · cases here
              · have HO : Hid (BegIs true b lo false i) := Lib.hid ⟨fun _ => ⟨hb0, hli, fun h => by cases h⟩, fun _ => rfl⟩
                clear hli
                go_wp2_with (fail)
                go_meet
                case rel => exact ⟨true, rfl, rfl, HO⟩
              · by_cases hil2 : i = lo
                · have HO : Hid (BegIs true b lo true i) := Lib.hid ⟨fun _ => ⟨hb0, hli, fun _ => hil2⟩, fun _ => rfl⟩
                  have he : ((i : Int) == (lo : Int)) = true := by simp [hil2]
                  clear hli hil2
                  go_wp2_with (fail)
                  go_meet
                  case rel => exact ⟨true, rfl, rfl, HO⟩
                · have HO : Hid (BegIs false b lo true i) := Lib.hid ⟨fun h => (by cases h), fun h => absurd (h.2.2 rfl) hil2⟩
                  have he : ((i : Int) == (lo : Int)) = false := by simp; omega
                  clear hli hil2
                  go_wp2_with (fail)
                  go_meet
                  case rel => exact ⟨false, rfl, rfl, HO⟩
            · have HO : Hid (BegIs false b lo here i) := Lib.hid ⟨fun h => (by cases h), fun h => absurd h.1 hb0⟩
              clear hli
              go_wp2_with (fail)
              go_meet
              case rel => exact ⟨false, rfl, rfl, HO⟩
          case rest =>
            obtain ⟨beg, rfl, rfl, HBG⟩ := hcut
            go_upto_if 69 with (fail)
            go_cut [] from 70 to 75 (fun wx => ∃ (oA : Option Addr) (oC : Nat) (fA : Option Addr) (fC : Nat) (ord : List Nat) (fr : List Int), Hid (ThAt D wx tb oA oC fA fC ord fr ∧ Below D wE wx ∧ Thd (toIn (riL code)) l lo here b i fr ∧ Thr (toIn (riL code)) bg fn fr ord))
            case first =>
              cases beg
              · have HTD : Hid (Thd (toIn (riL code)) l lo here b i fr) := Lib.hid (by
                  have h1 := HR.out.2.2
                  rw [HBF.out.1, HBF.out.2] at h1
                  exact h1.thd0 HKB.out.1 HKB.out.2 fun e => by have := HBG.out.2 e; cases this)
                go_wp2_with (fail)
                go_meet
                case rel => exact ⟨oA, oC, fA, fC, ord, fr, Lib.hid ⟨HR.out.1, HR.out.2.1, HTD.out, HR.out.2.2.thr⟩⟩
              · have hpos := HAU.out.pos
                rw [HCL.out] at hpos
                have HADD := Lib.hid (add_calls (B := D) (w := wc) (fun W hW => (HKEEP.out W (HR.out.2.1.trans hW)).1.rx) HAU.out.valid HR.out.1 (Nat.le_trans HTH.out.2.1 HR.out.2.1.size) HR.out.2.2.thr hpos i (by omega))
                clear hpos
                go_wp2_with (first
                  | (go_at_call 73; refine HADD.out.mono ?_; rintro e wy ⟨rfl, oA2, oC2, fA2, fC2, ord2, fr2, hth, hadg, hby⟩
                     have HX : Hid (ThAt D wy tb oA2 oC2 fA2 fC2 ord2 fr2 ∧ Below D wE wy ∧ Thd (toIn (riL code)) l lo here b i fr2 ∧ Thr (toIn (riL code)) bg fn fr2 ord2) := Lib.hid ⟨hth, HR.out.2.1.trans hby, by
                       have h1 := HR.out.2.2
                       have hb := HBG.out.1 rfl
                       rw [HBF.out.1, HBF.out.2] at h1 hadg
                       exact h1.thd1 HKB.out.1 HKB.out.2 hadg hb.1 hb.2, hadg.done.1⟩
                     clear hth hadg hby))
                go_meet
                case rel => exact ⟨_, _, _, _, _, _, HX⟩
            case rest =>
              clear HR
              obtain ⟨oA, oC, fA, fC, ord, fr, HR⟩ := hcut
              obtain ⟨N, hN⟩ : ∃ N, code.length = N + 1 := ⟨code.length - 1, by have h1 := HAU.out.pos; rw [HCL.out] at h1; omega⟩
              have hfl : fr.length = N + 1 := by rw [HR.out.2.2.2.len, HCL.out, hN]
              have HN := Lib.hid (And.intro hN hfl)
              have hNs : N ≤ 20001 := by have := HSM.out; omega
              clear hN hfl
              go_upto_region 16 with (fail)
              go_cut [19] from 76 to 87 (fun s19 wx => ∃ kv : Int, s19 = .int .i64 kv ∧ Hid (fr[N]? = some kv) ∧ Hid (ThAt D wx tb oA oC fA fC ord fr ∧ Below D wE wx))
              case first =>
                have hk := HKEEP.out wc HR.out.2.1
                have r2 := hk.1.rx.c2
                have t1 := HR.out.1.t1
                have hNf : N < fr.length := by have := HN.out.2; omega
                obtain ⟨gf, hF, _, hgf, hcf, _⟩ := own_cell HR.out.1.f N (by omega)
                have hcf2 : wc.cell? ⟨gf, N, none⟩ = some (.int .i64 fr[N]) := hcf.trans (by simp [ints, hNf])
                have HX : Hid (fr[N]? = some fr[N]) := Lib.hid (List.getElem?_eq_getElem _)
                generalize fr[N] = kv at *
                rw [hF, HN.out.2] at t1
                rw [HN.out.1] at r2
                have HY : Hid (∀ m, ThAt D (wc.drewN m) tb oA oC fA fC ord fr ∧ Below D wE (wc.drewN m)) := Lib.hid fun m => ⟨HR.out.1.below (below_dn (Below.refl _ _) m), HR.out.2.1.trans ((below_dn (Below.refl _ _) m).mono (Nat.le_trans HTH.out.2.1 HR.out.2.1.size))⟩
                clear hk hcf hgf hF hNf
                go_region
                go_wp2_with (fail)
                go_meet
                case rel => exact ⟨kv, rfl, HX, Lib.hid (HY.out 1)⟩
              case rest =>
                obtain ⟨kv, rfl, HKV, HR2⟩ := hcut
                go_upto_region 17 with (fail)
                go_cut [98] from 88 to 98 (fun s98 wx => ∃ yes : Bool, s98 = .bool yes ∧ wx = wc ∧ Hid (YesIs yes kv b))
                case first =>
                  by_cases k0 : 0 ≤ kv
                  · by_cases k1 : b < 0
                    · have HO : Hid (YesIs true kv b) := Lib.hid ⟨fun _ => ⟨k0, .inl k1⟩, fun _ => rfl⟩
                      go_wp2_with (fail)
                      go_meet
                      case rel => exact ⟨true, rfl, rfl, HO⟩
                    · by_cases k2 : kv ≤ b
                      · have HO : Hid (YesIs true kv b) := Lib.hid ⟨fun _ => ⟨k0, .inr k2⟩, fun _ => rfl⟩
                        go_wp2_with (fail)
                        go_meet
                        case rel => exact ⟨true, rfl, rfl, HO⟩
                      · have HO : Hid (YesIs false kv b) := Lib.hid ⟨fun h => (by cases h), fun h => by rcases h.2 with e | e; exact absurd e k1; exact absurd e k2⟩
                        go_wp2_with (fail)
                        go_meet
                        case rel => exact ⟨false, rfl, rfl, HO⟩
                  · have HO : Hid (YesIs false kv b) := Lib.hid ⟨fun h => (by cases h), fun h => absurd h.1 k0⟩
                    go_wp2_with (fail)
                    go_meet
                    case rel => exact ⟨false, rfl, rfl, HO⟩
                case rest =>
                  obtain ⟨yes, rfl, rfl, HY⟩ := hcut
                  have HTD : Hid (Thd (toIn (riL code)) l lo here b i fr ∧ Thr (toIn (riL code)) bg fn fr ord ∧ fr[(toIn (riL code)).length - 1]? = some kv) := Lib.hid ⟨HR.out.2.2.1, HR.out.2.2.2, by rw [HCL.out, HN.out.1]; exact HKV.out⟩
                  clear HR
                  go_upto_if 98 with (fail)
                  go_cut [12] from 99 to 105 (fun s12 wx => ∃ (b' : Int) (m' : Option (Nat × Nat)), s12 = .int .i64 b' ∧ Hid (RxO wx rb s t A C code ∧ wx.heap[bx]? = some (.cells #[.string str, .bool wide] 39 (0, 0)) ∧ I wx m' ∧ Mut T w wx) ∧ Hid (Bst l n lo here b' (i + 1) m' ∧ (b < 0 ∨ b' ≤ b) ∧ (b' < 0 → b < 0)) ∧ Hid (ThAt D wx tb oA oC fA fC ord fr))
                  case first =>
                    have hk := HKEEP.out wc HR2.out.2
                    cases yes
                    · have HBK := Lib.hid (HKB.out.2.keep HAU.out hil HTD.out.1 HTD.out.2.2 fun e => by have := HY.out.2 e; cases this)
                      have HKP := Lib.hid hk
                      clear hk
                      go_wp2_with (fail)
                      go_meet
                      case rel => exact ⟨b, m, rfl, Lib.hid ⟨HKP.out.1.rx, HKP.out.1.sb, HKP.out.2.1, HKP.out.2.2⟩, Lib.hid ⟨HBK.out, .inr (Int.le_refl _), id⟩, Lib.hid HR2.out.1⟩
                    · have hy := HY.out.1 rfl
                      have HBB := Lib.hid (HKB.out.2.better HAU.out hil HTD.out.1 HTD.out.2.2 hy)
                      have HKP := Lib.hid hk
                      have hki : kv ≤ (i : Int) := (HTD.out.1.snd _ kv HTD.out.2.2 hy.1).2.1
                      obtain ⟨kn, rfl⟩ := Int.eq_ofNat_of_zero_le hy.1
                      have HYY := Lib.hid hy.2
                      have HCALL := Lib.hid (HCLO.out.call kn i hk.2.1 (by omega) q2)
                      clear hk hy hki
                      go_wp2_with (first
                        | (go_at_call 44; refine HCALL.out.mono ?_; rintro e wf ⟨rfl, hI, hmT⟩
                           have HZ : Hid (RxO wf rb s t A C code ∧ wf.heap[bx]? = some (.cells #[.string str, .bool wide] 39 (0, 0)) ∧ I wf (some (kn, i)) ∧ Mut T w wf ∧ ThAt D wf tb oA oC fA fC ord fr) := Lib.hid ⟨HKP.out.1.rx.mut hmT (HCLO.out.ty HKP.out.2.1), (hmT.block _ (lt_of_heap HKP.out.1.sb) fun e => by have := HCLO.out.lt _ e; omega).trans HKP.out.1.sb, hI, HKP.out.2.2.then (hmT.mono fun k hk => .inl hk), HR2.out.1.mut hmT fun k hk => by have h1 := HCLO.out.lt _ hk; have h2 := HTH.out.2.2; omega⟩
                           clear hI hmT))
                      go_meet
                      case rel => exact ⟨(kn : Int), some (kn, i), rfl, Lib.hid ⟨HZ.out.1, HZ.out.2.1, HZ.out.2.2.1, HZ.out.2.2.2.1⟩, Lib.hid ⟨by have := HBB.out; simpa using this, HYY.out, fun h => by omega⟩, Lib.hid HZ.out.2.2.2.2⟩
                  case rest =>
                    clear HR2 HY HKEEP
                    obtain ⟨b', m', rfl, HM, HB2, HR2⟩ := hcut
                    have HATI := fun W => HAT (i : Int) W
                    have d0 := cell_of_heap (v := .string str) HM.out.2.1 (j := 0) rfl
                    have d1 := cell_of_heap (v := .bool wide) HM.out.2.1 (j := 1) rfl
                    by_cases hin : i < l.length
                    · rw [atM_in hin] at HATI
                      have HX : Hid (l[i]? = some l[i]) := Lib.hid (List.getElem?_eq_getElem _)
                      have hcx := HCO.out _ (List.getElem_mem hin)
                      generalize l[i] = ch at *
                      go_upto_region 22 with (first
                        | (go_at_call 74; refine (HATI _).out.mono ?_; rintro e w6 ⟨rfl, hb6⟩
                           have HM6 : Hid (RxO w6 rb s t A C code ∧ w6.heap[bx]? = some (.cells #[.string str, .bool wide] 39 (0, 0)) ∧ I w6 m' ∧ Mut T w w6 ∧ ThAt D w6 tb oA oC fA fC ord fr) := Lib.hid ⟨HM.out.1.below hb6, (hb6.block _ (lt_of_heap HM.out.2.1)).trans HM.out.2.1, HCLO.out.below HM.out.2.2.1 hb6, HM.out.2.2.2.then (Mut.of_below hb6), HR2.out.below hb6⟩
                           clear hb6 d0 d1))
                      have hb7 : Below w6.heap.size w6 (w6.alloc (.map #[] 0)) := (Below.refl _ _).alloc (Nat.le_refl _) _
                      have HP0 : Hid (Below w6.heap.size w6 (w6.alloc (.map #[] 0)) ∧ MpI (w6.alloc (.map #[] 0)) w6.heap.size [] ∧ Phk (toIn (riL code)) fr ch b' (ord.take 0) [] [] ∧ (w6.alloc (.map #[] 0)).ownsRow w6.heap.size 3 1 (.slice none 0 0) 0 (ints (nats []))) := Lib.hid ⟨hb7, Mp.MapIs.made _ _ _, Phk.start, World.ownsRow_nil _ _ _ _⟩
                      have t0 := (HM6.out.2.2.2.2.below hb7).t0
                      have HOL : Hid (ord.length ≤ 20001) := Lib.hid (by have h1 := ord_len HTD.out.2.1.len HTD.out.2.1.oi HTD.out.2.1.nd; have h2 := HSM.out; rw [HCL.out] at h1; omega)
                      clear hb7 HM HR2
                      go_upto_region 24 with (fail)
                      go_loopw [10, 120] (fun s10 p wx => ∃ (j : Nat) (kA2 : Option Addr) (kC2 : Nat) (ker2 : List Nat) (L2 : List (Int × Int)), j ≤ ord.length ∧ s10 = .slice kA2 ker2.length kC2 ∧ p = .int .i64 (j : Nat) ∧ Hid (Below w6.heap.size w6 wx ∧ MpI wx w6.heap.size L2 ∧ Phk (toIn (riL code)) fr ch b' (ord.take j) ker2 L2 ∧ wx.ownsRow w6.heap.size 3 1 (.slice kA2 ker2.length kC2) ker2.length (ints (nats ker2)))) (fun _ p _ => ord.length - (intOf p).toNat)
                      case atStart => exact ⟨0, none, 0, [], [], Nat.zero_le _, rfl, rfl, HP0⟩
                      case round =>
                        clear HP0 t0
                        obtain ⟨j, kA2, kC2, ker2, L2, hj, rfl, rfl, HR⟩ := hrel
                        by_cases hlt : j < ord.length
                        · have hth := HM6.out.2.2.2.2.below HR.out.1
                          have hrx := HM6.out.1.below HR.out.1
                          obtain ⟨go, hoA, _, hgo, hco, _⟩ := own_cell hth.o j (by omega)
                          have hco2 : wr.cell? ⟨go, j, none⟩ = some (.int .i64 ((ord[j] : Nat) : Int)) := hco.trans (by simp [ints, nats, hlt])
                          obtain ⟨v, hv1, hv2, _⟩ := (HTD.out.2.1.oi _).1 (List.getElem_mem hlt)
                          have HTK : Hid (ord.take (j + 1) = ord.take j ++ [ord[j]] ∧ ord[j] ∉ ord.take j) := Lib.hid ⟨List.take_succ_eq_append_getElem hlt, nodup_take HTD.out.2.1.nd hlt⟩
                          have hkf := (List.getElem?_eq_some_iff.1 hv1).1
                          have hfl : fr.length = code.length := HTD.out.2.1.len.trans HCL.out
                          generalize ord[j] = k at *
                          obtain ⟨gf, hfA, _, hgf, hcf, _⟩ := own_cell hth.f k (by omega)
                          have hcf2 : wr.cell? ⟨gf, k, none⟩ = some (.int .i64 v) := hcf.trans (by simp [ints, hv1])
                          obtain ⟨x, hx⟩ : ∃ x, code[k]? = some x := ⟨_, List.getElem?_eq_getElem (by omega)⟩
                          have hin : (toIn (riL code))[k]? = some x.r.to := by simp [toIn, riL, hx]
                          obtain ⟨gc, hAc, hgc, hcc⟩ := hrx.rdc.rd k x hx
                          have k0 : wr.cell? ⟨gc, k * 5, none⟩ = some (.int .i64 x.r.op) := hcc 0 (by decide)
                          have k1 : wr.cell? ⟨gc, k * 5 + 1, none⟩ = some (.int .i64 x.r.x) := hcc 1 (by decide)
                          have k2 : wr.cell? ⟨gc, k * 5 + 2, none⟩ = some (.int .i64 x.r.y) := hcc 2 (by decide)
                          have k3 : wr.cell? ⟨gc, k * 5 + 3, none⟩ = some (.slice x.sa x.r.spans.length x.sc) := hcc 3 (by decide)
                          have k4 : wr.cell? ⟨gc, k * 5 + 4, none⟩ = some (.bool x.r.inv) := hcc 4 (by decide)
                          have HSP := Lib.hid (hrx.rdc.sp x (List.mem_of_getElem? hx))
                          have HSB : Hid (x.r.spans.length ≤ 1000000 ∨ x.r.op ≠ 1) := Lib.hid (by
                            by_cases ho1 : x.r.op = 1
                            · exact .inl (HSZ.out k ⟨x.r.spans, x.r.inv⟩ (hin.trans (by simp [RI.to, ho1])))
                            · exact .inr ho1)
                          have c2 := hrx.c2
                          rw [hAc] at c2
                          have t1 := hth.t1
                          subst hoA
                          rw [hfA] at t1
                          have q7 : (k : Int) < (code.length : Int) := by omega
                          have q8 : (k : Int) < (fr.length : Int) := by omega
                          have q9 : (j : Int) < (ord.length : Int) := by omega
                          have q10 : k ≤ 20001 := by have := HSM.out; omega
                          have HV := Lib.hid (And.intro hv1 (And.intro hv2 hin))
                          obtain ⟨⟨op, ix, iy, spans, inv⟩, xa, xc⟩ := x
                          simp only at k0 k1 k2 k3 k4 HSP HV HSB
                          clear hco hcf hcc hth hrx hv1 hv2 hin hx hAc hgo
                          go_upto_region 27 with (fail)
                          have hb7 : Below wr.heap.size wr (wr.alloc (.cells #[.int .i64 op, .int .i64 ix, .int .i64 iy, .slice xa spans.length xc, .bool inv] 99)) := (Below.refl _ _).alloc (Nat.le_refl _) _
                          have hk7 := heap_alloc_new wr (.cells #[.int .i64 op, .int .i64 ix, .int .i64 iy, .slice xa spans.length xc, .bool inv] 99)
                          generalize (wr.alloc (.cells #[.int .i64 op, .int .i64 ix, .int .i64 iy, .slice xa spans.length xc, .bool inv] 99)) = w7 at *
                          have HR7 : Hid (Below w6.heap.size w6 w7 ∧ MpI w7 w6.heap.size L2 ∧ w7.ownsRow w6.heap.size 3 1 (.slice kA2 ker2.length kC2) ker2.length (ints (nats ker2))) := Lib.hid ⟨HR.out.1.trans (hb7.mono HR.out.1.size), HR.out.2.1.of_block (hb7.block _ HR.out.2.1.lt), own_below HR.out.2.2.2 hb7⟩
                          have HSP7 := Lib.hid (HSP.out.below hb7)
                          have HPH := Lib.hid HR.out.2.2.1
                          have t17 := (HM6.out.2.2.2.2.below HR7.out.1).t1
                          rw [hfA] at t17
                          have f7 : w7.cell? ⟨gf, k, none⟩ = some (.int .i64 v) := ((Mut.of_below hb7).cell (S := fun _ => False) hgf fun e => e).trans hcf2
                          have k0 := cell_of_heap (v := .int .i64 op) hk7 (j := 0) rfl
                          have k3 := cell_of_heap (v := .slice xa spans.length xc) hk7 (j := 3) rfl
                          have k4 := cell_of_heap (v := .bool inv) hk7 (j := 4) rfl
                          generalize wr.heap.size = xb at *
                          have HNO : Hid ((∀ u s, fr[k]? = some u → (toIn (riL code))[k]? = some (.take s) → s.has ch = true → ¬ (b' < 0 ∨ u ≤ b')) → Phk (toIn (riL code)) fr ch b' (ord.take (j + 1)) ker2 L2) := Lib.hid fun h => by rw [HTK.out.1]; exact HPH.out.no h
                          clear HR HSP k1 k2 c2 t1 hcf2 hco2 hb7 hk7 hgf hgc
                          have HTF : Hid (∀ W, Below w6.heap.size w6 W → W.cell? ⟨tb, 1, none⟩ = some (.slice (some ⟨gf, 0, none⟩) fr.length fC) ∧ W.cell? ⟨gf, k, none⟩ = some (.int .i64 v)) := Lib.hid fun W hW => by
                            have h := HM6.out.2.2.2.2.below hW
                            have h1 := h.t1
                            rw [hfA] at h1
                            obtain ⟨gf2, e1, _, _, e2, _⟩ := own_cell h.f k (by omega)
                            rw [hfA] at e1
                            injection e1 with e1
                            injection e1 with e1
                            subst e1
                            exact ⟨h1, e2.trans (by simp [ints, HV.out.1])⟩
                          go_cut [156] from 131 to 156 (fun s156 wx => ∃ skip : Bool, s156 = .bool skip ∧ Hid (Below w6.heap.size w6 wx ∧ MpI wx w6.heap.size L2 ∧ wx.ownsRow w6.heap.size 3 1 (.slice kA2 ker2.length kC2) ker2.length (ints (nats ker2))) ∧ Hid (if skip = true then Phk (toIn (riL code)) fr ch b' (ord.take (j + 1)) ker2 L2 else ∃ z, (toIn (riL code))[k]? = some (.take z) ∧ z.has ch = true))
                          case first =>
                            by_cases o1 : op = 1
                            · subst o1
                              have hto : (toIn (riL code))[k]? = some (.take ⟨spans, inv⟩) := HV.out.2.2.trans (by simp [RI.to])
                              have HTO := Lib.hid hto
                              clear hto
                              have hsb : spans.length ≤ 1000000 := HSB.out.resolve_right fun h => h rfl
                              have HHAS : ∀ W, Below w7.heap.size w7 W → Hid (Calls Try.prog 75 #[.agg #[.slice xa spans.length xc, .bool inv], .int .i32 ch] W fun e w' => e = .returned (.bool (CSet.has ⟨spans, inv⟩ ch)) ∧ Below W.heap.size W w') := fun W hW => Lib.hid (has_is ⟨spans, inv⟩ xc (HSP7.out.below hW) (Nat.le_trans hsb (by decide)) ch)
                              have hh := @HHAS
                              generalize hhv : CSet.has ⟨spans, inv⟩ ch = hv at hh
                              have HHV := Lib.hid hhv
                              clear hhv HHAS hsb
                              cases hv
                              · have HS := Lib.hid (HNO.out fun u s h1 h2 h3 => by
                                  rw [HTO.out] at h2; injection h2 with h2; injection h2 with h2; rw [← h2, HHV.out] at h3; cases h3)
                                go_wp2_with (first
                                  | (go_at_call 75; refine (hh _ (by first | exact Below.refl _ _ | exact (Below.refl _ _).drew)).out.mono ?_; rintro e w8 ⟨rfl, hb⟩
                                     have HB8 : Hid (Below w7.heap.size w7 w8) := Lib.hid (by first | exact hb | exact (Below.refl _ _).drew.trans hb)
                                     have HR8 : Hid (Below w6.heap.size w6 w8 ∧ MpI w8 w6.heap.size L2 ∧ w8.ownsRow w6.heap.size 3 1 (.slice kA2 ker2.length kC2) ker2.length (ints (nats ker2))) := Lib.hid ⟨HR7.out.1.trans (HB8.out.mono HR7.out.1.size), HR7.out.2.1.of_block (HB8.out.block _ HR7.out.2.1.lt), own_below HR7.out.2.2 HB8.out⟩
                                     clear hb))
                                go_meet
                                case rel => exact ⟨true, rfl, HR8, HS⟩
                              · by_cases hbv : b' < 0 ∨ v ≤ b'
                                · have HS : Hid (∃ z, (toIn (riL code))[k]? = some (.take z) ∧ z.has ch = true) := Lib.hid ⟨_, HTO.out, HHV.out⟩
                                  by_cases hb0 : b' < 0
                                  · go_wp2_with (first
                                      | (go_at_call 75; refine (hh _ (by first | exact Below.refl _ _ | exact (Below.refl _ _).drew)).out.mono ?_; rintro e w8 ⟨rfl, hb⟩
                                         have HB8 : Hid (Below w7.heap.size w7 w8) := Lib.hid (by first | exact hb | exact (Below.refl _ _).drew.trans hb)
                                         have HR8 : Hid (Below w6.heap.size w6 w8 ∧ MpI w8 w6.heap.size L2 ∧ w8.ownsRow w6.heap.size 3 1 (.slice kA2 ker2.length kC2) ker2.length (ints (nats ker2))) := Lib.hid ⟨HR7.out.1.trans (HB8.out.mono HR7.out.1.size), HR7.out.2.1.of_block (HB8.out.block _ HR7.out.2.1.lt), own_below HR7.out.2.2 HB8.out⟩
                                         clear hb))
                                    go_meet
                                    case rel => exact ⟨false, rfl, HR8, HS⟩
                                  · have hvb : v ≤ b' := hbv.resolve_left hb0
                                    clear hbv
                                    go_wp2_with (first
                                      | (go_at_call 75; refine (hh _ (by first | exact Below.refl _ _ | exact (Below.refl _ _).drew)).out.mono ?_; rintro e w8 ⟨rfl, hb⟩
                                         have HB8 : Hid (Below w7.heap.size w7 w8) := Lib.hid (by first | exact hb | exact (Below.refl _ _).drew.trans hb)
                                         have HR8 : Hid (Below w6.heap.size w6 w8 ∧ MpI w8 w6.heap.size L2 ∧ w8.ownsRow w6.heap.size 3 1 (.slice kA2 ker2.length kC2) ker2.length (ints (nats ker2))) := Lib.hid ⟨HR7.out.1.trans (HB8.out.mono HR7.out.1.size), HR7.out.2.1.of_block (HB8.out.block _ HR7.out.2.1.lt), own_below HR7.out.2.2 HB8.out⟩
                                         have t18 := (HTF.out _ HR8.out.1).1
                                         have f8 := (HTF.out _ HR8.out.1).2
                                         clear hb))
                                    go_meet
                                    case rel => exact ⟨false, by rw [decide_eq_false (by omega)], HR8, HS⟩
                                · have HS := Lib.hid (HNO.out fun u s h1 h2 h3 h4 => by
                                    have h5 := HV.out.1
                                    rw [h1] at h5
                                    injection h5 with h5
                                    rw [h5] at h4
                                    exact hbv h4)
                                  have hb0 : 0 ≤ b' := by omega
                                  have hvb : b' < v := by omega
                                  clear hbv
                                  go_wp2_with (first
                                    | (go_at_call 75; refine (hh _ (by first | exact Below.refl _ _ | exact (Below.refl _ _).drew)).out.mono ?_; rintro e w8 ⟨rfl, hb⟩
                                       have HB8 : Hid (Below w7.heap.size w7 w8) := Lib.hid (by first | exact hb | exact (Below.refl _ _).drew.trans hb)
                                       have HR8 : Hid (Below w6.heap.size w6 w8 ∧ MpI w8 w6.heap.size L2 ∧ w8.ownsRow w6.heap.size 3 1 (.slice kA2 ker2.length kC2) ker2.length (ints (nats ker2))) := Lib.hid ⟨HR7.out.1.trans (HB8.out.mono HR7.out.1.size), HR7.out.2.1.of_block (HB8.out.block _ HR7.out.2.1.lt), own_below HR7.out.2.2 HB8.out⟩
                                       have t18 := (HTF.out _ HR8.out.1).1
                                       have f8 := (HTF.out _ HR8.out.1).2
                                       clear hb))
                                  go_meet
                                  case rel => exact ⟨true, rfl, HR8, HS⟩
                            · have HS := Lib.hid (HNO.out fun u s h1 h2 _ => absurd (h2.symm.trans HV.out.2.2) (by
                                intro e
                                injection e with e
                                unfold RI.to at e
                                simp only at e
                                rw [if_neg o1] at e
                                repeat (split at e; cases e)
                                cases e))
                              have p1 : (op != 1) = true := by simpa using o1
                              have hwd : Hid (Below w6.heap.size w6 w7.drew ∧ MpI w7.drew w6.heap.size L2 ∧ w7.drew.ownsRow w6.heap.size 3 1 (.slice kA2 ker2.length kC2) ker2.length (ints (nats ker2))) := Lib.hid ⟨HR7.out.1.drew, HR7.out.2.1.of_block rfl, own_below HR7.out.2.2 (Below.refl _ _).drew⟩
                              go_wp2_with (fail)
                              go_meet
                              case rel => exact ⟨true, rfl, by first | exact HR7 | exact hwd, HS⟩
                          case rest =>
                            obtain ⟨skip, rfl, HR8, HSK⟩ := hcut
                            clear HR7 HSP7 HNO t17 f7 k0 k3 k4
                            have HLT : Hid (j < ord.length) := Lib.hid hlt
                            have q12 : j ≤ 20001 := by have := HOL.out; omega
                            cases skip
                            · have hpy : Hid (Phk (toIn (riL code)) fr ch b' (ord.take (j + 1)) (ker2 ++ [k + 1]) (Mp.put L2 ((k : Int) + 1) v)) := Lib.hid (by
                                obtain ⟨z, hz1, hz2⟩ := HSK.out
                                rw [HTK.out.1]
                                exact HPH.out.yes HTK.out.2 HV.out.1 HV.out.2.1 hz1 hz2)
                              have HKL : ker2.length ≤ 20001 := by
                                have h1 := HPH.out.len
                                rw [List.length_take] at h1
                                have := HOL.out
                                omega
                              have hlk := lookN_run HR8.out.2.1 ((k : Int) + 1) (by have h := HPH.out.fresh HTK.out.2; push_cast at h; exact h)
                              have hBw : w6.heap.size ≤ wc.heap.size := HR8.out.1.size
                              go_wp2_with (first
                                | (at_builtin
                                   refine app_gen Try.underlying24 info_int rfl (by decide) (by decide) rfl _ _ rfl w6.heap.size kA2 kC2 ker2.length (ints (nats ker2)) #[.int .i64 ((k : Int) + 1)] rfl HR8.out.2.2 rfl rfl rfl ?k1 (by omega) hBw ?_
                                   case k1 => intro u hu; simp only [List.mem_cons, List.not_mem_nil, or_false] at hu; rcases hu with rfl; rfl
                                   intro A1 C1 w9 ho hm hl
                                   have hb9 : Below w6.heap.size w6 w9 := HR8.out.1.trans (hm.to_below hBw fun k ⟨a, ha, e⟩ => e ▸ own_ge HR8.out.2.2 a ha)
                                   have hmp9 : MpI w9 w6.heap.size L2 := HR8.out.2.1.of_block (hm.block _ HR8.out.2.1.lt fun ⟨a, ha, e⟩ => mp_not_own HR8.out.2.1 HR8.out.2.2 a ha e)
                                   obtain ⟨w10, hup, hmp10, hm10⟩ := updI_run hmp9 ((k : Int) + 1) v
                                   have HR10 : Hid (Below w6.heap.size w6 w10 ∧ MpI w10 w6.heap.size (Mp.put L2 ((k : Int) + 1) v) ∧ w10.ownsRow w6.heap.size 3 1 (.slice A1 (ker2.length + 1) C1) (ker2.length + 1) (ints (nats (ker2 ++ [k + 1])))) := Lib.hid ⟨hb9.trans (hm10.to_below hb9.size fun k e => Nat.le_of_eq e.symm), hmp10, by
                                     have e1 : ints (nats (ker2 ++ [k + 1])) = ints (nats ker2) ++ [.int .i64 ((k : Int) + 1)] := by simp [ints, nats]
                                     rw [e1]
                                     exact own_mut2 ho hm10 (mp_not_own hmp9 ho)⟩
                                   have t19 := (HTF.out _ hb9).1
                                   have f9 := (HTF.out _ hb9).2
                                   clear ho hm hl hb9 hmp9 hmp10 hm10))
                              go_roundw
                              case rel => exact ⟨j + 1, A1, C1, ker2 ++ [k + 1], _, by have := HLT.out; omega, by rw [List.length_append]; rfl, by go_num, Lib.hid ⟨HR10.out.1, HR10.out.2.1, hpy.out, by rw [List.length_append]; exact HR10.out.2.2⟩⟩
                              case measure => have := HLT.out; simp [intOf]; omega
                            · go_wp2_with (fail)
                              go_roundw
                              case rel => exact ⟨j + 1, kA2, kC2, ker2, L2, by have := HLT.out; omega, rfl, by go_num, Lib.hid ⟨HR8.out.1, HR8.out.2.1, HSK.out, HR8.out.2.2⟩⟩
                              case measure => have := HLT.out; simp [intOf]; omega
                        · obtain rfl : j = ord.length := by omega
                          rw [List.take_length] at HR
                          have HKN := Lib.hid (HR.out.2.2.1.kern HAU.out HTD.out.1 HB2.out.2.1 HB2.out.2.2 HX.out HTD.out.2.1.oi)
                          have HIM : Hid (I wr m' ∧ Mut T w wr) := Lib.hid ⟨HCLO.out.below HM6.out.2.2.1 HR.out.1, HM6.out.2.2.2.1.then (Mut.of_below HR.out.1)⟩
                          have HKL2 : Hid (ker2.length ≤ 20001) := Lib.hid (by have := HR.out.2.2.1.len; have := HOL.out; omega)
                          have HSN : Hid (SeS bx wr rb s t A C code bx #[.string str, .bool wide] kA2 kC2 ker2 w6.heap.size L2) := Lib.hid ⟨HM6.out.1.below HR.out.1, (HR.out.1.block _ (lt_of_heap HM6.out.2.1)).trans HM6.out.2.1, own_weak HR.out.2.2.2 (Nat.le_of_lt (lt_of_heap HM6.out.2.1)), HR.out.2.1, Nat.le_refl _, Nat.le_of_lt (lt_of_heap HM6.out.2.1)⟩
                          by_cases hst2 : ker2.length = 0 ∧ (0 ≤ b' ∨ here = true)
                          · have HF : Hid (Fnd l n lo here m') := Lib.hid (by
                              have h1 := HKN.out
                              rw [List.length_eq_zero_iff.1 hst2.1] at h1
                              exact Bst.stop HAU.out HB2.out.1 h1 HI.out.1 hst2.2)
                            obtain ⟨z1, z2⟩ := hst2
                            rw [z1]
                            by_cases k0 : 0 ≤ b'
                            · go_wp2_with (fail)
                              (first | go_end0 | refine bodyPost_ret (results_none rfl _ _ _) rfl ?_)
                              exact ⟨rfl, m', HF.out, HIM.out.1, HIM.out.2⟩
                            · have hh : here = true := z2.resolve_left k0
                              subst hh
                              go_wp2_with (fail)
                              (first | go_end0 | refine bodyPost_ret (results_none rfl _ _ _) rfl ?_)
                              exact ⟨rfl, m', HF.out, HIM.out.1, HIM.out.2⟩
                          · have hgo : ∀ k : Nat, k = l.length + 2 - (i + 1) → Hid (k < gk) := fun k hk => Lib.hid (by have := HK.out; omega)
                            by_cases z1 : ker2.length = 0
                            · have z2 : b' < 0 := by
                                by_cases e : 0 ≤ b'
                                · exact absurd ⟨z1, .inl e⟩ hst2
                                · omega
                              have hh : here = false := by
                                cases here
                                · rfl
                                · exact absurd ⟨z1, .inr rfl⟩ hst2
                              subst hh
                              have z3 : ((ker2.length : Int) == 0) = true := by simp [z1]
                              clear hst2 hlt hj
                              go_wp2_with (fail)
                              go_roundg (l.length + 2 - (i + 1))
                              case measure => exact (hgo _ rfl).out
                              case rel => exact ⟨i + 1, b', m', kA2, kC2, ker2, _, L2, by rw [z1], rfl, rfl, by go_num, Lib.hid ⟨HSN.out, HIM.out.1, HIM.out.2⟩, Lib.hid ⟨HKN.out, HB2.out.1⟩, Lib.hid ⟨by have := HI.out; omega, by omega, HKL2.out⟩, Lib.hid rfl⟩
                            · have z3 : ((ker2.length : Int) == 0) = false := beq_false_of_ne (by omega)
                              clear hst2 hlt hj
                              go_wp2_with (fail)
                              go_roundg (l.length + 2 - (i + 1))
                              case measure => exact (hgo _ rfl).out
                              case rel => exact ⟨i + 1, b', m', kA2, kC2, ker2, _, L2, rfl, rfl, rfl, by go_num, Lib.hid ⟨HSN.out, HIM.out.1, HIM.out.2⟩, Lib.hid ⟨HKN.out, HB2.out.1⟩, Lib.hid ⟨by have := HI.out; omega, by omega, HKL2.out⟩, Lib.hid rfl⟩
                    · rw [atM_out hin] at HATI
                      have hil2 : i = l.length := by omega
                      have HF := Lib.hid (show Fnd l n lo here m' from by have h1 := HB2.out.1; rw [hil2] at h1; exact h1.all)
                      clear hil2
                      go_wp2_with (first
                        | (go_at_call 74; refine (HATI _).out.mono ?_; rintro e w6 ⟨rfl, hb6⟩
                           have HM6 : Hid (I w6 m' ∧ Mut T w w6) := Lib.hid ⟨HCLO.out.below HM.out.2.2.1 hb6, HM.out.2.2.2.then (Mut.of_below hb6)⟩
                           clear hb6))
                      (first | go_end0 | refine bodyPost_ret (results_none rfl _ _ _) rfl ?_)
                      exact ⟨rfl, m', HF.out, HM6.out.1, HM6.out.2⟩
    · have q1 : (l.length : Int) < (i : Int) := by omega
      obtain rfl : i = l.length + 1 := by have := HI.out; omega
      have HF := Lib.hid HKB.out.2.all
      go_wp2_with (go_at_call 32; refine (HLEN _).out.mono ?_; rintro e w1 ⟨rfl, hb1⟩; have HB1 := Lib.hid hb1; clear hb1)
      (first | go_end0 | refine bodyPost_ret (results_none rfl _ _ _) rfl ?_)
      exact ⟨rfl, m, HF.out, HCLO.out.below HS.out.2.1 HB1.out, HS.out.2.2.then (Mut.of_below HB1.out)⟩
end Go.Proofs.Ytcajnmhbkjngbaa

