/- add: the walk. -/
import Derived.Test.YtcajnmhbkjngbaaG14
namespace Go.Proofs.Ytcajnmhbkjngbaa
open Go.RowKit Go.Shelf
set_option maxRecDepth 100000
variable {B tb oC fC : Nat} {w : World} {oA fA : Option Addr} {ord : List Nat} {fr : List Int}
theorem ints_succ (i : Nat) : ints (nats [i + 1]) = [.int .i64 ((i : Int) + 1)] := by simp [ints, nats]
/-- What add leaves. -/
def AddPo (B : Nat) (w : World) (tb : Nat) (c : List In) (bg fn : Bool) (fr : List Int) (v : Int) (at0 : Nat) (w' : World) : Prop := ∃ oA oC fA fC ord' fr', ThAt B w' tb oA oC fA fC ord' fr' ∧ Adg c bg fn fr v at0 fr' ord' [] ∧ Below B w w'
set_option maxHeartbeats 8000000 in
theorem add_calls {rb : Nat} {s : ByteArray} {t : Nat} {A : Option Addr} {C : Nat} {code : List CI} (hrx : ∀ W, Below B w W → RxO W rb s t A C code) (hva : Valid (toIn (riL code))) (th : ThAt B w tb oA oC fA fC ord fr) (hB : B ≤ w.heap.size) {bg fn : Bool} (htr : Thr (toIn (riL code)) bg fn fr ord) {at0 : Nat} (ha : at0 < code.length) (v : Nat) (hvl : v ≤ 1000000) :
    Calls Try.prog 73 #[.pointer (some ⟨rb, 0, none⟩), .pointer (some ⟨tb, 0, none⟩), .int .i64 (at0 : Nat), .int .i64 (v : Nat), .bool bg, .bool fn] w fun e w' => e = .returned (.tuple #[]) ∧ AddPo B w tb (toIn (riL code)) bg fn fr (v : Nat) at0 w' := by
  have HRX := Lib.hid hrx
  have HVA := Lib.hid hva
  have hcl : (toIn (riL code)).length = code.length := by simp [toIn, riL]
  have HCL := Lib.hid hcl
  have hsm := (hrx w (Below.refl _ _)).small
  have HSM := Lib.hid hsm
  have HA0 : Hid (AdS B (w.alloc (.cells #[.int .i64 (at0 : Nat)] 3)) tb oA oC fA fC ord fr (some ⟨w.heap.size, 0, none⟩) 1 [at0] ∧ Below B w (w.alloc (.cells #[.int .i64 (at0 : Nat)] 3))) := Lib.hid ⟨AdS.start th hB at0, (Below.refl _ _).alloc hB _⟩
  have HG0 : Hid (Adg (toIn (riL code)) bg fn fr (v : Nat) at0 fr ord [at0]) := Lib.hid (htr.start (by rw [hcl]; exact ha) _)
  have HK0 : Hid (2 * lackN fr (v : Nat) + 1 ≤ 2 * code.length + 1) := Lib.hid (by have h1 := lack_le fr (v : Nat); have h2 := htr.len; omega)
  have HBW := Lib.hid hB
  clear hrx hva th htr hcl hsm ha hB
  go_enter Try.func73, Try.ntmps73
  go_wp2
  go_loopg [12] (2 * lackN fr (v : Nat) + 1) (fun k s12 wr => ∃ (oA oC' : _) (fA : Option Addr) (fC' : Nat) (ord : List Nat) (fr' : List Int) (sA : Option Addr) (sC : Nat) (stack : List Nat), s12 = .slice sA stack.length sC ∧ Hid (AdS B wr tb oA oC' fA fC' ord fr' sA sC stack ∧ Below B w wr) ∧ Hid (Adg (toIn (riL code)) bg fn fr (v : Nat) at0 fr' ord stack) ∧ Hid (2 * lackN fr' (v : Nat) + stack.length = k ∧ k ≤ 2 * code.length + 1))
  case atStart => exact ⟨oA, oC, fA, fC, ord, fr, _, _, _, rfl, HA0, HG0, Lib.hid ⟨rfl, HK0.out⟩⟩
  case round =>
    clear HA0 HG0 HK0
    obtain ⟨oA, oC, fA, fC, ord, fr', sA, sC, stack, rfl, HA, HG, HK⟩ := hrel
    rcases List.eq_nil_or_concat stack with rfl | ⟨st, i, rfl⟩
    · go_wp2
      (first | go_end0 | refine bodyPost_ret (results_none rfl _ _ _) rfl ?_)
      exact ⟨rfl, oA, oC, fA, fC, ord, fr', HA.out.1.th, HG.out, HA.out.2⟩
    · simp only [List.concat_eq_append] at HA HG HK ⊢
      rw [List.length_append, List.length_singleton]
      obtain ⟨g, hA, c0, q1⟩ := HA.out.1.top
      have HP := Lib.hid HA.out.1.pop
      have HLEN : Hid (fr'.length = code.length) := Lib.hid (by rw [HG.out.len, HCL.out])
      have hil : i < code.length := by have := (HG.out.st i (by simp)).2; rw [HCL.out] at this; exact this
      have hif : i < fr'.length := by have := HLEN.out; omega
      have HSL : Hid (st.length ≤ 50000 ∧ ord.length ≤ 20001) := Lib.hid (by
        have h1 := HK.out
        have h2 := HSM.out
        simp only [List.length_append, List.length_singleton] at h1
        have h3 := ord_len HG.out.len HG.out.oi HG.out.nd
        rw [HCL.out] at h3
        omega)
      have q2 : st.length ≤ 50000 := HSL.out.1
      have t1 := HA.out.1.th.t1
      have t0 := HA.out.1.th.t0
      obtain ⟨gf, hF, cf, ff, hput, hm, hBg, hg⟩ := HP.out.put hif (v : Nat)
      subst hA
      rw [hF] at t1
      have q3 : (i : Int) < (fr'.length : Int) := by omega
      have q6 : i ≤ 20001 := by have := HSM.out; omega
      have q4 : 0 ≤ (i : Int) := by omega
      have HPUT := Lib.hid hput
      clear hput
      by_cases hcov : 0 ≤ fr'[i] ∧ fr'[i] ≤ (v : Int)
      · have HG2 : Hid (Adg (toIn (riL code)) bg fn fr (v : Nat) at0 fr' ord st) := Lib.hid (HG.out.skip ⟨fr'[i], List.getElem?_eq_getElem hif, hcov.1, hcov.2⟩)
        have HBB := Lib.hid HA.out.2
        generalize fr'[i] = was at *
        obtain ⟨z0, z1⟩ := hcov
        clear hm hBg hg HPUT
        go_wp2
        go_roundg (2 * lackN fr' (v : Nat) + st.length)
        case measure => have h1 := HK.out; simp only [List.length_append, List.length_singleton] at h1; omega
        case rel => exact ⟨oA, oC, fA, fC, ord, fr', some ⟨g, 0, none⟩, sC, st, rfl, Lib.hid ⟨HP.out, HBB.out⟩, HG2, Lib.hid ⟨rfl, by have h1 := HK.out; simp only [List.length_append, List.length_singleton] at h1; omega⟩⟩
      · have HG2 := Lib.hid (HG.out.put HVA.out (show (0 : Int) ≤ (v : Nat) by omega) (fun ⟨u, h1, h2, h3⟩ => by rw [List.getElem?_eq_getElem hif] at h1; injection h1 with h1; exact hcov ⟨by rw [h1]; exact h2, by rw [h1]; exact h3⟩))
        have HLK := Lib.hid (lack_set (show (0 : Int) ≤ (v : Nat) by omega) hif hcov)
        have hgd : fr'.getD i 0 = fr'[i] := by simp [List.getD_eq_getElem?_getD, hif]
        rw [hgd] at HG2
        have HBB := Lib.hid HA.out.2
        generalize fr'[i] = was at *
        by_cases hneg : was < 0
        · have HO2 : Hid ((if 0 ≤ was then ord else ord ++ [i]) = ord ++ [i]) := Lib.hid (if_neg (by omega))
          rw [HO2.out] at HG2
          have hBwr : B ≤ wr.heap.size := Nat.le_trans HBW.out HBB.out.size
          have q5 : ord.length ≤ 20001 := HSL.out.2
          have tk : True := trivial
          clear hcov hm hBg hg HPUT
          go_upto_region 8 with (first
            | (at_builtin
               have _t := tk
               clear _t
               refine app_gen Try.underlying24 info_int rfl (by decide) (by decide) rfl _ _ rfl B oA oC ord.length (ints (nats ord)) #[.int .i64 (i : Nat)] rfl HP.out.th.o rfl rfl rfl ?k1 (by omega) hBwr ?_
               case k1 => intro u hu; simp only [List.mem_cons, List.not_mem_nil, or_false] at hu; rcases hu with rfl; rfl
               intro A1 C1 w2 ho hm hl
               have hxo := HP.out.order hm ho hl hBwr
               have HX2 : Hid (AdS B (w2.setCell ⟨tb, 0, none⟩ (.slice A1 (ord.length + 1) C1)) tb A1 C1 fA fC (ord ++ [i]) fr' (some ⟨g, 0, none⟩) sC st ∧ Below B w (w2.setCell ⟨tb, 0, none⟩ (.slice A1 (ord.length + 1) C1))) := Lib.hid ⟨hxo.1, HBB.out.trans hxo.2.2.2.2⟩
               obtain ⟨_, m0, m1, mf, _⟩ := hxo
               clear ho hm hl tk))
          generalize (w2.setCell ⟨tb, 0, none⟩ (.slice A1 (ord.length + 1) C1)) = w3 at *
          clear t0 t1 c0 m0 m1 mf cf ff
          obtain ⟨gf', hF', cf, ff, hput', hm', hBg', hg'⟩ := HX2.out.1.put hif (v : Nat)
          obtain rfl : gf = gf' := by rw [hF] at hF'; injection hF' with e; injection e
          have t1 := HX2.out.1.th.t1
          rw [hF] at t1
          obtain ⟨u, cf2⟩ : ∃ u, w3.cell? ⟨gf, i, none⟩ = some u := ⟨_, cf⟩
          have HX4 : Hid (AdS B (w3.setCell ⟨gf, i, none⟩ (.int .i64 (v : Nat))) tb A1 C1 fA fC (ord ++ [i]) (fr'.set i (v : Nat)) (some ⟨g, 0, none⟩) sC st ∧ Below B w (w3.setCell ⟨gf, i, none⟩ (.int .i64 (v : Nat))) ∧ B ≤ (w3.setCell ⟨gf, i, none⟩ (.int .i64 (v : Nat))).heap.size) := Lib.hid (by
            have hb3 := HX2.out.2.trans (hm'.to_below (Nat.le_trans HBW.out HX2.out.2.size) fun k hk => hk ▸ hBg')
            exact ⟨hput', hb3, Nat.le_trans HBW.out hb3.size⟩)
          clear cf hF' hput' hm' hBg' hg'
          go_upto_region 9 with (fail)
          generalize (w3.setCell ⟨gf, i, none⟩ (.int .i64 (v : Nat))) = w4 at *
          clear t1 cf2 ff
          have tk : True := trivial
          have hr4 := HRX.out w4 HX4.out.2.1
          obtain ⟨x, hx⟩ : ∃ x, code[i]? = some x := ⟨_, List.getElem?_eq_getElem hil⟩
          obtain ⟨gc, hAc, hgc, hcc⟩ := hr4.rdc.rd i x hx
          have k0 : w4.cell? ⟨gc, i * 5, none⟩ = some (.int .i64 x.r.op) := hcc 0 (by decide)
          have k1 : w4.cell? ⟨gc, i * 5 + 1, none⟩ = some (.int .i64 x.r.x) := hcc 1 (by decide)
          have k2 : w4.cell? ⟨gc, i * 5 + 2, none⟩ = some (.int .i64 x.r.y) := hcc 2 (by decide)
          have k3 : w4.cell? ⟨gc, i * 5 + 3, none⟩ = some (.slice x.sa x.r.spans.length x.sc) := hcc 3 (by decide)
          have k4 : w4.cell? ⟨gc, i * 5 + 4, none⟩ = some (.bool x.r.inv) := hcc 4 (by decide)
          have r2 := hr4.c2
          rw [hAc] at r2
          have HSU := Lib.hid (succs_of hx bg fn)
          obtain ⟨nb1, nb2, nb3, nb4⟩ := hr4.nb x (List.mem_of_getElem? hx)
          have q7 : (i : Int) < (code.length : Int) := by omega
          generalize x.r.op = op at *
          obtain ⟨X, hX⟩ := Int.eq_ofNat_of_zero_le nb1
          obtain ⟨Y, hY⟩ := Int.eq_ofNat_of_zero_le nb3
          rw [hX] at k1 HSU
          rw [hY] at k2 HSU
          simp only [Int.ofNat_eq_natCast, Int.toNat_natCast] at k1 k2 HSU
          generalize x.sa = xa at *
          generalize x.sc = xc at *
          generalize x.r.spans.length = xl at *
          generalize x.r.inv = xi at *
          clear nb1 nb2 nb3 nb4 hX hY hcc hr4 hx hil hif
          go_upto_region 10 with (fail)
          have hb6 : Below w4.heap.size w4 (w4.alloc (.cells #[.int .i64 op, .int .i64 (X : Nat), .int .i64 (Y : Nat), .slice xa xl xc, .bool xi] 99)) := (Below.refl _ _).alloc (Nat.le_refl _) _
          have hk6 := heap_alloc_new w4 (.cells #[.int .i64 op, .int .i64 (X : Nat), .int .i64 (Y : Nat), .slice xa xl xc, .bool xi] 99)
          generalize (w4.alloc (.cells #[.int .i64 op, .int .i64 (X : Nat), .int .i64 (Y : Nat), .slice xa xl xc, .bool xi] 99)) = w6 at *
          have HX5 : Hid (AdS B w6 tb A1 C1 fA fC (ord ++ [i]) (fr'.set i (v : Nat)) (some ⟨g, 0, none⟩) sC st ∧ Below B w w6) := Lib.hid ⟨HX4.out.1.below hb6, HX4.out.2.1.trans (hb6.mono HX4.out.2.2)⟩
          have HB5 : Hid (B ≤ w6.heap.size) := Lib.hid (Nat.le_trans HX4.out.2.2 hb6.size)
          have HS5 := Lib.hid HX5.out.1.st
          have k0 := cell_of_heap (v := .int .i64 op) hk6 (j := 0) rfl
          have k1 := cell_of_heap (v := .int .i64 (X : Nat)) hk6 (j := 1) rfl
          have k2 := cell_of_heap (v := .int .i64 (Y : Nat)) hk6 (j := 2) rfl
          generalize w4.heap.size = xb at *
          clear k3 k4 hb6 hk6 r2 hgc hAc
          by_cases o2 : op = 2
          · subst o2
            replace HSU : Hid (succs (toIn (riL code)) bg fn i = [Y, X]) := Lib.hid (by rw [HSU.out]; simp)
            go_wp2_with (first
              | (at_builtin
                 have _t := tk
                 clear _t
                 refine app_genm Try.underlying24 info_int rfl (by decide) (by decide) rfl _ _ rfl B (some ⟨g, 0, none⟩) sC st.length 2 (ints (nats st)) #[.int .i64 (Y : Nat), .int .i64 (X : Nat)] rfl HS5.out (p := w6.heap.size) rfl rfl rfl ?k1 (by omega) (by decide) (by decide) HB5.out ?_
                 case k1 => intro u hu; simp only [List.mem_cons, List.not_mem_nil, or_false] at hu; rcases hu with rfl | rfl <;> rfl
                 intro S1 D1 w5 ho hm hl
                 have hp := HX5.out.1.push (m := 2) [Y, X] rfl hm ho hl HB5.out
                 have HX7 : Hid (AdS B w5 tb A1 C1 fA fC (ord ++ [i]) (fr'.set i (v : Nat)) S1 D1 (st ++ [Y, X]) ∧ Below B w w5) := Lib.hid ⟨hp.1, HX5.out.2.trans hp.2⟩
                 clear ho hm hl hp tk))
            go_roundg (2 * lackN (fr'.set i (v : Nat)) (v : Nat) + (st.length + 2))
            case measure => have h1 := HK.out; have h2 := HLK.out; simp only [List.length_append, List.length_singleton] at h1; omega
            case rel => exact ⟨A1, C1, fA, fC, (ord ++ [i]), fr'.set i (v : Nat), S1, D1, (st ++ [Y, X]), by rw [List.length_append]; rfl, Lib.hid HX7.out, Lib.hid (by have := HG2.out; rw [HSU.out] at this; exact this), Lib.hid ⟨by simp, by have h1 := HK.out; have h2 := HLK.out; simp only [List.length_append, List.length_singleton] at h1; omega⟩⟩
          by_cases o3 : op = 3
          · subst o3
            replace HSU : Hid (succs (toIn (riL code)) bg fn i = [X]) := Lib.hid (by rw [HSU.out]; simp)
            go_wp2_with (first
              | (at_builtin
                 have _t := tk
                 clear _t
                 refine app_genm Try.underlying24 info_int rfl (by decide) (by decide) rfl _ _ rfl B (some ⟨g, 0, none⟩) sC st.length 1 (ints (nats st)) #[.int .i64 (X : Nat)] rfl HS5.out (p := w6.heap.size) rfl rfl rfl ?k1 (by omega) (by decide) (by decide) HB5.out ?_
                 case k1 => intro u hu; simp only [List.mem_cons, List.not_mem_nil, or_false] at hu; rcases hu with rfl; rfl
                 intro S1 D1 w5 ho hm hl
                 have hp := HX5.out.1.push (m := 1) [X] rfl hm ho hl HB5.out
                 have HX7 : Hid (AdS B w5 tb A1 C1 fA fC (ord ++ [i]) (fr'.set i (v : Nat)) S1 D1 (st ++ [X]) ∧ Below B w w5) := Lib.hid ⟨hp.1, HX5.out.2.trans hp.2⟩
                 clear ho hm hl hp tk))
            go_roundg (2 * lackN (fr'.set i (v : Nat)) (v : Nat) + (st.length + 1))
            case measure => have h1 := HK.out; have h2 := HLK.out; simp only [List.length_append, List.length_singleton] at h1; omega
            case rel => exact ⟨A1, C1, fA, fC, (ord ++ [i]), fr'.set i (v : Nat), S1, D1, (st ++ [X]), by rw [List.length_append]; rfl, Lib.hid HX7.out, Lib.hid (by have := HG2.out; rw [HSU.out] at this; exact this), Lib.hid ⟨by simp, by have h1 := HK.out; have h2 := HLK.out; simp only [List.length_append, List.length_singleton] at h1; omega⟩⟩
          by_cases o4 : op = 4
          · subst o4
            cases bg
            · replace HSU : Hid (succs (toIn (riL code)) false fn i = []) := Lib.hid (by rw [HSU.out]; simp)
              have HX7 := HX5
              go_wp2
              go_roundg (2 * lackN (fr'.set i (v : Nat)) (v : Nat) + (st.length + 0))
              case measure => have h1 := HK.out; have h2 := HLK.out; simp only [List.length_append, List.length_singleton] at h1; omega
              case rel => exact ⟨A1, C1, fA, fC, (ord ++ [i]), fr'.set i (v : Nat), some ⟨g, 0, none⟩, sC, st, rfl, Lib.hid HX7.out, Lib.hid (by have := HG2.out; rw [HSU.out, List.append_nil] at this; exact this), Lib.hid ⟨by simp, by have h1 := HK.out; have h2 := HLK.out; simp only [List.length_append, List.length_singleton] at h1; omega⟩⟩
            · replace HSU : Hid (succs (toIn (riL code)) true fn i = [i + 1]) := Lib.hid (by rw [HSU.out]; simp)
              go_wp2_with (first
                | (at_builtin
                   have _t := tk
                   clear _t
                   refine app_genm Try.underlying24 info_int rfl (by decide) (by decide) rfl _ _ rfl B (some ⟨g, 0, none⟩) sC st.length 1 (ints (nats st)) #[.int .i64 ((i : Int) + 1)] rfl HS5.out (p := w6.heap.size) rfl rfl rfl ?k1 (by omega) (by decide) (by decide) HB5.out ?_
                   case k1 => intro u hu; simp only [List.mem_cons, List.not_mem_nil, or_false] at hu; rcases hu with rfl; rfl
                   intro S1 D1 w5 ho hm hl
                   have hp := HX5.out.1.push (m := 1) [i + 1] rfl hm (by rw [ints_succ]; exact ho) hl HB5.out
                   have HX7 : Hid (AdS B w5 tb A1 C1 fA fC (ord ++ [i]) (fr'.set i (v : Nat)) S1 D1 (st ++ [i + 1]) ∧ Below B w w5) := Lib.hid ⟨hp.1, HX5.out.2.trans hp.2⟩
                   clear ho hm hl hp tk))
              go_roundg (2 * lackN (fr'.set i (v : Nat)) (v : Nat) + (st.length + 1))
              case measure => have h1 := HK.out; have h2 := HLK.out; simp only [List.length_append, List.length_singleton] at h1; omega
              case rel => exact ⟨A1, C1, fA, fC, (ord ++ [i]), fr'.set i (v : Nat), S1, D1, (st ++ [i + 1]), by rw [List.length_append]; rfl, Lib.hid HX7.out, Lib.hid (by have := HG2.out; rw [HSU.out] at this; exact this), Lib.hid ⟨by simp, by have h1 := HK.out; have h2 := HLK.out; simp only [List.length_append, List.length_singleton] at h1; omega⟩⟩
          by_cases o5 : op = 5
          · subst o5
            cases fn
            · replace HSU : Hid (succs (toIn (riL code)) bg false i = []) := Lib.hid (by rw [HSU.out]; simp)
              have HX7 := HX5
              go_wp2
              go_roundg (2 * lackN (fr'.set i (v : Nat)) (v : Nat) + (st.length + 0))
              case measure => have h1 := HK.out; have h2 := HLK.out; simp only [List.length_append, List.length_singleton] at h1; omega
              case rel => exact ⟨A1, C1, fA, fC, (ord ++ [i]), fr'.set i (v : Nat), some ⟨g, 0, none⟩, sC, st, rfl, Lib.hid HX7.out, Lib.hid (by have := HG2.out; rw [HSU.out, List.append_nil] at this; exact this), Lib.hid ⟨by simp, by have h1 := HK.out; have h2 := HLK.out; simp only [List.length_append, List.length_singleton] at h1; omega⟩⟩
            · replace HSU : Hid (succs (toIn (riL code)) bg true i = [i + 1]) := Lib.hid (by rw [HSU.out]; simp)
              go_wp2_with (first
                | (at_builtin
                   have _t := tk
                   clear _t
                   refine app_genm Try.underlying24 info_int rfl (by decide) (by decide) rfl _ _ rfl B (some ⟨g, 0, none⟩) sC st.length 1 (ints (nats st)) #[.int .i64 ((i : Int) + 1)] rfl HS5.out (p := w6.heap.size) rfl rfl rfl ?k1 (by omega) (by decide) (by decide) HB5.out ?_
                   case k1 => intro u hu; simp only [List.mem_cons, List.not_mem_nil, or_false] at hu; rcases hu with rfl; rfl
                   intro S1 D1 w5 ho hm hl
                   have hp := HX5.out.1.push (m := 1) [i + 1] rfl hm (by rw [ints_succ]; exact ho) hl HB5.out
                   have HX7 : Hid (AdS B w5 tb A1 C1 fA fC (ord ++ [i]) (fr'.set i (v : Nat)) S1 D1 (st ++ [i + 1]) ∧ Below B w w5) := Lib.hid ⟨hp.1, HX5.out.2.trans hp.2⟩
                   clear ho hm hl hp tk))
              go_roundg (2 * lackN (fr'.set i (v : Nat)) (v : Nat) + (st.length + 1))
              case measure => have h1 := HK.out; have h2 := HLK.out; simp only [List.length_append, List.length_singleton] at h1; omega
              case rel => exact ⟨A1, C1, fA, fC, (ord ++ [i]), fr'.set i (v : Nat), S1, D1, (st ++ [i + 1]), by rw [List.length_append]; rfl, Lib.hid HX7.out, Lib.hid (by have := HG2.out; rw [HSU.out] at this; exact this), Lib.hid ⟨by simp, by have h1 := HK.out; have h2 := HLK.out; simp only [List.length_append, List.length_singleton] at h1; omega⟩⟩
          · replace HSU : Hid (succs (toIn (riL code)) bg fn i = []) := Lib.hid (by rw [HSU.out, if_neg o2, if_neg o3, if_neg o4, if_neg o5])
            have p2 : (op == 2) = false := by simpa using o2
            have p3 : (op == 3) = false := by simpa using o3
            have p4 : (op == 4) = false := by simpa using o4
            have p5 : (op == 5) = false := by simpa using o5
            have HX7 := HX5
            go_wp2
            go_roundg (2 * lackN (fr'.set i (v : Nat)) (v : Nat) + (st.length + 0))
            case measure => have h1 := HK.out; have h2 := HLK.out; simp only [List.length_append, List.length_singleton] at h1; omega
            case rel => exact ⟨A1, C1, fA, fC, (ord ++ [i]), fr'.set i (v : Nat), some ⟨g, 0, none⟩, sC, st, rfl, Lib.hid HX7.out, Lib.hid (by have := HG2.out; rw [HSU.out, List.append_nil] at this; exact this), Lib.hid ⟨by simp, by have h1 := HK.out; have h2 := HLK.out; simp only [List.length_append, List.length_singleton] at h1; omega⟩⟩
        · have z0 : 0 ≤ was := by omega
          have z1 : ¬ was ≤ (v : Int) := by omega
          have HO2 : Hid ((if 0 ≤ was then ord else ord ++ [i]) = ord) := Lib.hid (if_pos z0)
          rw [HO2.out] at HG2
          have HX4 : Hid (AdS B (wr.setCell ⟨gf, i, none⟩ (.int .i64 (v : Nat))) tb oA oC fA fC ord (fr'.set i (v : Nat)) (some ⟨g, 0, none⟩) sC st ∧ Below B w (wr.setCell ⟨gf, i, none⟩ (.int .i64 (v : Nat))) ∧ B ≤ (wr.setCell ⟨gf, i, none⟩ (.int .i64 (v : Nat))).heap.size) := Lib.hid (by
            have hb3 := HBB.out.trans (hm.to_below (Nat.le_trans HBW.out HBB.out.size) fun k hk => hk ▸ hBg)
            exact ⟨HPUT.out, hb3, Nat.le_trans HBW.out hb3.size⟩)
          have tk : True := trivial
          clear hcov hm hBg hg HPUT
          go_upto_region 9 with (fail)
          generalize (wr.setCell ⟨gf, i, none⟩ (.int .i64 (v : Nat))) = w4 at *
          clear t0 t1 c0 cf ff
          have hr4 := HRX.out w4 HX4.out.2.1
          obtain ⟨x, hx⟩ : ∃ x, code[i]? = some x := ⟨_, List.getElem?_eq_getElem hil⟩
          obtain ⟨gc, hAc, hgc, hcc⟩ := hr4.rdc.rd i x hx
          have k0 : w4.cell? ⟨gc, i * 5, none⟩ = some (.int .i64 x.r.op) := hcc 0 (by decide)
          have k1 : w4.cell? ⟨gc, i * 5 + 1, none⟩ = some (.int .i64 x.r.x) := hcc 1 (by decide)
          have k2 : w4.cell? ⟨gc, i * 5 + 2, none⟩ = some (.int .i64 x.r.y) := hcc 2 (by decide)
          have k3 : w4.cell? ⟨gc, i * 5 + 3, none⟩ = some (.slice x.sa x.r.spans.length x.sc) := hcc 3 (by decide)
          have k4 : w4.cell? ⟨gc, i * 5 + 4, none⟩ = some (.bool x.r.inv) := hcc 4 (by decide)
          have r2 := hr4.c2
          rw [hAc] at r2
          have HSU := Lib.hid (succs_of hx bg fn)
          obtain ⟨nb1, nb2, nb3, nb4⟩ := hr4.nb x (List.mem_of_getElem? hx)
          have q7 : (i : Int) < (code.length : Int) := by omega
          generalize x.r.op = op at *
          obtain ⟨X, hX⟩ := Int.eq_ofNat_of_zero_le nb1
          obtain ⟨Y, hY⟩ := Int.eq_ofNat_of_zero_le nb3
          rw [hX] at k1 HSU
          rw [hY] at k2 HSU
          simp only [Int.ofNat_eq_natCast, Int.toNat_natCast] at k1 k2 HSU
          generalize x.sa = xa at *
          generalize x.sc = xc at *
          generalize x.r.spans.length = xl at *
          generalize x.r.inv = xi at *
          clear nb1 nb2 nb3 nb4 hX hY hcc hr4 hx hil hif
          go_upto_region 10 with (fail)
          have hb6 : Below w4.heap.size w4 (w4.alloc (.cells #[.int .i64 op, .int .i64 (X : Nat), .int .i64 (Y : Nat), .slice xa xl xc, .bool xi] 99)) := (Below.refl _ _).alloc (Nat.le_refl _) _
          have hk6 := heap_alloc_new w4 (.cells #[.int .i64 op, .int .i64 (X : Nat), .int .i64 (Y : Nat), .slice xa xl xc, .bool xi] 99)
          generalize (w4.alloc (.cells #[.int .i64 op, .int .i64 (X : Nat), .int .i64 (Y : Nat), .slice xa xl xc, .bool xi] 99)) = w6 at *
          have HX5 : Hid (AdS B w6 tb oA oC fA fC ord (fr'.set i (v : Nat)) (some ⟨g, 0, none⟩) sC st ∧ Below B w w6) := Lib.hid ⟨HX4.out.1.below hb6, HX4.out.2.1.trans (hb6.mono HX4.out.2.2)⟩
          have HB5 : Hid (B ≤ w6.heap.size) := Lib.hid (Nat.le_trans HX4.out.2.2 hb6.size)
          have HS5 := Lib.hid HX5.out.1.st
          have k0 := cell_of_heap (v := .int .i64 op) hk6 (j := 0) rfl
          have k1 := cell_of_heap (v := .int .i64 (X : Nat)) hk6 (j := 1) rfl
          have k2 := cell_of_heap (v := .int .i64 (Y : Nat)) hk6 (j := 2) rfl
          generalize w4.heap.size = xb at *
          clear k3 k4 hb6 hk6 r2 hgc hAc
          by_cases o2 : op = 2
          · subst o2
            replace HSU : Hid (succs (toIn (riL code)) bg fn i = [Y, X]) := Lib.hid (by rw [HSU.out]; simp)
            go_wp2_with (first
              | (at_builtin
                 have _t := tk
                 clear _t
                 refine app_genm Try.underlying24 info_int rfl (by decide) (by decide) rfl _ _ rfl B (some ⟨g, 0, none⟩) sC st.length 2 (ints (nats st)) #[.int .i64 (Y : Nat), .int .i64 (X : Nat)] rfl HS5.out (p := w6.heap.size) rfl rfl rfl ?k1 (by omega) (by decide) (by decide) HB5.out ?_
                 case k1 => intro u hu; simp only [List.mem_cons, List.not_mem_nil, or_false] at hu; rcases hu with rfl | rfl <;> rfl
                 intro S1 D1 w5 ho hm hl
                 have hp := HX5.out.1.push (m := 2) [Y, X] rfl hm ho hl HB5.out
                 have HX7 : Hid (AdS B w5 tb oA oC fA fC ord (fr'.set i (v : Nat)) S1 D1 (st ++ [Y, X]) ∧ Below B w w5) := Lib.hid ⟨hp.1, HX5.out.2.trans hp.2⟩
                 clear ho hm hl hp tk))
            go_roundg (2 * lackN (fr'.set i (v : Nat)) (v : Nat) + (st.length + 2))
            case measure => have h1 := HK.out; have h2 := HLK.out; simp only [List.length_append, List.length_singleton] at h1; omega
            case rel => exact ⟨oA, oC, fA, fC, ord, fr'.set i (v : Nat), S1, D1, (st ++ [Y, X]), by rw [List.length_append]; rfl, Lib.hid HX7.out, Lib.hid (by have := HG2.out; rw [HSU.out] at this; exact this), Lib.hid ⟨by simp, by have h1 := HK.out; have h2 := HLK.out; simp only [List.length_append, List.length_singleton] at h1; omega⟩⟩
          by_cases o3 : op = 3
          · subst o3
            replace HSU : Hid (succs (toIn (riL code)) bg fn i = [X]) := Lib.hid (by rw [HSU.out]; simp)
            go_wp2_with (first
              | (at_builtin
                 have _t := tk
                 clear _t
                 refine app_genm Try.underlying24 info_int rfl (by decide) (by decide) rfl _ _ rfl B (some ⟨g, 0, none⟩) sC st.length 1 (ints (nats st)) #[.int .i64 (X : Nat)] rfl HS5.out (p := w6.heap.size) rfl rfl rfl ?k1 (by omega) (by decide) (by decide) HB5.out ?_
                 case k1 => intro u hu; simp only [List.mem_cons, List.not_mem_nil, or_false] at hu; rcases hu with rfl; rfl
                 intro S1 D1 w5 ho hm hl
                 have hp := HX5.out.1.push (m := 1) [X] rfl hm ho hl HB5.out
                 have HX7 : Hid (AdS B w5 tb oA oC fA fC ord (fr'.set i (v : Nat)) S1 D1 (st ++ [X]) ∧ Below B w w5) := Lib.hid ⟨hp.1, HX5.out.2.trans hp.2⟩
                 clear ho hm hl hp tk))
            go_roundg (2 * lackN (fr'.set i (v : Nat)) (v : Nat) + (st.length + 1))
            case measure => have h1 := HK.out; have h2 := HLK.out; simp only [List.length_append, List.length_singleton] at h1; omega
            case rel => exact ⟨oA, oC, fA, fC, ord, fr'.set i (v : Nat), S1, D1, (st ++ [X]), by rw [List.length_append]; rfl, Lib.hid HX7.out, Lib.hid (by have := HG2.out; rw [HSU.out] at this; exact this), Lib.hid ⟨by simp, by have h1 := HK.out; have h2 := HLK.out; simp only [List.length_append, List.length_singleton] at h1; omega⟩⟩
          by_cases o4 : op = 4
          · subst o4
            cases bg
            · replace HSU : Hid (succs (toIn (riL code)) false fn i = []) := Lib.hid (by rw [HSU.out]; simp)
              have HX7 := HX5
              go_wp2
              go_roundg (2 * lackN (fr'.set i (v : Nat)) (v : Nat) + (st.length + 0))
              case measure => have h1 := HK.out; have h2 := HLK.out; simp only [List.length_append, List.length_singleton] at h1; omega
              case rel => exact ⟨oA, oC, fA, fC, ord, fr'.set i (v : Nat), some ⟨g, 0, none⟩, sC, st, rfl, Lib.hid HX7.out, Lib.hid (by have := HG2.out; rw [HSU.out, List.append_nil] at this; exact this), Lib.hid ⟨by simp, by have h1 := HK.out; have h2 := HLK.out; simp only [List.length_append, List.length_singleton] at h1; omega⟩⟩
            · replace HSU : Hid (succs (toIn (riL code)) true fn i = [i + 1]) := Lib.hid (by rw [HSU.out]; simp)
              go_wp2_with (first
                | (at_builtin
                   have _t := tk
                   clear _t
                   refine app_genm Try.underlying24 info_int rfl (by decide) (by decide) rfl _ _ rfl B (some ⟨g, 0, none⟩) sC st.length 1 (ints (nats st)) #[.int .i64 ((i : Int) + 1)] rfl HS5.out (p := w6.heap.size) rfl rfl rfl ?k1 (by omega) (by decide) (by decide) HB5.out ?_
                   case k1 => intro u hu; simp only [List.mem_cons, List.not_mem_nil, or_false] at hu; rcases hu with rfl; rfl
                   intro S1 D1 w5 ho hm hl
                   have hp := HX5.out.1.push (m := 1) [i + 1] rfl hm (by rw [ints_succ]; exact ho) hl HB5.out
                   have HX7 : Hid (AdS B w5 tb oA oC fA fC ord (fr'.set i (v : Nat)) S1 D1 (st ++ [i + 1]) ∧ Below B w w5) := Lib.hid ⟨hp.1, HX5.out.2.trans hp.2⟩
                   clear ho hm hl hp tk))
              go_roundg (2 * lackN (fr'.set i (v : Nat)) (v : Nat) + (st.length + 1))
              case measure => have h1 := HK.out; have h2 := HLK.out; simp only [List.length_append, List.length_singleton] at h1; omega
              case rel => exact ⟨oA, oC, fA, fC, ord, fr'.set i (v : Nat), S1, D1, (st ++ [i + 1]), by rw [List.length_append]; rfl, Lib.hid HX7.out, Lib.hid (by have := HG2.out; rw [HSU.out] at this; exact this), Lib.hid ⟨by simp, by have h1 := HK.out; have h2 := HLK.out; simp only [List.length_append, List.length_singleton] at h1; omega⟩⟩
          by_cases o5 : op = 5
          · subst o5
            cases fn
            · replace HSU : Hid (succs (toIn (riL code)) bg false i = []) := Lib.hid (by rw [HSU.out]; simp)
              have HX7 := HX5
              go_wp2
              go_roundg (2 * lackN (fr'.set i (v : Nat)) (v : Nat) + (st.length + 0))
              case measure => have h1 := HK.out; have h2 := HLK.out; simp only [List.length_append, List.length_singleton] at h1; omega
              case rel => exact ⟨oA, oC, fA, fC, ord, fr'.set i (v : Nat), some ⟨g, 0, none⟩, sC, st, rfl, Lib.hid HX7.out, Lib.hid (by have := HG2.out; rw [HSU.out, List.append_nil] at this; exact this), Lib.hid ⟨by simp, by have h1 := HK.out; have h2 := HLK.out; simp only [List.length_append, List.length_singleton] at h1; omega⟩⟩
            · replace HSU : Hid (succs (toIn (riL code)) bg true i = [i + 1]) := Lib.hid (by rw [HSU.out]; simp)
              go_wp2_with (first
                | (at_builtin
                   have _t := tk
                   clear _t
                   refine app_genm Try.underlying24 info_int rfl (by decide) (by decide) rfl _ _ rfl B (some ⟨g, 0, none⟩) sC st.length 1 (ints (nats st)) #[.int .i64 ((i : Int) + 1)] rfl HS5.out (p := w6.heap.size) rfl rfl rfl ?k1 (by omega) (by decide) (by decide) HB5.out ?_
                   case k1 => intro u hu; simp only [List.mem_cons, List.not_mem_nil, or_false] at hu; rcases hu with rfl; rfl
                   intro S1 D1 w5 ho hm hl
                   have hp := HX5.out.1.push (m := 1) [i + 1] rfl hm (by rw [ints_succ]; exact ho) hl HB5.out
                   have HX7 : Hid (AdS B w5 tb oA oC fA fC ord (fr'.set i (v : Nat)) S1 D1 (st ++ [i + 1]) ∧ Below B w w5) := Lib.hid ⟨hp.1, HX5.out.2.trans hp.2⟩
                   clear ho hm hl hp tk))
              go_roundg (2 * lackN (fr'.set i (v : Nat)) (v : Nat) + (st.length + 1))
              case measure => have h1 := HK.out; have h2 := HLK.out; simp only [List.length_append, List.length_singleton] at h1; omega
              case rel => exact ⟨oA, oC, fA, fC, ord, fr'.set i (v : Nat), S1, D1, (st ++ [i + 1]), by rw [List.length_append]; rfl, Lib.hid HX7.out, Lib.hid (by have := HG2.out; rw [HSU.out] at this; exact this), Lib.hid ⟨by simp, by have h1 := HK.out; have h2 := HLK.out; simp only [List.length_append, List.length_singleton] at h1; omega⟩⟩
          · replace HSU : Hid (succs (toIn (riL code)) bg fn i = []) := Lib.hid (by rw [HSU.out, if_neg o2, if_neg o3, if_neg o4, if_neg o5])
            have p2 : (op == 2) = false := by simpa using o2
            have p3 : (op == 3) = false := by simpa using o3
            have p4 : (op == 4) = false := by simpa using o4
            have p5 : (op == 5) = false := by simpa using o5
            have HX7 := HX5
            go_wp2
            go_roundg (2 * lackN (fr'.set i (v : Nat)) (v : Nat) + (st.length + 0))
            case measure => have h1 := HK.out; have h2 := HLK.out; simp only [List.length_append, List.length_singleton] at h1; omega
            case rel => exact ⟨oA, oC, fA, fC, ord, fr'.set i (v : Nat), some ⟨g, 0, none⟩, sC, st, rfl, Lib.hid HX7.out, Lib.hid (by have := HG2.out; rw [HSU.out, List.append_nil] at this; exact this), Lib.hid ⟨by simp, by have h1 := HK.out; have h2 := HLK.out; simp only [List.length_append, List.length_singleton] at h1; omega⟩⟩
end Go.Proofs.Ytcajnmhbkjngbaa

