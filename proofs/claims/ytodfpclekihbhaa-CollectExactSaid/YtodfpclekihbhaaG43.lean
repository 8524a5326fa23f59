/- law18: word, do. -/
import Derived.Test.YtodfpclekihbhaaG42
import Derived.Test.YtodfpclekihbhaaG31
import Derived.Deep.CutRange
namespace Go.Proofs.Ytodfpclekihbhaa
open Go.RowKit Go.Shelf
set_option maxRecDepth 100000

theorem word18_calls (num ref : Int) (w : World) : Calls Try.prog 87 #[.agg #[.int .i64 num, .int .i64 ref]] w fun e w' => e = .returned (.agg #[.int .i64 num, .int .i64 ref]) ∧ Below w.heap.size w w' := by
  have k1 := heap2 w (.cells #[.int .i64 num, .int .i64 ref] 133) (.cells #[.int .i64 0, .int .i64 0] 42)
  have HK1 := Lib.hid k1
  have HB : Hid (Below w.heap.size w ((w.alloc (.cells #[.int .i64 num, .int .i64 ref] 133)).alloc (.cells #[.int .i64 0, .int .i64 0] 42))) := Lib.hid (((Below.refl _ _).alloc (Nat.le_refl _) _).alloc (by simp) _)
  clear k1
  go_enter Try.func87, Try.ntmps87
  go_wp2
  have e0 := (cell_of_heap (v := .int .i64 0) HK1.out.2 (j := 0) rfl)
  have e1 := (cell_of_heap (v := .int .i64 0) HK1.out.2 (j := 1) rfl)
  have f0 := frozen_of_heap HK1.out.2 0
  have f1 := frozen_of_heap HK1.out.2 1
  exact bodyPost_ret (v := .agg #[.int .i64 num, .int .i64 ref]) (by simp [results, Try.results87, go_sem, e0, e1]) rfl ⟨rfl, ((Below.refl _ _).alloc (Nat.le_refl _) _).alloc (by simp) _⟩
/-- do of law18, in plain Lean. -/
noncomputable def do18M (H : Hp) (o : OpM) : Hp × Int × Int :=
  if o.k = 0 then textH H (textOf o.tx).1 (textOf o.tx).2 (strLen (textOf o.tx).1 (textOf o.tx).2)
  else if o.k = 1 then arrayH H o.cls o.refs o.a
  else if o.k = 2 then partH H o.r o.a o.b
  else if o.k = 3 then makeH H o.a o.cls o.refs
  else if o.k = 4 then consH H o.cls o.refs o.words o.r
  else if o.k = 5 then ((setH H o.r o.a (o.words.headD ⟨0, 0⟩)).1, 0, (setH H o.r o.a (o.words.headD ⟨0, 0⟩)).2)
  else if o.k = 6 then ((putH H o.r o.a o.b (o.words.headD ⟨0, 0⟩)).1, 0, (putH H o.r o.a o.b (o.words.headD ⟨0, 0⟩)).2)
  else if o.k = 7 then ((copyH H o.r o.a o.x).1, 0, (copyH H o.r o.a o.x).2)
  else if o.k = 8 then ((clearH H o.r).1, 0, (clearH H o.r).2)
  else if o.k = 9 then ((holdH H o.r).1, 0, (holdH H o.r).2)
  else if o.k = 10 then ((dropH H o.r).1, 0, (dropH H o.r).2)
  else (H, 0, 0)
/-- The box of a shape of the call's own. -/
structure SB (w wx : World) (bs : Nat) (cls : Int) (A : Option Addr) (refs : List Bool) (C : Nat) : Prop where
  blk : wx.heap[bs]? = some (.cells #[.int .i64 cls, .slice A refs.length C] 32 (0, 0))
  own : wx.ownsRow w.heap.size 4 1 (.slice A refs.length C) refs.length (refs.map Value.bool)
  bel : Below w.heap.size w wx
variable {w wx w' : World} {bs : Nat} {cls : Int} {A : Option Addr} {refs : List Bool} {C : Nat}
theorem SB.below (h : SB w wx bs cls A refs C) (hb : Below wx.heap.size wx w') : SB w w' bs cls A refs C :=
  ⟨(hb.block _ (lt_of_heap h.blk)).trans h.blk, own_mut2 h.own (Mut.of_below hb) (S := fun _ => False) fun _ _ h => h, h.bel.trans (hb.mono h.bel.size)⟩
theorem SB.after {W w1 : World} (hB : Below w.heap.size w W) (hx : Below W.heap.size W w1) (ho : w1.ownsRow w.heap.size 4 1 (.slice A refs.length C) refs.length (refs.map Value.bool)) (cls : Int) :
    SB w (w1.alloc (.cells #[.int .i64 cls, .slice A refs.length C] 32)) w1.heap.size cls A refs C ∧ Below W.heap.size W (w1.alloc (.cells #[.int .i64 cls, .slice A refs.length C] 32)) := by
  have ba : Below w1.heap.size w1 (w1.alloc (.cells #[.int .i64 cls, .slice A refs.length C] 32)) := (Below.refl _ _).alloc (Nat.le_refl _) _
  exact ⟨⟨heap_alloc_new w1 _, own_mut2 ho (Mut.of_below ba) (S := fun _ => False) fun _ _ h => h, (hB.step2 hx).step2 ba⟩, hx.step2 ba⟩
theorem SB.ahead {W w1 : World} {cs : Array Value} (hB : Below w.heap.size w W) (hx : Below W.heap.size W w1) (hk : w1.heap[W.heap.size]? = some (.cells cs 32 (0, 0))) (hs : ∃ u v, cs = #[u, v]) (ho : w1.ownsRow w.heap.size 4 1 (.slice A refs.length C) refs.length (refs.map Value.bool)) (hn : ∀ a, A = some a → a.block ≠ W.heap.size) (cls : Int) :
    SB w ((w1.setCell ⟨W.heap.size, 0, none⟩ (.int .i64 cls)).setCell ⟨W.heap.size, 1, none⟩ (.slice A refs.length C)) W.heap.size cls A refs C ∧ Below W.heap.size W ((w1.setCell ⟨W.heap.size, 0, none⟩ (.int .i64 cls)).setCell ⟨W.heap.size, 1, none⟩ (.slice A refs.length C)) := by
  obtain ⟨u, v, rfl⟩ := hs
  have k1 := heap_setCell_same _ W.heap.size 0 _ _ (.int .i64 cls) hk
  have k2 := heap_setCell_same _ W.heap.size 1 _ _ (.slice A refs.length C) k1
  have hm : Mut (· = W.heap.size) w1 ((w1.setCell ⟨W.heap.size, 0, none⟩ (.int .i64 cls)).setCell ⟨W.heap.size, 1, none⟩ (.slice A refs.length C)) := (Mut.setCell (S := (· = W.heap.size)) _ _ _ _ rfl).then (Mut.setCell (S := (· = W.heap.size)) _ _ _ _ rfl)
  have hb2 := hx.trans (hm.to_below hx.size fun k hk => by omega)
  exact ⟨⟨k2, own_mut2 ho hm hn, hB.step2 hb2⟩, hb2⟩
/-- What a call of do of law18 answers and leaves. -/
def DoI (w0 w : World) (hb : Nat) (K : Nat → Prop) (R : Hp × Int × Int) (e : Ending) (w' : World) : Prop := e = .returned (.tuple #[.int .i64 R.2.1, .int .i64 R.2.2]) ∧ CPost w0 w hb K R.1 w'
set_option maxHeartbeats 16000000 in
theorem do18_any {w0 w : World} {hb : Nat} {K : Nat → Prop} {H : Hp} {N : Nat} (c : Car w0 hb K H w) (ok : Ok H N) (hN : N ≤ 900) (k r x a b : Int) (tx : ByteArray) (htx : tx.size ≤ 1000) (cls : Int) {ra : Option Addr} (refs : List Bool) {rC : Nat} {wa : Option Addr} (words : List Wd) {wC : Nat} (on : Bool) (hrb : RdB w ra rC refs) (hl : refs.length ≤ 1000000) (hrw : RdW w wa words) (hm : words.length ≤ 1000000) :
    Calls Try.prog 53 #[.pointer (some ⟨hb, 0, none⟩), opV k r x a b tx cls ra refs.length rC wa words.length wC on] w (DoI w0 w hb K (do18M H ⟨k, r, x, a, b, tx, cls, ra, refs, rC, wa, words, wC, on⟩)) := by
  have HC0 := Lib.hid c
  have HOK := Lib.hid ok
  have HN := Lib.hid hN
  have HTX := Lib.hid htx
  clear c ok hN htx
  unfold opV
  have hB : Below w.heap.size w (w.alloc (.cells #[.int .i64 k, .int .i64 r, .int .i64 x, .int .i64 a, .int .i64 b, .string tx, .int .i64 cls, .slice ra refs.length rC, .slice wa words.length wC, .bool on] 76)) := (Below.refl _ _).alloc (Nat.le_refl _) _
  have HB := Lib.hid hB
  have HK := Lib.hid (heap_alloc_new w (.cells #[.int .i64 k, .int .i64 r, .int .i64 x, .int .i64 a, .int .i64 b, .string tx, .int .i64 cls, .slice ra refs.length rC, .slice wa words.length wC, .bool on] 76))
  have HRB := Lib.hid hrb
  have HRW := Lib.hid hrw
  clear hB hrb hrw
  go_enter Try.func53, Try.ntmps53
  go_upto_region 2 with (fail)
  generalize hW : w.alloc (.cells #[.int .i64 k, .int .i64 r, .int .i64 x, .int .i64 a, .int .i64 b, .string tx, .int .i64 cls, .slice ra refs.length rC, .slice wa words.length wC, .bool on] 76) = W at *
  clear hW
  go_cut [7] from 14 to 23 (fun s7 wx => ∃ (bs : Nat) (A' : Option Addr) (C' : Nat), s7 = .pointer (some ⟨bs, 0, none⟩) ∧ Hid (SB w wx bs cls A' refs C') ∧ Hid (Below W.heap.size W wx))
  case first =>
    have c0 := cell_of_heap (v := .int .i64 cls) HK.out (j := 6) rfl
    have c1 := cell_of_heap (v := .slice ra refs.length rC) HK.out (j := 7) rfl
    have zW : w.heap.size < W.heap.size := lt_of_heap HK.out
    go_region_with ((go_at_call 86; first
      | (refine (clone_bools (HRB.out.below (by first | exact (HB.out.alloc HB.out.size _).drew | exact (HB.out.alloc HB.out.size _).dn _)) (by omega)).mono ?_
         rintro e w1 ⟨A1, C1, rfl, ho, hb⟩
         have e2 : w1.cell? ⟨W.heap.size, 0, none⟩ = some (.int .i64 0) := keep3 hb (cell_of_heap (heap_alloc_new W (.cells #[.int .i64 0, .slice none 0 0] 32)) rfl)
         have e3 : w1.cell? ⟨W.heap.size, 1, none⟩ = some (.slice none 0 0) := keep3 hb (cell_of_heap (heap_alloc_new W (.cells #[.int .i64 0, .slice none 0 0] 32)) rfl)
         have f2 : w1.frozen? ⟨W.heap.size, 0, none⟩ = false := keepf hb (cell_of_heap (heap_alloc_new W (.cells #[.int .i64 0, .slice none 0 0] 32)) rfl) (frozen_of_heap (heap_alloc_new W (.cells #[.int .i64 0, .slice none 0 0] 32)) 0)
         have f3 : w1.frozen? ⟨W.heap.size, 1, none⟩ = false := keepf hb (cell_of_heap (heap_alloc_new W (.cells #[.int .i64 0, .slice none 0 0] 32)) rfl) (frozen_of_heap (heap_alloc_new W (.cells #[.int .i64 0, .slice none 0 0] 32)) 1)
         have z1 : W.heap.size < w1.heap.size := Nat.lt_of_lt_of_le (by simp) hb.size
         have HO := Lib.hid (own_base (B' := w.heap.size) ho (by simp; omega))
         have HKB : Hid (w1.heap[W.heap.size]? = some (.cells #[.int .i64 0, .slice none 0 0] 32 (0, 0)) ∧ ∀ a, A1 = some a → a.block ≠ W.heap.size) := Lib.hid ⟨(hb.block _ (by simp)).trans (heap_alloc_new W _), fun a ha e => by have := (own_blk ho a ha).1; simp at this; omega⟩
         have HBX := Lib.hid ((show Below W.heap.size W _ from by first | exact ((Below.refl _ _).alloc (Nat.le_refl _) _).drew | exact ((Below.refl _ _).alloc (Nat.le_refl _) _).dn _).step2 hb)
         have z0 : w.heap.size < w1.heap.size := Nat.lt_of_lt_of_le zW HBX.out.size
         have g0 := keep3 HBX.out c0
         have g1 := keep3 HBX.out c1
         clear ho hb)
      | (refine (clone_bools (HRB.out.below (by first | exact HB.out | exact HB.out.drew | exact HB.out.dn _)) (by omega)).mono ?_
         rintro e w1 ⟨A1, C1, rfl, ho, hb⟩
         have HO := Lib.hid (own_base (B' := w.heap.size) ho (by simp; omega))
         have HBX := Lib.hid ((show Below W.heap.size W _ from by first | exact Below.refl _ _ | exact (Below.refl _ _).drew | exact (Below.refl _ _).dn _).step2 hb)
         have z0 : w.heap.size < w1.heap.size := Nat.lt_of_lt_of_le zW HBX.out.size
         have g0 := keep3 HBX.out c0
         have g1 := keep3 HBX.out c1
         clear ho hb)))
    all_goals go_wp2_with (fail)
    all_goals go_meet
    all_goals (case rel => first
      | exact ⟨_, _, _, rfl, Lib.hid (SB.ahead HB.out HBX.out HKB.out.1 ⟨_, _, rfl⟩ HO.out HKB.out.2 cls).1, Lib.hid (SB.ahead HB.out HBX.out HKB.out.1 ⟨_, _, rfl⟩ HO.out HKB.out.2 cls).2⟩
      | exact ⟨_, _, _, rfl, Lib.hid (SB.after HB.out HBX.out HO.out cls).1, Lib.hid (SB.after HB.out HBX.out HO.out cls).2⟩)
  case rest =>
    obtain ⟨bs, A', C', rfl, HSB, HWX⟩ := hcut
    have HKX := Lib.hid ((HWX.out.block _ (lt_of_heap HK.out)).trans HK.out)
    have HWL := Lib.hid (lt_of_heap HK.out)
    have c7 := cell_of_heap (v := .slice wa words.length wC) HKX.out (j := 8) rfl
    clear HRB HK
    go_wp2
    go_loopw [8, 27] (fun v p wr => ∃ (j : Nat) (LA : Option Addr) (LC : Nat) (zs : List Wd), j ≤ words.length ∧ p = .int .i64 j ∧ v = .slice LA zs.length LC ∧ Hid (zs = words.take j) ∧ Hid (wr.ownsRow wc.heap.size 42 2 (.slice LA zs.length LC) zs.length (wcs zs) ∧ Below wc.heap.size wc wr)) (fun _ i _ => words.length - (intOf i).toNat)
    case atStart => exact ⟨0, none, 0, [], Nat.zero_le _, rfl, rfl, Lib.hid rfl, Lib.hid ⟨World.ownsRow_nil _ _ _ _, Below.refl _ _⟩⟩
    case round =>
      clear c7
      obtain ⟨j, LA, LC, zs, hj, rfl, rfl, HZ, HR⟩ := hrel
      by_cases hlt : j < words.length
      · obtain ⟨g, o, hA, hg, c0, c1⟩ := (HRW.out.below (HSB.out.bel.step2 HR.out.2)) j hlt
        have q0 : (0 : Int) ≤ (j : Int) := by omega
        have q1 : (j : Int) < (words.length : Int) := by omega
        have HT : Hid (words.take (j + 1) = words.take j ++ [words[j]'hlt]) := Lib.hid (List.take_succ_eq_append_getElem hlt)
        have hzl : zs.length ≤ 100000000 := by rw [HZ.out, List.length_take]; omega
        rw [hA]
        have HAE := Lib.hid hA
        clear hA
        generalize words[j]'hlt = v at *
        obtain ⟨num, ref⟩ := v
        have c0' : wr.cell? ⟨g, o + j * 2, none⟩ = some (.int .i64 num) := c0
        have c1' : wr.cell? ⟨g, o + j * 2 + 1, none⟩ = some (.int .i64 ref) := c1
        have HBA : Hid (Below wr.heap.size wr (wr.alloc (.cells #[.int .i64 num, .int .i64 ref] 133))) := Lib.hid ((Below.refl _ _).alloc (Nat.le_refl _) _)
        clear c0 c1
        go_wp2_with (first
          | (go_at_call 87; refine (word18_calls num ref _).mono ?_; rintro e w3 ⟨rfl, hb3⟩
             have HB3 := Lib.hid (HBA.out.step2 hb3)
             clear hb3)
          | (at_builtin; refine app_word rfl _ _ rfl wc.heap.size LA LC zs num ref rfl (own_mut2 HR.out.1 (Mut.of_below HB3.out) (S := fun _ => False) fun _ _ h => h) rfl rfl hzl (Nat.le_trans HR.out.2.size HB3.out.size) ?_
             intro A3 C3 ys w4 hys ho hb4
             have HR3 : Hid (w4.ownsRow wc.heap.size 42 2 (.slice A3 ys.length C3) ys.length (wcs ys) ∧ Below wc.heap.size wc w4) := Lib.hid ⟨ho, (HR.out.2.step2 HB3.out).trans hb4⟩
             have HYS := Lib.hid hys
             clear hys ho hb4))
        go_roundw
        case rel => (try rw [← HAE.out]); exact ⟨j + 1, A3, C3, ys, by omega, by go_num, rfl, Lib.hid (by rw [HYS.out, HT.out, ← HZ.out]), HR3⟩
        case measure => simp [intOf]; omega
      · obtain rfl : j = words.length := by omega
        rw [List.take_length] at HZ
        have hzz := HZ.out
        subst hzz
        have ⟨wq, hwq⟩ : ∃ wq, wq = wr := ⟨_, rfl⟩
        subst hwq
        clear hlt hj HZ
        go_upto_if 40 with (fail)
        have HF0 : Hid ((wq.alloc (.cells #[.int .i64 0, .int .i64 0] 42)).heap[wq.heap.size]? = some (.cells #[.int .i64 0, .int .i64 0] 42 (0, 0))) := Lib.hid (heap_alloc_new wq _)
        have hba : Below wq.heap.size wq (wq.alloc (.cells #[.int .i64 0, .int .i64 0] 42)) := (Below.refl _ _).alloc (Nat.le_refl _) _
        have HBQ := Lib.hid hba
        clear hba
        generalize hWQ : wq.alloc (.cells #[.int .i64 0, .int .i64 0] 42) = WQ at *
        clear hWQ
        generalize hbf : wq.heap.size = bf at *
        have HBF := Lib.hid hbf
        clear hbf
        go_cut [] from 38 to 43 (fun wx => ∃ num ref : Int, Hid (zs.headD ⟨0, 0⟩ = ⟨num, ref⟩) ∧ Hid (wx.heap[bf]? = some (.cells #[.int .i64 num, .int .i64 ref] 42 (0, 0)) ∧ Below bf wq wx))
        case first =>
          cases zs with
          | nil =>
            go_wp2
            go_meet
            case rel => exact ⟨0, 0, Lib.hid rfl, Lib.hid ⟨HF0.out, HBQ.out⟩⟩
          | cons v l =>
            have hw : WordsAt wq LA LC (v :: l) := own_base HR.out.1 (Nat.zero_le _)
            obtain ⟨g, rfl, hg, hC, hfz, e0, e1⟩ := hw.cell 0 (by simp)
            obtain ⟨num, ref⟩ := v
            have hgb : g < bf := by rw [← HBF.out]; exact hg
            have e0' : WQ.cell? ⟨g, 0, none⟩ = some (.int .i64 num) := (HBQ.out.cell (p := ⟨g, 0, none⟩) hgb).trans e0
            have e1' : WQ.cell? ⟨g, 1, none⟩ = some (.int .i64 ref) := (HBQ.out.cell (p := ⟨g, 1, none⟩) hgb).trans e1
            have hgW := lt_of_heap HF0.out
            have hgg : g < WQ.heap.size := by omega
            have f0 := cell_of_heap (v := .int .i64 0) HF0.out (j := 0) rfl
            have f1 := cell_of_heap (v := .int .i64 0) HF0.out (j := 1) rfl
            have f2 := frozen_of_heap HF0.out 0
            have f3 := frozen_of_heap HF0.out 1
            have hln : (0 : Int) < ((⟨num, ref⟩ :: l : List Wd).length : Int) := by simp only [List.length_cons]; omega
            have hln2 : 0 < (⟨num, ref⟩ :: l : List Wd).length := by simp
            clear hw hfz e0 e1 hg
            go_wp2
            go_meet
            case rel =>
              have k1 := heap_setCell_same _ bf 0 _ _ (.int .i64 num) HF0.out
              have k2 := heap_setCell_same _ bf 1 _ _ (.int .i64 ref) k1
              have hm : Mut (· = bf) WQ ((WQ.setCell ⟨bf, 0, none⟩ (.int .i64 num)).setCell ⟨bf, 1, none⟩ (.int .i64 ref)) := (Mut.setCell (S := (· = bf)) _ _ _ _ rfl).then (Mut.setCell (S := (· = bf)) _ _ _ _ rfl)
              exact ⟨num, ref, Lib.hid rfl, Lib.hid ⟨k2, HBQ.out.trans (hm.to_below (by omega) fun k hk => by omega)⟩⟩
        case rest =>
          obtain ⟨num, ref, HHD, HF⟩ := hcut
          have hbw : Below wq.heap.size wq wc := by rw [HBF.out]; exact HF.out.2
          have HBW := Lib.hid ((HSB.out.bel.step2 HR.out.2).step2 hbw)
          have HS2 := Lib.hid ((HSB.out.below HR.out.2).below hbw)
          have hkx := (hbw.block _ (lt_of_heap ((HR.out.2.block _ (lt_of_heap HKX.out)).trans HKX.out))).trans ((HR.out.2.block _ (lt_of_heap HKX.out)).trans HKX.out)
          have HWD : Hid (WordsAt wc LA LC zs) := Lib.hid (own_base (own_mut2 HR.out.1 (Mut.of_below hbw) (S := fun _ => False) fun _ _ h => h) (Nat.zero_le _))
          have HCA := Lib.hid (HC0.out.below HBW.out)
          have c0 := cell_of_heap (v := .int .i64 k) hkx (j := 0) rfl
          have c1 := cell_of_heap (v := .int .i64 r) hkx (j := 1) rfl
          have c2 := cell_of_heap (v := .int .i64 x) hkx (j := 2) rfl
          have c3 := cell_of_heap (v := .int .i64 a) hkx (j := 3) rfl
          have c4 := cell_of_heap (v := .int .i64 b) hkx (j := 4) rfl
          have c5 := cell_of_heap (v := .string tx) hkx (j := 5) rfl
          have z0 := lt_of_heap hkx
          have s0 := cell_of_heap (v := .int .i64 cls) HS2.out.blk (j := 0) rfl
          have s1 := cell_of_heap (v := .slice A' refs.length C') HS2.out.blk (j := 1) rfl
          have z1 := lt_of_heap HS2.out.blk
          have d0 := cell_of_heap (v := .int .i64 num) HF.out.1 (j := 0) rfl
          have d1 := cell_of_heap (v := .int .i64 ref) HF.out.1 (j := 1) rfl
          have z2 := lt_of_heap HF.out.1
          have HON : Hid (zs.length ≤ 100000000 ∧ refs.length ≤ 1000000) := Lib.hid ⟨by omega, hl⟩
          clear hbw hkx HF HSB HR HKX HRW HB HWX HF0 HBQ HBF HWL hm hl
          by_cases h0 : k = 0
          · subst h0
            have HDM : Hid (do18M H ⟨0, r, x, a, b, tx, cls, ra, refs, rC, wa, zs, wC, on⟩ = textH H (textOf tx).1 (textOf tx).2 (strLen (textOf tx).1 (textOf tx).2)) := Lib.hid rfl
            have hof := of_is tx HTX.out
            have hts := textOf_size tx
            obtain ⟨cc, hcc⟩ : ∃ c, c = (textOf tx).1 := ⟨_, rfl⟩
            obtain ⟨wide, hwd⟩ : ∃ c, c = (textOf tx).2 := ⟨_, rfl⟩
            rw [← hcc, ← hwd] at hof HDM
            rw [← hcc] at hts
            have HOF := Lib.hid hof
            have HCS : Hid (cc.size ≤ 4000) := Lib.hid (by have := HTX.out; omega)
            clear hof hts hcc hwd
            go_wp2_with (first
              | (go_at_call 80; refine (HOF.out _).mono ?_; rintro e w1 ⟨rfl, hb1⟩
                 have HC1 : Hid (Car w0 hb K H w1 ∧ Below w.heap.size w w1) := Lib.hid ⟨HCA.out.below hb1, HBW.out.step2 hb1⟩
                 clear hb1)
              | (go_at_call 28; refine ((HC1.out.1.below ((Below.refl _ _).alloc (Nat.le_refl _) _)).text HOK.out (by have := HN.out; omega) cc wide (by have := HCS.out; omega)).mono ?_; rintro e w2 ⟨rfl, hc⟩
                 have HP : Hid (CPost w0 w hb K (textH H cc wide (strLen cc wide)).1 w2) := Lib.hid (hc.pre (HC1.out.2.trans ((Below.refl _ _).alloc HC1.out.2.size _)))
                 clear hc))
            go_ret2
            rw [HDM.out]
            exact ⟨rfl, HP.out⟩
          by_cases h1 : k = 1
          · subst h1
            have HDM : Hid (do18M H ⟨1, r, x, a, b, tx, cls, ra, refs, rC, wa, zs, wC, on⟩ = arrayH H cls refs a) := Lib.hid (by rfl)
            go_wp2_with (go_at_call 13; refine (HCA.out.array HOK.out (by have := HN.out; omega) cls (RdB.of_own HS2.out.own) a).mono ?_; rintro e w5 ⟨rfl, hc⟩; have HP := Lib.hid hc; clear hc)
            go_ret2
            rw [HDM.out]
            exact ⟨rfl, HP.out.pre HBW.out⟩
          by_cases h2 : k = 2
          · subst h2
            have HDM : Hid (do18M H ⟨2, r, x, a, b, tx, cls, ra, refs, rC, wa, zs, wC, on⟩ = partH H r a b) := Lib.hid (by rfl)
            go_wp2_with (go_at_call 14; refine (HCA.out.part HOK.out (by have := HN.out; omega) r a b).mono ?_; rintro e w5 ⟨rfl, hc⟩; have HP := Lib.hid hc; clear hc)
            go_ret2
            rw [HDM.out]
            exact ⟨rfl, HP.out.pre HBW.out⟩
          by_cases h3 : k = 3
          · subst h3
            have HDM : Hid (do18M H ⟨3, r, x, a, b, tx, cls, ra, refs, rC, wa, zs, wC, on⟩ = makeH H a cls refs) := Lib.hid (by rfl)
            go_wp2_with (go_at_call 29; refine (HCA.out.make HOK.out (by have := HN.out; omega) a cls (RdB.of_own HS2.out.own)).mono ?_; rintro e w5 ⟨rfl, hc⟩; have HP := Lib.hid hc; clear hc)
            go_ret2
            rw [HDM.out]
            exact ⟨rfl, HP.out.pre HBW.out⟩
          by_cases h4 : k = 4
          · subst h4
            have HDM : Hid (do18M H ⟨4, r, x, a, b, tx, cls, ra, refs, rC, wa, zs, wC, on⟩ = consH H cls refs zs r) := Lib.hid (by rfl)
            go_wp2_with (go_at_call 30; refine (HCA.out.cons HOK.out (by have := HN.out; omega) cls (own_base HS2.out.own (Nat.zero_le _)) HWD.out HON.out.1 r).mono ?_; rintro e w5 ⟨rfl, hc⟩; have HP := Lib.hid hc; clear hc)
            go_ret2
            rw [HDM.out]
            exact ⟨rfl, HP.out.pre HBW.out⟩
          by_cases h5 : k = 5
          · subst h5
            have HDM : Hid (do18M H ⟨5, r, x, a, b, tx, cls, ra, refs, rC, wa, zs, wC, on⟩ = ((setH H r a ⟨num, ref⟩).1, 0, (setH H r a ⟨num, ref⟩).2)) := Lib.hid (by show (_, _, _) = _; rw [HHD.out])
            go_wp2_with (go_at_call 32; refine (HCA.out.set HOK.out (by have := HN.out; omega) r a num ref).mono ?_; rintro e w5 ⟨rfl, hc⟩; have HP := Lib.hid hc; clear hc)
            go_ret2
            rw [HDM.out]
            exact ⟨rfl, HP.out.pre HBW.out⟩
          by_cases h6 : k = 6
          · subst h6
            have HDM : Hid (do18M H ⟨6, r, x, a, b, tx, cls, ra, refs, rC, wa, zs, wC, on⟩ = ((putH H r a b ⟨num, ref⟩).1, 0, (putH H r a b ⟨num, ref⟩).2)) := Lib.hid (by show (_, _, _) = _; rw [HHD.out])
            go_wp2_with (go_at_call 16; refine (HCA.out.put HOK.out (by have := HN.out; omega) r a b num ref).mono ?_; rintro e w5 ⟨rfl, hc⟩; have HP := Lib.hid hc; clear hc)
            go_ret2
            rw [HDM.out]
            exact ⟨rfl, HP.out.pre HBW.out⟩
          by_cases h7 : k = 7
          · subst h7
            have HDM : Hid (do18M H ⟨7, r, x, a, b, tx, cls, ra, refs, rC, wa, zs, wC, on⟩ = ((copyH H r a x).1, 0, (copyH H r a x).2)) := Lib.hid (by rfl)
            go_wp2_with (go_at_call 15; refine (HCA.out.copy HOK.out (by have := HN.out; omega) r a x).mono ?_; rintro e w5 ⟨rfl, hc⟩; have HP := Lib.hid hc; clear hc)
            go_ret2
            rw [HDM.out]
            exact ⟨rfl, HP.out.pre HBW.out⟩
          by_cases h8 : k = 8
          · subst h8
            have HDM : Hid (do18M H ⟨8, r, x, a, b, tx, cls, ra, refs, rC, wa, zs, wC, on⟩ = ((clearH H r).1, 0, (clearH H r).2)) := Lib.hid (by rfl)
            go_wp2_with (go_at_call 33; refine (HCA.out.clear HOK.out (by have := HN.out; omega) r).mono ?_; rintro e w5 ⟨rfl, hc⟩; have HP := Lib.hid hc; clear hc)
            go_ret2
            rw [HDM.out]
            exact ⟨rfl, HP.out.pre HBW.out⟩
          by_cases h9 : k = 9
          · subst h9
            have HDM : Hid (do18M H ⟨9, r, x, a, b, tx, cls, ra, refs, rC, wa, zs, wC, on⟩ = ((holdH H r).1, 0, (holdH H r).2)) := Lib.hid (by rfl)
            go_wp2_with (go_at_call 34; refine (HCA.out.hold HOK.out (by have := HN.out; omega) r).mono ?_; rintro e w5 ⟨rfl, hc⟩; have HP := Lib.hid hc; clear hc)
            go_ret2
            rw [HDM.out]
            exact ⟨rfl, HP.out.pre HBW.out⟩
          by_cases h10 : k = 10
          · subst h10
            have HDM : Hid (do18M H ⟨10, r, x, a, b, tx, cls, ra, refs, rC, wa, zs, wC, on⟩ = ((dropH H r).1, 0, (dropH H r).2)) := Lib.hid (by rfl)
            go_wp2_with (go_at_call 35; refine (HCA.out.drop HOK.out (by have := HN.out; omega) r).mono ?_; rintro e w5 ⟨rfl, hc⟩; have HP := Lib.hid hc; clear hc)
            go_ret2
            rw [HDM.out]
            exact ⟨rfl, HP.out.pre HBW.out⟩
          have HDM : Hid (do18M H ⟨k, r, x, a, b, tx, cls, ra, refs, rC, wa, zs, wC, on⟩ = (H, 0, 0)) := Lib.hid (by unfold do18M; simp [h0, h1, h2, h3, h4, h5, h6, h7, h8, h9, h10])
          have n0 : (k == 0) = false := by simpa using h0
          have n1 : (k == 1) = false := by simpa using h1
          have n2 : (k == 2) = false := by simpa using h2
          have n3 : (k == 3) = false := by simpa using h3
          have n4 : (k == 4) = false := by simpa using h4
          have n5 : (k == 5) = false := by simpa using h5
          have n6 : (k == 6) = false := by simpa using h6
          have n7 : (k == 7) = false := by simpa using h7
          have n8 : (k == 8) = false := by simpa using h8
          have n9 : (k == 9) = false := by simpa using h9
          have n10 : (k == 10) = false := by simpa using h10
          clear h0 h1 h2 h3 h4 h5 h6 h7 h8 h9 h10
          go_wp2
          go_ret2
          rw [HDM.out]
          exact ⟨rfl, HCA.out, Mut.of_below HBW.out⟩
end Go.Proofs.Ytodfpclekihbhaa

