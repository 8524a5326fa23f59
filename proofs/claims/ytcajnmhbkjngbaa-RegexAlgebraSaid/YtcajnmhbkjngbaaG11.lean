/- Compile: the walk. -/
import Derived.Test.YtcajnmhbkjngbaaG10
import Derived.WalkSpells
namespace Go.Proofs.Ytcajnmhbkjngbaa
open Go.RowKit Go.Shelf
theorem chL_snoc (L : List (Nat × Int)) (p : Nat × Int) : chL L ++ [p.2] = chL (L ++ [p]) := by simp [chL]
theorem plL_snoc (L : List (Nat × Int)) (p : Nat × Int) : plL L ++ [(p.1 : Int)] = plL (L ++ [p]) := by simp [plL]
/-- What lies ahead of the compiler: the two results. -/
structure CompW (w wb : World) (rb fb cb : Nat) : Prop where
  bel : Below w.heap.size w wb
  sz : wb.heap.size = cb
  rlt : rb < cb
  flt : fb < cb
  wr : w.heap.size ≤ rb ∧ w.heap.size ≤ fb
  r : wb.heap[rb]? = some (.cells #[.pointer none] 33 (0, 0))
  f : wb.heap[fb]? = some (.cells #[.int .i64 0, .int .i64 0] 30 (0, 0))
theorem CompW.start (w : World) {rb fb cb : Nat} (h0 : w.heap.size = rb) (h1 : rb + 1 = fb) (h2 : fb + 1 = cb) : CompW w ((w.alloc (.cells #[.pointer none] 33)).alloc (.cells #[.int .i64 0, .int .i64 0] 30)) rb fb cb := by
  subst h0; subst h1; subst h2
  generalize hv : (Obj.cells #[.pointer none] 33) = v
  generalize hu : (Obj.cells #[.int .i64 0, .int .i64 0] 30) = u
  have a1 := heap_alloc_new w v
  have hz : (w.alloc v).heap.size = w.heap.size + 1 := by simp
  have b1 : Below w.heap.size w (w.alloc v) := (Below.refl _ _).alloc (Nat.le_refl _) _
  have a2 := heap_alloc_new (w.alloc v) u
  have b2 : Below (w.alloc v).heap.size (w.alloc v) ((w.alloc v).alloc u) := (Below.refl _ _).alloc (Nat.le_refl _) _
  rw [hz] at a2
  refine ⟨b1.trans (b2.mono (by omega)), by simp, by omega, by omega, ⟨Nat.le_refl _, by omega⟩, ((b2.block _ (by omega)).trans a1).trans (by rw [← hv]), a2.trans (by rw [← hu])⟩
theorem CompW.after {w wb w4 : World} {rb fb cb : Nat} (h : CompW w wb rb fb cb) (hb : Below wb.heap.size wb w4) : w4.heap[rb]? = some (.cells #[.pointer none] 33 (0, 0)) ∧ w4.heap[fb]? = some (.cells #[.int .i64 0, .int .i64 0] 30 (0, 0)) :=
  ⟨(hb.block _ (by have := h.sz; have := h.rlt; omega)).trans h.r, (hb.block _ (by have := h.sz; have := h.flt; omega)).trans h.f⟩
/-- The results are written. -/
theorem CompW.written {w wb w4 : World} {rb fb cb : Nat} (h : CompW w wb rb fb cb) (hne : rb ≠ fb) (hb : Below wb.heap.size wb w4) (v : Value) (q ec : Int) :
    ((((w4.setCell ⟨rb, 0, none⟩ v).setCell ⟨fb, 0, none⟩ (.int .i64 q)).setCell ⟨fb, 1, none⟩ (.int .i64 ec)).heap[rb]? = some (.cells #[v] 33 (0, 0))) ∧
    ((((w4.setCell ⟨rb, 0, none⟩ v).setCell ⟨fb, 0, none⟩ (.int .i64 q)).setCell ⟨fb, 1, none⟩ (.int .i64 ec)).heap[fb]? = some (.cells #[.int .i64 q, .int .i64 ec] 30 (0, 0))) ∧
    Below w.heap.size w (((w4.setCell ⟨rb, 0, none⟩ v).setCell ⟨fb, 0, none⟩ (.int .i64 q)).setCell ⟨fb, 1, none⟩ (.int .i64 ec)) ∧
    Mut (fun k => k = rb ∨ k = fb) w4 (((w4.setCell ⟨rb, 0, none⟩ v).setCell ⟨fb, 0, none⟩ (.int .i64 q)).setCell ⟨fb, 1, none⟩ (.int .i64 ec)) := by
  obtain ⟨hr, hf⟩ := h.after hb
  have m1 : Mut (· = rb) w4 (w4.setCell ⟨rb, 0, none⟩ v) := Mut.setCell _ _ _ _ rfl
  have m2 : Mut (· = fb) (w4.setCell ⟨rb, 0, none⟩ v) ((w4.setCell ⟨rb, 0, none⟩ v).setCell ⟨fb, 0, none⟩ (.int .i64 q)) := Mut.setCell _ _ _ _ rfl
  have m3 : Mut (· = fb) ((w4.setCell ⟨rb, 0, none⟩ v).setCell ⟨fb, 0, none⟩ (.int .i64 q)) (((w4.setCell ⟨rb, 0, none⟩ v).setCell ⟨fb, 0, none⟩ (.int .i64 q)).setCell ⟨fb, 1, none⟩ (.int .i64 ec)) := Mut.setCell _ _ _ _ rfl
  have r1 := heap_setCell_same w4 rb 0 _ _ v hr
  have f1 := (m1.block _ (lt_of_heap hf) fun e => hne e.symm).trans hf
  have r2 := (m2.block _ (lt_of_heap r1) hne).trans r1
  have f2 := heap_setCell_same _ fb 0 _ _ (.int .i64 q) f1
  have r3 := (m3.block _ (lt_of_heap r2) hne).trans r2
  have f3 := heap_setCell_same _ fb 1 _ _ (.int .i64 ec) f2
  have m1' : Mut (fun k => k = rb ∨ k = fb) w4 (w4.setCell ⟨rb, 0, none⟩ v) := m1.mono fun k hk => .inl (.inl hk)
  have mm : Mut (fun k => k = rb ∨ k = fb) w4 (((w4.setCell ⟨rb, 0, none⟩ v).setCell ⟨fb, 0, none⟩ (.int .i64 q)).setCell ⟨fb, 1, none⟩ (.int .i64 ec)) := (m1'.then (m2.mono fun k hk => .inl (.inr hk))).then (m3.mono fun k hk => .inl (.inr hk))
  exact ⟨r3, f3, (h.bel.trans (hb.mono (by have := h.sz; have := h.rlt; have := h.wr.1; omega))).trans (mm.to_below (Nat.le_trans h.bel.size hb.size) fun k hk => hk.elim (fun e => e ▸ h.wr.1) fun e => e ▸ h.wr.2), mm⟩
theorem RdC.mut {T : Nat → Prop} {w w' : World} {A : Option Addr} {c : List CI} (h : RdC w A c) (hm : Mut T w w') (hA : ∀ a, A = some a → ¬ T a.block) (hs : ∀ x ∈ c, ∀ a, x.sa = some a → ¬ T a.block) : RdC w' A c :=
  ⟨fun k x hk => by
    obtain ⟨g, h1, h2, h3⟩ := h.rd k x hk
    exact ⟨g, h1, Nat.lt_of_lt_of_le h2 hm.size, fun j hj => (hm.cell h2 (hA _ h1)).trans (h3 j hj)⟩, fun x hx => (h.sp x hx).mut hm (hs x hx), fun x hx a ha => Nat.lt_of_lt_of_le (h.spn x hx a ha) hm.size, fun a ha => by
    obtain ⟨cur, fr, h1⟩ := h.ty a ha
    exact ⟨cur, fr, (hm.block _ (lt_of_heap h1) (hA a ha)).trans h1⟩⟩
/-- The expression that is handed back. -/
theorem rx_done {w5 w6 w7 : World} {cb rb fb : Nat} {A : CA} {S : Nat → Prop} {cs : List Int} {ats : AT} {j d t : Nat} {c : List CI} {s : ByteArray} {l : List Nd} {r f : Array Value} (h : CpAt w5 cb A S cs ats ⟨j, d, t, c ++ [ci 0 0 0]⟩) (hr : w5.heap[rb]? = some (.cells r 33 (0, 0))) (hf : w5.heap[fb]? = some (.cells f 30 (0, 0)))
    (hm : Mut (fun k => k = rb ∨ k = fb) w5 w6) (h7 : w7 = (w6.alloc (.cells #[.string s, .int .i64 (t : Nat), .slice A.cd (c.length + 1) A.cdC] 101)).drew) (hi : Impl (toIn (riL c)) (.alt l) 0 c.length) (hg : Good ⟨j, 0, t, c⟩ cs.length) (hcs : cs.length ≤ 10000) : Rx w7 w6.heap.size s (.alt l) t := by
  have hb : Below w6.heap.size w6 w7 := h7 ▸ ((Below.refl _ _).alloc (Nat.le_refl _) _).drew
  have hn : ∀ {k : Nat} {cur : Array Value} {ty : TypeId} {fr : Nat × Nat}, w5.heap[k]? = some (.cells cur ty fr) → ty ≠ 33 → ty ≠ 30 → ¬ (k = rb ∨ k = fb) := fun hk h1 h2 e => by
    rcases e with e | e
    · rw [e, hr] at hk; injection hk with hk; injection hk with _ hk _; exact h1 hk.symm
    · rw [e, hf] at hk; injection hk with hk; injection hk with _ hk _; exact h2 hk.symm
  have hc : RdC w6 A.cd (c ++ [ci 0 0 0]) := (rdc_of h).mut hm (fun a ha => by obtain ⟨cur, h1, _⟩ := h.row a ha; exact hn h1 (by decide) (by decide)) fun x hx a ha => by obtain ⟨cur, fr, h1⟩ := (h.sp x hx).ty a ha; exact hn h1 (by decide) (by decide)
  refine ⟨A.cd, A.cdC, c ++ [ci 0 0 0], ?_, hc.below hb, auto_done hi, ?_, ?_⟩
  · rw [h7, List.length_append]; exact heap_alloc_new w6 _
  · have h1 := hg.c; have h2 := hg.i; simp only at h1 h2; rw [List.length_append, List.length_singleton]; omega
  · rw [List.length_append, List.length_singleton]
    exact ((show NBd c c.length from hg.b).mono (m := c.length + 1) (by omega)).snoc (by simp only [ci]; omega)
theorem compile_long (s : ByteArray) (hs : 1000 < s.size) (w : World) : Calls Try.prog 20 #[.string s] w (CompR w s) := by
  have q1 : (1000 : Int) < (s.size : Int) := by omega
  have HM : Hid (compM s = .inl (0, 3)) := Lib.hid (by unfold compM; rw [if_pos hs])
  clear hs
  go_enter_defers Try.func20, Try.ntmps20
  go_wp2
  simp [bodyPostD, Leaves, settle, results, Try.results20, go_sem]
  unfold CompR
  rw [HM.out]
  exact ⟨((Below.refl _ _).alloc (Nat.le_refl _) _).alloc (by simp) _, rfl⟩
set_option maxRecDepth 100000 in
set_option maxHeartbeats 4000000 in
theorem compile_walk (s : ByteArray) (hs : ¬ 1000 < s.size) (w : World) : Calls Try.prog 20 #[.string s] w (CompR w s) := by
  have q1 : ¬ (1000 : Int) < (s.size : Int) := by omega
  have hmf : ∀ (fn : Fn) (first cap : Array Value) (w : World), (Instr.makeFunc fn first cap).run Try.prog w = .ok (.func fn first cap) w := fun _ _ _ _ => rfl
  have q2 : s.size ≤ 1000 := by omega
  clear hs
  go_enter_defers Try.func20, Try.ntmps20
  go_wp2
  have HW := fun (rb fb cb : Nat) h0 h1 h2 => Lib.hid (CompW.start w (rb := rb) (fb := fb) (cb := cb) h0 h1 h2)
  generalize ((w.alloc (.cells #[.pointer none] 33)).alloc (.cells #[.int .i64 0, .int .i64 0] 30)) = wb at *
  have HL0 := fun (cb bi : Nat) h1 h2 => Lib.hid (LS.start (w := wb) (cb := cb) (bi := bi) s h1 h2)
  generalize ((wb.alloc (.cells #[.slice none 0 0, .slice none 0 0, .int .i64 0, .int .i64 0, .int .i64 0, .slice none 0 0] 93)).iter s 0) = w0 at *
  generalize hrb : w.heap.size = rb
  generalize hfb : rb + 1 = fb
  generalize hcb : fb + 1 = cb
  generalize hbi : cb + 1 = bi
  replace HW := HW rb fb cb hrb hfb hcb
  replace HL0 := HL0 cb bi HW.out.sz hbi
  have HNE : Hid (rb ≠ fb) := Lib.hid (by omega)
  clear hrb hfb hcb hbi
  go_loopg [5, 6] (s.size + 4) (fun k s5 s6 wr => ∃ (pos : Nat) (L : List (Nat × Int)) (chA : Option Addr) (chC : Nat) (atA : Option Addr) (atC : Nat), Hid (LS wb wr cb bi s pos (chL L) (plL L) chA chC atA atC) ∧ Hid (TodoD s L pos) ∧ Hid (s.size + 4 - pos = k))
  case atStart => exact ⟨0, [], none, 0, none, 0, HL0, Lib.hid (TodoD.start s), Lib.hid rfl⟩
  case round =>
    obtain ⟨pos, L, chA, chC, atA, atC, HL, HT, HK⟩ := hrel
    clear HL0
    by_cases hp : pos < s.size
    · have hnx : ∀ ty, (Instr.next (.pointer (some ⟨bi, 0, none⟩)) true ty).run Try.prog wr = .ok (.tuple #[.bool true, .int .i64 (pos : Nat), .int .i32 ((Utf8.decode s pos).1 : Nat)]) (wr.iterAt bi s (pos + (Utf8.decode s pos).2)) := fun ty => Lib.run_next_any_at wr bi s pos ty HL.out.it hp
      have HL1 := Lib.hid (HL.out.move (pos + (Utf8.decode s pos).2))
      have HT1 := Lib.hid (HT.out.next hp)
      have HK1 : Hid (s.size + 4 - (pos + (Utf8.decode s pos).2) < gk) := Lib.hid (by have := width_pos s pos hp; have := HK.out; omega)
      have q3 : L.length ≤ 1000 := Nat.le_trans HT.out.len q2
      have q4 : (chL L).length = L.length ∧ (plL L).length = L.length := by simp [chL, plL]
      clear hp HL HT HK
      generalize (wr.iterAt bi s (pos + (Utf8.decode s pos).2)) = wn at *
      generalize pos + (Utf8.decode s pos).2 = pos2 at *
      generalize (Utf8.decode s pos).1 = cp at *
      obtain ⟨d0, d1, df⟩ := HL1.out.cells
      have HQ := Lib.hid q4
      clear q4
      go_wp2_with (first
        | (at_builtin
           refine app_gen Try.underlying90 info_i32 rfl (by decide) (by decide) rfl _ _ rfl wb.heap.size chA chC (chL L).length (i32s (chL L)) #[.int .i32 (cp : Nat)] rfl HL1.out.ch rfl rfl rfl ?k1 (by have := HQ.out.1; omega) HL1.out.bel.size ?_
           case k1 => intro u hu; simp only [List.mem_cons, List.not_mem_nil, or_false] at hu; rcases hu with rfl; rfl
           intro A1 C1 w2 ho hm hl
           have HL2 := Lib.hid (HL1.out.pushC (x := (cp : Nat)) hm ho)
           obtain ⟨e0, e1, ef⟩ := HL1.out.keepC hm
           clear ho hm hl d0 d1 df)
        | (at_builtin
           go_must (refine app_gen Try.underlying24 info_int rfl (by decide) (by decide) rfl _ _ rfl wb.heap.size atA atC (plL L).length (ints (plL L)) #[.int .i64 (pos : Nat)] rfl HL2.out.at_ (p := w2.heap.size) rfl (by simp) rfl ?k1 (by have := HQ.out.2; omega) HL2.out.bel.size ?_)
           case k1 => intro u hu; simp only [List.mem_cons, List.not_mem_nil, or_false] at hu; rcases hu with rfl; rfl
           intro A2 C2 w3 ho hm hl
           have HL3 := Lib.hid (HL2.out.pushP (y := (pos : Nat)) hm ho)
           obtain ⟨h0, h1, hf⟩ := HL2.out.keepP hm
           clear ho hm hl))
      go_roundg (s.size + 4 - pos2)
      case measure => exact HK1.out
      case rel => exact ⟨pos2, L ++ [(pos, (cp : Int))], A1, C1, A2, C2, by rw [← chL_snoc, ← plL_snoc]; exact HL3, HT1, Lib.hid rfl⟩
    · have hnx : ∀ ty, (Instr.next (.pointer (some ⟨bi, 0, none⟩)) true ty).run Try.prog wr = .ok (.tuple #[.bool false]) wr := fun ty => Lib.run_next_end_at wr bi s pos ty HL.out.it hp
      have HD := Lib.hid (HT.out.done hp)
      have q3 : L.length ≤ 1000 := Nat.le_trans HT.out.len q2
      have HQ : Hid ((chL L).length = L.length ∧ (plL L).length = L.length) := Lib.hid (by simp [chL, plL])
      clear hp HK HT
      obtain ⟨d0, d1, df⟩ := HL.out.cells
      go_wp2_with (first
        | (at_builtin
           refine app_gen Try.underlying24 info_int rfl (by decide) (by decide) rfl _ _ rfl wb.heap.size atA atC (plL L).length (ints (plL L)) #[.int .i64 (s.size : Nat)] rfl HL.out.at_ rfl rfl rfl ?k1 (by have := HQ.out.2; omega) HL.out.bel.size ?_
           case k1 => intro u hu; simp only [List.mem_cons, List.not_mem_nil, or_false] at hu; rcases hu with rfl; rfl
           intro A2 C2 w3 ho hm hl
           have HL3 := Lib.hid (HL.out.pushP (y := (s.size : Nat)) hm ho)
           obtain ⟨h0, h1, hf⟩ := HL.out.keepP hm
           clear ho hm hl))
      have HTX : Hid (Txt (chL L) ⟨plL L ++ [((s.size : Nat) : Int)], chA, chC, A2, C2⟩) := Lib.hid ⟨by rw [List.length_append, HQ.out.1, HQ.out.2]; rfl, by rw [HQ.out.1]; omega⟩
      have HCM : Hid (∀ x ∈ chL L, 0 ≤ x ∧ x ≤ 1114111) := Lib.hid (by rw [HD.out]; exact charsS_mem s)
      have HCP := Lib.hid HL3.out.cp
      have HG : Hid (Good ⟨0, 0, 0, []⟩ (chL L).length) := Lib.hid ⟨Nat.zero_le _, Nat.zero_le _, Nat.le_refl _, by decide, fun _ h => by cases h⟩
      have HAL := Lib.hid (alts_ok HTX.out HCM.out (3 * (chL L).length + 3) _ _ _ _ HCP.out HG.out ((parse_fuel (chL L) _).1 0 0 0 (by omega) (Nat.zero_le _)))
      have HCO : Hid (compM s = match pAlts (chL L) (3 * (chL L).length + 3) 0 0 0 with | .bad p e => .inl (((plL L ++ [((s.size : Nat) : Int)])[p]?).getD 0, e) | .ok l _ t => .inr (l, t)) := Lib.hid (by unfold compM; rw [if_neg (by omega), HD.out]; rfl)
      simp only at HAL
      generalize pAlts (chL L) (3 * (chL L).length + 3) 0 0 0 = R at *
      cases R with
      | bad p ec =>
        go_wp2_with (go_at_call 50; refine HAL.out.mono ?_; rintro e w4 ⟨q, hq, rfl, hm⟩; have HQ2 := Lib.hid hq; have HM := Lib.hid hm; clear hq hm)
        have hb4 : Below wb.heap.size wb w4 := HL3.out.bel.trans (HM.out.to_below HL3.out.bel.size fun k hk => hk ▸ HL3.out.cl.1)
        obtain ⟨hr4, hf4⟩ := HW.out.after hb4
        have HWR := Lib.hid (HW.out.written HNE.out hb4 (.pointer none) q ec)
        refine leaves_cons (f := 49) (args := #[.pointer (some ⟨rb, 0, none⟩), .pointer (some ⟨fb, 0, none⟩)]) (by simp) (by simp [go_sem]) ?_
        refine (catch_fault rb fb q ec [] w4 _ _ _ HNE.out (cell_of_heap hr4 rfl) (cell_of_heap hf4 rfl) (cell_of_heap hf4 rfl) (fun i => frozen_of_heap hr4 i) (fun i => frozen_of_heap hf4 i) (lt_of_heap hr4) (lt_of_heap hf4)).mono ?_
        rintro e u' w5 ⟨rfl, rfl, hw5⟩
        generalize (((w4.setCell ⟨rb, 0, none⟩ (.pointer none)).setCell ⟨fb, 0, none⟩ (.int .i64 q)).setCell ⟨fb, 1, none⟩ (.int .i64 ec)) = w6 at *
        have hb6 : Below w6.heap.size w6 w5 := hw5 ▸ ((Below.refl _ _).alloc (Nat.le_refl _) _).drew
        have g1 := (hb6.block _ (lt_of_heap HWR.out.1)).trans HWR.out.1
        have g2 := (hb6.block _ (lt_of_heap HWR.out.2.1)).trans HWR.out.2.1
        have k0 := cell_of_heap (j := 0) g1 rfl
        have k1 := cell_of_heap (j := 0) g2 rfl
        have k2 := cell_of_heap (j := 1) g2 rfl
        have HB7 : Hid (Below w.heap.size w w5) := Lib.hid (HWR.out.2.2.1.trans (hb6.mono HWR.out.2.2.1.size))
        clear hw5 hb6 g1 g2 hr4 hf4 hb4
        simp [Leaves, settle, results, Try.results20, go_sem, k0, k1, k2]
        unfold CompR
        rw [HCO.out]
        simp only [HQ2.out]
        exact ⟨HB7.out, rfl⟩
      | ok l j t =>
        go_wp2_with (first
          | (go_at_call 50; refine HAL.out.mono ?_; rintro e w4 ⟨rfl, c', ⟨A', S', hcp, hmu, hsu⟩, hx, him, hg⟩
             have HC4 := Lib.hid hcp
             have HS4 := Lib.hid (And.intro hmu hsu)
             have HI4 := Lib.hid him
             have HG4 := Lib.hid hg
             have HE := Lib.hid (emit_ci hcp 0 0 0 (by have h1 := hg.c; have h2 := hg.i; have := HQ.out; simp only at h1 h2 ⊢; omega))
             clear hcp hmu hsu hx him hg)
          | (go_at_call 51; go_must (refine HE.out.mono ?_); go_must (rintro e w5 ⟨rfl, A5, S5, hcp, hmu, hsu⟩)
             have HC5 := Lib.hid hcp
             have HS5 := Lib.hid (And.intro hmu hsu)
             have hb5 : Below wb.heap.size wb w5 := (HL3.out.bel.trans (HS4.out.1.to_below HL3.out.bel.size fun k hk => hk ▸ HL3.out.cl.1)).trans (hmu.to_below (Nat.le_trans HL3.out.bel.size HS4.out.1.size) fun k hk => (HS4.out.2 k hk).elim (fun e => e ▸ HL3.out.cl.1) fun e => Nat.le_trans HL3.out.bel.size e)
             obtain ⟨hr5, hf5⟩ := HW.out.after hb5
             have HB5 := Lib.hid hb5
             have r0 := cell_of_heap (j := 0) hr5 rfl
             have r1 := frozen_of_heap hr5
             have f0 := cell_of_heap (j := 0) hf5 rfl
             have f1 := cell_of_heap (j := 1) hf5 rfl
             have f2 := frozen_of_heap hf5
             have n1 : rb ≠ fb := HNE.out
             have n2 := lt_of_heap hr5
             have n3 := lt_of_heap hf5
             obtain ⟨d0, d1, d2, d3, d4, d5, df⟩ := hcp.cells
             clear hcp hmu hsu hr5 hf5 hb5))
        go_region
        go_wp2
        obtain ⟨hr5, hf5⟩ := HW.out.after HB5.out
        have HWR := Lib.hid (HW.out.written HNE.out HB5.out (.pointer (some ⟨w5.heap.size, 0, none⟩)) 0 0)
        have hz : (((w5.setCell ⟨rb, 0, none⟩ (.pointer (some ⟨w5.heap.size, 0, none⟩))).setCell ⟨fb, 0, none⟩ (.int .i64 0)).setCell ⟨fb, 1, none⟩ (.int .i64 0)).heap.size = w5.heap.size := by simp
        generalize (((w5.setCell ⟨rb, 0, none⟩ (.pointer (some ⟨w5.heap.size, 0, none⟩))).setCell ⟨fb, 0, none⟩ (.int .i64 0)).setCell ⟨fb, 1, none⟩ (.int .i64 0)) = w6 at *
        generalize hw7 : (w6.alloc (.cells #[.string s, .int .i64 (t : Nat), .slice A5.cd (c'.length + 1) A5.cdC] 101)).drew = w7 at *
        have HRX := Lib.hid (rx_done HC5.out hr5 hf5 HWR.out.2.2.2 hw7.symm HI4.out HG4.out HTX.out.tiny)
        have hb6 : Below w6.heap.size w6 w7 := hw7 ▸ ((Below.refl _ _).alloc (Nat.le_refl _) _).drew
        have g1 := (hb6.block _ (lt_of_heap HWR.out.1)).trans HWR.out.1
        have g2 := (hb6.block _ (lt_of_heap HWR.out.2.1)).trans HWR.out.2.1
        have k0 := cell_of_heap (j := 0) g1 rfl
        have k1 := cell_of_heap (j := 0) g2 rfl
        have k2 := cell_of_heap (j := 1) g2 rfl
        have HB7 : Hid (Below w.heap.size w w7) := Lib.hid (HWR.out.2.2.1.trans (hb6.mono HWR.out.2.2.1.size))
        rw [hz] at HRX
        clear hw7 hb6 g1 g2 hr5 hf5 r0 r1 f0 f1 f2 n1 n2 n3 d0 d1 d2 d3 d4 d5 df hz HWR
        refine leaves_cons (f := 49) (args := #[.pointer (some ⟨rb, 0, none⟩), .pointer (some ⟨fb, 0, none⟩)]) (by simp) (by simp [go_sem]) ?_
        refine (catch_idle ⟨rb, 0, none⟩ ⟨fb, 0, none⟩ w7).mono ?_
        rintro e u' w8 ⟨rfl, rfl, rfl⟩
        simp [Leaves, settle, results, Try.results20, go_sem, k0, k1, k2]
        unfold CompR
        rw [HCO.out]
        exact ⟨HB7.out, _, rfl, HRX.out⟩
/-- Compile, whatever the text. -/
theorem compile_calls (s : ByteArray) (w : World) : Calls Try.prog 20 #[.string s] w (CompR w s) := by
  by_cases hs : 1000 < s.size
  · exact compile_long s hs w
  · exact compile_walk s hs w
end Go.Proofs.Ytcajnmhbkjngbaa

