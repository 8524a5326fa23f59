/- Cons, where it makes one. -/
import Derived.Test.YtodfpclekihbhaaG12
namespace Go.Proofs.Ytodfpclekihbhaa
open Go.RowKit Go.Shelf
attribute [local go_sem] Oper.semAt_some
set_option maxRecDepth 8000

variable {w : World} {hb : Nat} {A : HA} {H : Hp} {S : Nat → Prop}
theorem clone_front {W : World} {a : Option Addr} {C : Nat} {l : List Wd} (h : WordsAt W a C l) (hm : l.length ≤ 100000000) :
    Calls Try.prog 60 #[.slice a l.length C] W fun e w' => ∃ A' C', e = .returned (.slice A' l.length C') ∧ w'.ownsRow W.heap.size 42 2 (.slice A' l.length C') l.length (wcs l) ∧ Below W.heap.size W w' :=
  (cloneWord a l.length C (wcs l) W (len_wcs l) (fun b hb j u hu => by
    rcases h.2 with ⟨h1, h2⟩ | ⟨g, cap, cur, h1, h2, h3, h4, h5, h6, h7⟩
    · have := (List.getElem?_eq_some_iff.1 hu).1
      rw [len_wcs] at this
      omega
    · injection h1 with e1 e2 e3
      rw [e1] at hb
      injection hb with hb
      subst hb
      have hj := (List.getElem?_eq_some_iff.1 hu).1
      rw [len_wcs] at hj
      rw [← h7, List.getElem?_take_of_lt (by omega)] at hu
      rw [add_off, Nat.zero_add]
      unfold World.cell?
      rw [h3]
      simpa using hu) (oneCell_wcs _) (fun e => by
    rcases h.2 with ⟨h1, h2⟩ | ⟨g, cap, cur, h1, _⟩
    · injection h1 with e1 e2 e3
      exact ⟨h2, e3⟩
    · injection h1 with e1
      rw [e1] at e
      cases e) hm).mono fun _ _ ⟨A', C', h1, h2, h3, _⟩ => ⟨A', C', h1, h2, h3⟩
theorem RdB.of_own {W : World} {B n C : Nat} {a : Option Addr} {refs : List Bool} (h : W.ownsRow B 4 1 (.slice a n C) n (refs.map Value.bool)) : RdB W a C refs := by
  rcases h.2 with ⟨h1, h2⟩ | ⟨g, cap, cur, h1, h2, h3, h4, h5, h6, h7⟩
  · injection h1 with e1 e2 e3
    have h8 := h.1
    rw [h2] at h8
    have h9 : refs = [] := List.eq_nil_of_length_eq_zero (by simpa using h8)
    exact ⟨fun b hb => (by rw [e1] at hb; cases hb), fun _ => ⟨h9, e3⟩⟩
  · injection h1 with e1
    refine ⟨fun b hb j u hu => ?_, fun e => by rw [e1] at e; cases e⟩
    rw [e1] at hb
    injection hb with hb
    subst hb
    have hj := (List.getElem?_eq_some_iff.1 hu).1
    have h8 := h.1
    rw [← h7, List.getElem?_take_of_lt (by omega)] at hu
    rw [add_off, Nat.zero_add]
    unfold World.cell?
    rw [h3]
    simpa using hu
theorem note_mem {refs : List Bool} {front : List Wd} (hf : fitsAll H refs front = 0) (hm : front.length = refs.length) (x : Int) (hx : x ∈ refsOf front) : x = 0 ∨ Mp.get H.objs x ≠ none := by
  unfold refsOf at hx
  obtain ⟨h1, h2⟩ := List.mem_filter.1 hx
  obtain ⟨v, hv, rfl⟩ := List.mem_map.1 h1
  obtain ⟨j, hj, rfl⟩ := List.getElem_of_mem hv
  exact fits_zero (fitsAll_zero hf j (by rw [← hm]; exact hj) hj)
set_option maxHeartbeats 2000000 in
theorem cons_ok0 (h : HpAt w hb A H S) (cls : Int) {ad : Option Addr} {C : Nat} {refs : List Bool} (ho0 : w.ownsRow 0 4 1 (.slice ad refs.length C) refs.length (refs.map Value.bool)) (hi : Inv H []) (hmu : muH H ≤ 40000000) (hrl : ∀ r o, Mp.get H.objs r = some o → o.row ≤ H.last) (hlast : H.last ≤ 1000000) (hn : refs.length ≤ 256) {fd : Option Addr} {FC : Nat} {front : List Wd} (hW : WordsAt w fd FC front) (hm : front.length = refs.length) (t : Int) (hf : fitsAll H refs front = 0) (h0 : t = 0) (ts : List Int) (hts : ts = refsOf front) :
    Calls Try.prog 30 #[.pointer (some ⟨hb, 0, none⟩), .agg #[.int .i64 cls, .slice ad refs.length C], .slice fd front.length FC, .int .i64 t] w (MkPost w hb S (addH (newRow (ts.foldl noteH H) ⟨front, 1, false⟩) ⟨3, cls, refs, emptyB, false, t, H.last + 1, 0, 0, 0, 0⟩, (H.last : Int) + 1, 0)) := by
  subst h0
  have HF := Lib.hid (fun (j : Nat) (h1 : j < refs.length) (h2 : j < front.length) => fitsAll_zero hf j h1 h2)
  have HTS := Lib.hid (show ts = refsOf front ++ tailOf ⟨3, cls, refs, emptyB, false, 0, H.last + 1, 0, 0, 0, 0⟩ from by rw [hts]; unfold tailOf; simp)
  have hmem : ∀ x ∈ ts, x = 0 ∨ Mp.get H.objs x ≠ none := fun x hx => by
    rw [hts] at hx
    exact note_mem hf hm x hx
  have HNI := Lib.hid (NI.start hi hmem)
  clear hmem
  have HH := Lib.hid h
  have hs : BoolsAt w ad refs := (ShpAt.of_own ho0).rd
  have HS := Lib.hid hs
  have HRD := Lib.hid (RdB.of_own ho0)
  have HI := Lib.hid hi
  have HMU := Lib.hid hmu
  have HRL := Lib.hid hrl
  have HLA := Lib.hid hlast
  have HSL := Lib.hid h.Slt
  have HW := Lib.hid hW
  have k1 : ¬ (256 : Int) < (refs.length : Int) := by omega
  have HM := Lib.hid hm
  rw [← hm] at k1
  have q2 : front.length ≤ 256 := by omega
  have HB0 : Hid (Below w.heap.size w ((w.alloc (.cells #[.pointer (some ⟨hb, 0, none⟩)] 24)).alloc (.cells #[.int .i64 cls, .slice ad front.length C] 32))) := Lib.hid (((Below.refl _ _).alloc (Nat.le_refl _) _).alloc (by simp) _)
  obtain ⟨K0, K1⟩ := heap2 w (.cells #[.pointer (some ⟨hb, 0, none⟩)] 24) (.cells #[.int .i64 cls, .slice ad front.length C] 32)
  have HK0 := Lib.hid K0
  have HK1 := Lib.hid K1
  clear ho0 hi hmu hrl hlast K0 K1 h hs hW hm hn hf hts
  rw [← HM.out]
  have hfits : Fence.wide.fn 65 := trivial
  have hffind : Fence.wide.fn 57 := trivial
  have hfcop : Fence.wide.fn 56 := trivial
  have hfclo : Fence.wide.fn 60 := trivial
  have hfadd : Fence.wide.fn 55 := trivial
  have hfref : Fence.wide.fn 61 := trivial
  have hfsee : Fence.wide.fn 62 := trivial
  refine (callsIn_wide (n := 7)).1 ?_
  refine callsIn_of_wp_marks Try.func30 rfl trivial ?_ rfl
  simp only [Try.ntmps30, List.size_toArray, List.length_cons, List.length_nil, Nat.reduceAdd, Nat.reduceSub, Array.replicate_succ, Array.replicate_zero, List.push_toArray, List.append_toArray, List.nil_append, List.cons_append]
  gi_wp2
  gi_loopw [33] (fun p wr => ∃ j : Nat, j ≤ front.length ∧ p = .int .i64 j ∧ Hid (Below ((w.alloc (.cells #[.pointer (some ⟨hb, 0, none⟩)] 24)).alloc (.cells #[.int .i64 cls, .slice ad front.length C] 32)).heap.size ((w.alloc (.cells #[.pointer (some ⟨hb, 0, none⟩)] 24)).alloc (.cells #[.int .i64 cls, .slice ad front.length C] 32)) wr)) (fun i _ => front.length - (intOf i).toNat)
  case atStart => exact ⟨0, Nat.zero_le _, rfl, Lib.hid (Below.refl _ _)⟩
  case round =>
    obtain ⟨j, hj, rfl, HJ⟩ := hrel
    have HB1 : Hid (Below w.heap.size w wr) := Lib.hid (HB0.out.trans (HJ.out.mono HB0.out.size))
    have b0 := cell_of_heap (v := .pointer (some ⟨hb, 0, none⟩)) ((HJ.out.block _ (lt_of_heap HK0.out)).trans HK0.out) (j := 0) rfl
    have b1 := cell_of_heap (v := .int .i64 cls) ((HJ.out.block _ (lt_of_heap HK1.out)).trans HK1.out) (j := 0) rfl
    have b2 := cell_of_heap (v := .slice ad front.length C) ((HJ.out.block _ (lt_of_heap HK1.out)).trans HK1.out) (j := 1) rfl
    have hz0 : w.heap.size < wr.heap.size := lt_of_cell b0
    have hz1 : w.heap.size + 1 < wr.heap.size := lt_of_cell b1
    by_cases hlt : j < front.length
    · have hjr0 : j < refs.length := by rw [← HM.out]; exact hlt
      have hW1 : WordsAt wr fd FC front := own_mut2 HW.out (Mut.of_below (S := fun _ => False) HB1.out) fun _ _ h => h
      obtain ⟨gc, hfd, hgc, hCC, hfc, c0, c1⟩ := hW1.cell j hlt
      have q0 : (0 : Int) ≤ (j : Int) := by omega
      have q1 : (j : Int) < (front.length : Int) := by omega
      have hfit : fitsH H (refs[j]'hjr0) (front[j]'hlt) = 0 := HF.out j hjr0 hlt
      rw [hfd]
      have hjr : j < refs.length := by rw [← HM.out]; exact hlt
      generalize front[j]'hlt = v at *
      obtain ⟨num, ref⟩ := v
      have c0' : wr.cell? ⟨gc, j * 2, none⟩ = some (.int .i64 num) := c0
      have c1' : wr.cell? ⟨gc, j * 2 + 1, none⟩ = some (.int .i64 ref) := c1
      have HBA : Hid (Below w.heap.size w (wr.alloc (.cells #[.int .i64 num, .int .i64 ref] 42)) ∧ Below wr.heap.size wr (wr.alloc (.cells #[.int .i64 num, .int .i64 ref] 42))) := Lib.hid ⟨HB1.out.trans ((Below.refl _ _).alloc HB1.out.size _), (Below.refl _ _).alloc (Nat.le_refl _) _⟩
      have hcall := fits_calls (HH.out.below HBA.out.1) cls C (HS.out.below HBA.out.1) j hjr num ref
      rw [hfit, ← HM.out] at hcall
      have HCALL := Lib.hid hcall
      clear hcall hW1 hfd c0 c1 hfit
      gi_wp2_with (gi_at_call 65; refine (callsIn_wide.2 HCALL.out).mono ?_; rintro e w5 ⟨rfl, hb5⟩; have HB5 := Lib.hid (HBA.out.2.trans (hb5.mono HBA.out.2.size)); clear hb5)
      go_roundw
      case rel => exact ⟨j + 1, by omega, by go_num, Lib.hid (HJ.out.trans (HB5.out.mono HJ.out.size))⟩
      case measure => simp [intOf]; omega
    · obtain rfl : j = front.length := by omega
      clear hlt hj
      have hW1 : WordsAt wr fd FC front := own_mut2 HW.out (Mut.of_below (S := fun _ => False) HB1.out) fun _ _ h => h
      have HW1 := Lib.hid hW1
      have hcop := copied_calls cls (HRD.out.below HB1.out) (by have := HM.out; omega)
      rw [← HM.out] at hcop
      have HCOP := Lib.hid hcop
      clear hW1 hcop
      gi_wp2_with (first
        | (gi_at_call 56; refine (callsIn_wide.2 HCOP.out).mono ?_; rintro e w6 ⟨A1, C1, rfl, ho6, hb6⟩
           have HO6 := Lib.hid ho6
           have HB6 := Lib.hid hb6
           have bb0 := keep3 hb6 b0
           clear ho6 hb6)
        | (gi_at_call 60; refine (callsIn_wide.2 (clone_front (W := w6) (own_mut2 HW1.out (Mut.of_below (S := fun _ => False) HB6.out) fun _ _ h => h) (by omega))).mono ?_; rintro e w7 ⟨FA, FD, rfl, ho7, hb7⟩
           have HO7 := Lib.hid ho7
           have HB7 := Lib.hid hb7
           have bc0 := keep3 hb7 bb0
           clear ho7 hb7)
        | gi_in)
      have HBW : Hid (Below w.heap.size w w7) := Lib.hid ((HB1.out.trans (HB6.out.mono HB1.out.size)).trans (HB7.out.mono (Nat.le_trans HB1.out.size HB6.out.size)))
      have HSZ : Hid (w.heap.size ≤ wr.heap.size ∧ wr.heap.size ≤ w6.heap.size ∧ w6.heap.size ≤ w7.heap.size) := Lib.hid ⟨HB1.out.size, HB6.out.size, HB7.out.size⟩
      obtain ⟨Wo, hWo⟩ : ∃ Wo, Wo = w7.alloc (.cells #[.int .i64 3, .int .i64 cls, .slice A1 front.length C1, .slice FA front.length FD, .string { data := #[] }, .bool false, .int .i64 0, .pointer none, .int .i64 0, .int .i64 0, .int .i64 0, .int .i64 0] 104) := ⟨_, rfl⟩
      rw [← hWo]
      have HOB : Hid (Wo.heap[w7.heap.size]? = some (.cells #[.int .i64 3, .int .i64 cls, .slice A1 front.length C1, .slice FA front.length FD, .string { data := #[] }, .bool false, .int .i64 0, .pointer none, .int .i64 0, .int .i64 0, .int .i64 0, .int .i64 0] 104 (0, 0))) := Lib.hid (by rw [hWo]; exact heap_alloc_new _ _)
      have HBO : Hid (Below w7.heap.size w7 Wo) := Lib.hid (by rw [hWo]; exact (Below.refl _ _).alloc (Nat.le_refl _) _)
      have HSO : Hid (Wo.heap.size = w7.heap.size + 1) := Lib.hid (by rw [hWo]; exact World.size_alloc _ _)
      have HPO : Hid (HpAt Wo hb A H S) := Lib.hid ((HH.out.below HBW.out).below HBO.out)
      have HO6' : Hid (Wo.ownsRow wr.heap.size 4 1 (.slice A1 front.length C1) front.length (refs.map Value.bool)) := Lib.hid (own_mut2 (own_mut2 HO6.out (Mut.of_below (S := fun _ => False) HB7.out) fun _ _ h => h) (Mut.of_below (S := fun _ => False) HBO.out) fun _ _ h => h)
      have HO7' : Hid (Wo.ownsRow w6.heap.size 42 2 (.slice FA front.length FD) front.length (wcs front)) := Lib.hid (own_mut2 HO7.out (Mut.of_below (S := fun _ => False) HBO.out) fun _ _ h => h)
      have HFA : Hid (∀ a, FA = some a → w6.heap.size ≤ a.block ∧ a.block < w7.heap.size) := Lib.hid fun a ha => own_blk HO7.out a ha
      have HA1 : Hid (∀ a, A1 = some a → wr.heap.size ≤ a.block ∧ a.block < w6.heap.size) := Lib.hid fun a ha => own_blk HO6.out a ha
      have HBX := Lib.hid (keep3 HBO.out bc0)
      have HTL : Hid (ts.length ≤ 1000) := Lib.hid (by
        have h1 := len_refsOf front
        have h2 : (tailOf ⟨3, cls, refs, emptyB, false, 0, H.last + 1, 0, 0, 0, 0⟩).length ≤ 1 := by unfold tailOf; split <;> simp
        rw [HTS.out, List.length_append]; omega)
      have hg := targets_gives 6 { A with wA := fun _ => FA, wC := fun _ => FD } w7.heap.size ⟨3, cls, refs, emptyB, false, 0, H.last + 1, 0, 0, 0, 0⟩ front (by omega)
      rw [← HTS.out] at hg
      have HG := Lib.hid hg
      clear hg hWo b0 b1 b2 bb0 bc0
      refine wpIn_range_one rfl (by omega) (by simp) rfl trivial (enters_of Try.func72 (by kernel_rfl) rfl) HG.out (fun j W => ∃ G, NI H ts j G ∧ HpAt W hb A G S ∧ Mut S Wo W) ?_ ?_ ?_ ⟨H, HNI.out, HPO.out, Mut.refl _ _⟩ ?_ ?_
      · rintro j W1 W2 ⟨G, hn, hp, hm⟩ hbb
        exact ⟨G, hn, hp.below hbb, hm.then (Mut.of_below hbb)⟩
      · rintro j W l o1 o2 ⟨G, hn, hp, hm⟩ hl ho hc
        have hmp : Mut (· = l) W (W.putObj l o2) := ⟨rfl, rfl, rfl, by simp, fun k _ hk => World.putObj_heap_other (fun e => hk e)⟩
        exact ⟨G, hn, hp.mut hmp fun k hk e => by have := HSL.out _ hk; have := HSZ.out; have := HSO.out; omega, hm.trans hmp fun i hi => .inr (by rw [hi]; exact hl)⟩
      · rintro j W ⟨G, hn, hp, hm⟩
        have hB := (hm.block _ (lt_of_heap HOB.out) fun hS => by have := HSL.out _ hS; have := HSZ.out; omega).trans HOB.out
        exact ⟨cell_of_heap hB rfl, cell_of_heap hB rfl, cell_of_heap hB rfl, cell_of_heap hB rfl, fun hk => absurd (show (3 : Int) = 2 from hk) (by decide), (own_mut2 HO7'.out hm fun a ha hS => by have := HSL.out _ hS; have := HSZ.out; have := HFA.out a ha; omega).mono (Nat.zero_le _)⟩
      · rintro l j hj W ⟨G, hn, hp, hm⟩
        obtain ⟨hj2, hxj, htk⟩ := ints_take hj
        rw [hxj]
        have HST := Lib.hid (hn.step hj2)
        have HCR := Lib.hid (refer_st hp hn.inv (by rw [hn.mu]; have := HMU.out; have := HTL.out; simp; omega) (hn.mem _ (List.getElem_mem hj2)))
        have HNB : Hid (¬ S w.heap.size) := Lib.hid fun hS => Nat.lt_irrefl _ (HSL.out _ hS)
        have HM1 := Lib.hid hm
        generalize ts[j]'hj2 = y at *
        have bx := mcell hm HBX.out HNB.out
        clear hn hp hm hxj htk hj hj2
        gi_wp2_with (first
          | (gi_at_call 61; refine (CallsIn.inRound l (callsIn_wide.2 HCR.out)).mono ?_; rintro e w8 ⟨rfl, h8, m8⟩
             have H8 := Lib.hid h8
             have M8 := Lib.hid m8
             have by1 := mcell m8 bx HNB.out
             clear h8 m8)
          | (gi_at_call 62; refine (CallsIn.inRound l (callsIn_wide.2 (see_S H8.out y))).mono ?_; rintro e w9 ⟨rfl, h9, m9⟩
             have H9 := Lib.hid h9
             have M9 := Lib.hid (M8.out.then m9)
             clear h9 m9)
          | gi_in)
        exact ⟨KeepsFrom.of_mut M9.out fun k o hS hB _ => absurd (HSL.out _ hS) (by have := HSZ.out; have := HSO.out; omega), _, HST.out, H9.out, HM1.out.then M9.out⟩
      · rintro D W hD ⟨G, hn, hp, hm⟩ hdef
        rename_i Q' K hK
        refine hK _ _ ?_
        rw [show (ints ts).length = ts.length from by simp [ints]] at hn
        have hl := hn.sub.last
        have heq := hn.eq
        rw [List.take_length] at heq
        have hob := (hm.block _ (lt_of_heap HOB.out) fun hS => by have := HSL.out _ hS; have := HSZ.out; omega).trans HOB.out
        have hsh := ShpAt.of_own (own_mut2 HO6'.out hm fun a ha hS => by have := HSL.out _ hS; have := HSZ.out; have := HA1.out a ha; omega)
        have hwd : WordsAt W FA FD front := (own_mut2 HO7'.out hm fun a ha hS => by have := HSL.out _ hS; have := HSZ.out; have := HFA.out a ha; omega).mono (Nat.zero_le _)
        have hrk : ∀ r o, Mp.get G.objs r = some o → o.row ≤ G.last := fun r o ho => by
          obtain ⟨o0, h1, _, _, h2, _⟩ := hn.sub.obj r o ho
          rw [h2, hl]
          exact HRL.out _ _ h1
        have hadd := addNew_st (B := w.heap.size) hp HSL.out hn.inv hrk (by rw [hl]; exact HLA.out) ⟨3, cls, refs, emptyB, false, 0, H.last + 1, 0, 0, 0, 0⟩ ⟨front, 1, false⟩ (by rw [hl]) rfl rfl w7.heap.size (by have := HSZ.out; omega) FA FD 0 A1 C1 hwd (fun a ha => by have := HSZ.out; have := HFA.out a ha; omega) (by rw [hob]; simp [newC, emptyB, HM.out]) hsh (by rintro k ⟨_, a, ha, rfl⟩; exact .inr (by have := HSZ.out; have := HA1.out a ha; omega))
        have HADD := Lib.hid hadd
        have bx := mcell hm HBX.out fun hS => Nat.lt_irrefl _ (HSL.out _ hS)
        have HEQ := Lib.hid heq
        have HL := Lib.hid hl
        have HM1 := Lib.hid hm
        have HDEF := Lib.hid hdef
        have HD := Lib.hid hD
        clear hn hp hm hdef hl heq hob hsh hwd hrk hadd hD hK
        gi_wp2_with (first
          | (gi_at_call 55; refine (callsIn_wide.2 HADD.out).mono ?_; rintro e w9 ⟨rfl, h9, hs9, m9⟩
             have H9 := Lib.hid h9
             have HS9 := Lib.hid hs9
             have M9 := Lib.hid m9
             clear h9 hs9 m9)
          | gi_in)
        have hnD : ¬ (S D ∨ LB FA D ∨ D = w7.heap.size) := fun hT => by
          have q1 := HD.out
          have q2 := HSO.out
          have q3 := HSZ.out
          rcases hT with hS | ⟨a, ha, e⟩ | e
          · have := HSL.out _ hS; omega
          · have := HFA.out a ha; omega
          · omega
        have hd9 := (M9.out.block D (lt_of_heap HDEF.out) hnD).trans HDEF.out
        have hmp : Mut (· = D) w9 (w9.putObj D (.deferred none)) := ⟨rfl, rfl, rfl, by simp, fun k _ hk => World.putObj_heap_other (fun e => hk e)⟩
        have hDw : w.heap.size ≤ D := by have := HD.out; have := HSO.out; have := HSZ.out; omega
        refine ⟨by simp, .inl ⟨_, _, rfl, run_takeDeferred hd9, ?_⟩⟩
        refine ⟨_, results_tmp2 rfl _ _ _, ?_⟩
        have h10 := H9.out.mut hmp fun k hk e => by
          rcases hk with (hS | hF) | hk | ⟨_, a, ha, hk⟩
          · exact hnD (.inl (e ▸ hS))
          · exact hnD (.inr (.inl (e ▸ hF)))
          · exact hnD (.inr (.inr (e ▸ hk)))
          · have := HA1.out a ha; have := HD.out; have := HSO.out; have := HSZ.out; omega
        refine ⟨by rw [← HL.out]; rfl, _, _, by rw [← HEQ.out]; exact h10, ?_, HS9.out⟩
        · refine (((Mut.of_below (HBW.out.trans (HBO.out.mono HBW.out.size))).then HM1.out).trans M9.out fun k hk => ?_).trans hmp fun k hk => .inr (by rw [hk]; exact hDw)
          rcases hk with hS | ⟨a, ha, e⟩ | e
          · exact .inl hS
          · exact .inr (by have := HFA.out a ha; have := HSZ.out; omega)
          · exact .inr (by have := HSZ.out; omega)
set_option maxHeartbeats 2000000 in
theorem cons_okt (h : HpAt w hb A H S) (cls : Int) {ad : Option Addr} {C : Nat} {refs : List Bool} (ho0 : w.ownsRow 0 4 1 (.slice ad refs.length C) refs.length (refs.map Value.bool)) (hi : Inv H []) (hmu : muH H ≤ 40000000) (hrl : ∀ r o, Mp.get H.objs r = some o → o.row ≤ H.last) (hlast : H.last ≤ 1000000) (hn : refs.length ≤ 256) {fd : Option Addr} {FC : Nat} {front : List Wd} (hW : WordsAt w fd FC front) (hm : front.length = refs.length) (t : Int) (hf : fitsAll H refs front = 0) (h0 : t ≠ 0) {o : Ob} (ho : Mp.get H.objs t = some o) (hk : o.kind = 3) (ts : List Int) (hts : ts = refsOf front ++ [t]) :
    Calls Try.prog 30 #[.pointer (some ⟨hb, 0, none⟩), .agg #[.int .i64 cls, .slice ad refs.length C], .slice fd front.length FC, .int .i64 t] w (MkPost w hb S (addH (newRow (ts.foldl noteH H) ⟨front, 1, false⟩) ⟨3, cls, refs, emptyB, false, t, H.last + 1, 0, 0, 0, 0⟩, (H.last : Int) + 1, 0)) := by
  have k4 : (t != 0) = !false := by simpa using h0
  have k5 : (t == 0) = false := by simpa using h0
  have HF := Lib.hid (fun (j : Nat) (h1 : j < refs.length) (h2 : j < front.length) => fitsAll_zero hf j h1 h2)
  have HO := Lib.hid ho
  have HKK := Lib.hid hk
  have HTS := Lib.hid (show ts = refsOf front ++ tailOf ⟨3, cls, refs, emptyB, false, t, H.last + 1, 0, 0, 0, 0⟩ from by rw [hts]; unfold tailOf; rw [if_neg h0])
  have hmem : ∀ x ∈ ts, x = 0 ∨ Mp.get H.objs x ≠ none := fun x hx => by
    rw [hts] at hx
    rcases List.mem_append.1 hx with hx | hx
    · exact note_mem hf hm x hx
    · rw [List.mem_singleton] at hx; subst hx; exact .inr (by rw [ho]; exact Option.some_ne_none _)
  have HNI := Lib.hid (NI.start hi hmem)
  clear hmem
  have HH := Lib.hid h
  have hs : BoolsAt w ad refs := (ShpAt.of_own ho0).rd
  have HS := Lib.hid hs
  have HRD := Lib.hid (RdB.of_own ho0)
  have HI := Lib.hid hi
  have HMU := Lib.hid hmu
  have HRL := Lib.hid hrl
  have HLA := Lib.hid hlast
  have HSL := Lib.hid h.Slt
  have HW := Lib.hid hW
  have k1 : ¬ (256 : Int) < (refs.length : Int) := by omega
  have HM := Lib.hid hm
  rw [← hm] at k1
  have q2 : front.length ≤ 256 := by omega
  have HB0 : Hid (Below w.heap.size w ((w.alloc (.cells #[.pointer (some ⟨hb, 0, none⟩)] 24)).alloc (.cells #[.int .i64 cls, .slice ad front.length C] 32))) := Lib.hid (((Below.refl _ _).alloc (Nat.le_refl _) _).alloc (by simp) _)
  obtain ⟨K0, K1⟩ := heap2 w (.cells #[.pointer (some ⟨hb, 0, none⟩)] 24) (.cells #[.int .i64 cls, .slice ad front.length C] 32)
  have HK0 := Lib.hid K0
  have HK1 := Lib.hid K1
  clear ho0 hi hmu hrl hlast K0 K1 h hs hW hm hn hf h0 ho hk hts
  rw [← HM.out]
  have hfits : Fence.wide.fn 65 := trivial
  have hffind : Fence.wide.fn 57 := trivial
  have hfcop : Fence.wide.fn 56 := trivial
  have hfclo : Fence.wide.fn 60 := trivial
  have hfadd : Fence.wide.fn 55 := trivial
  have hfref : Fence.wide.fn 61 := trivial
  have hfsee : Fence.wide.fn 62 := trivial
  refine (callsIn_wide (n := 7)).1 ?_
  refine callsIn_of_wp_marks Try.func30 rfl trivial ?_ rfl
  simp only [Try.ntmps30, List.size_toArray, List.length_cons, List.length_nil, Nat.reduceAdd, Nat.reduceSub, Array.replicate_succ, Array.replicate_zero, List.push_toArray, List.append_toArray, List.nil_append, List.cons_append]
  gi_wp2
  gi_loopw [33] (fun p wr => ∃ j : Nat, j ≤ front.length ∧ p = .int .i64 j ∧ Hid (Below ((w.alloc (.cells #[.pointer (some ⟨hb, 0, none⟩)] 24)).alloc (.cells #[.int .i64 cls, .slice ad front.length C] 32)).heap.size ((w.alloc (.cells #[.pointer (some ⟨hb, 0, none⟩)] 24)).alloc (.cells #[.int .i64 cls, .slice ad front.length C] 32)) wr)) (fun i _ => front.length - (intOf i).toNat)
  case atStart => exact ⟨0, Nat.zero_le _, rfl, Lib.hid (Below.refl _ _)⟩
  case round =>
    obtain ⟨j, hj, rfl, HJ⟩ := hrel
    have HB1 : Hid (Below w.heap.size w wr) := Lib.hid (HB0.out.trans (HJ.out.mono HB0.out.size))
    have b0 := cell_of_heap (v := .pointer (some ⟨hb, 0, none⟩)) ((HJ.out.block _ (lt_of_heap HK0.out)).trans HK0.out) (j := 0) rfl
    have b1 := cell_of_heap (v := .int .i64 cls) ((HJ.out.block _ (lt_of_heap HK1.out)).trans HK1.out) (j := 0) rfl
    have b2 := cell_of_heap (v := .slice ad front.length C) ((HJ.out.block _ (lt_of_heap HK1.out)).trans HK1.out) (j := 1) rfl
    have hz0 : w.heap.size < wr.heap.size := lt_of_cell b0
    have hz1 : w.heap.size + 1 < wr.heap.size := lt_of_cell b1
    by_cases hlt : j < front.length
    · have hjr0 : j < refs.length := by rw [← HM.out]; exact hlt
      have hW1 : WordsAt wr fd FC front := own_mut2 HW.out (Mut.of_below (S := fun _ => False) HB1.out) fun _ _ h => h
      obtain ⟨gc, hfd, hgc, hCC, hfc, c0, c1⟩ := hW1.cell j hlt
      have q0 : (0 : Int) ≤ (j : Int) := by omega
      have q1 : (j : Int) < (front.length : Int) := by omega
      have hfit : fitsH H (refs[j]'hjr0) (front[j]'hlt) = 0 := HF.out j hjr0 hlt
      rw [hfd]
      have hjr : j < refs.length := by rw [← HM.out]; exact hlt
      generalize front[j]'hlt = v at *
      obtain ⟨num, ref⟩ := v
      have c0' : wr.cell? ⟨gc, j * 2, none⟩ = some (.int .i64 num) := c0
      have c1' : wr.cell? ⟨gc, j * 2 + 1, none⟩ = some (.int .i64 ref) := c1
      have HBA : Hid (Below w.heap.size w (wr.alloc (.cells #[.int .i64 num, .int .i64 ref] 42)) ∧ Below wr.heap.size wr (wr.alloc (.cells #[.int .i64 num, .int .i64 ref] 42))) := Lib.hid ⟨HB1.out.trans ((Below.refl _ _).alloc HB1.out.size _), (Below.refl _ _).alloc (Nat.le_refl _) _⟩
      have hcall := fits_calls (HH.out.below HBA.out.1) cls C (HS.out.below HBA.out.1) j hjr num ref
      rw [hfit, ← HM.out] at hcall
      have HCALL := Lib.hid hcall
      clear hcall hW1 hfd c0 c1 hfit
      gi_wp2_with (gi_at_call 65; refine (callsIn_wide.2 HCALL.out).mono ?_; rintro e w5 ⟨rfl, hb5⟩; have HB5 := Lib.hid (HBA.out.2.trans (hb5.mono HBA.out.2.size)); clear hb5)
      go_roundw
      case rel => exact ⟨j + 1, by omega, by go_num, Lib.hid (HJ.out.trans (HB5.out.mono HJ.out.size))⟩
      case measure => simp [intOf]; omega
    · obtain rfl : j = front.length := by omega
      clear hlt hj
      obtain ⟨d0, _⟩ := (HH.out.below HB1.out).ocells HO.out
      rw [HKK.out] at d0
      have hW1 : WordsAt wr fd FC front := own_mut2 HW.out (Mut.of_below (S := fun _ => False) HB1.out) fun _ _ h => h
      have HW1 := Lib.hid hW1
      have hcop := copied_calls cls (HRD.out.below HB1.out) (by have := HM.out; omega)
      rw [← HM.out] at hcop
      have HCOP := Lib.hid hcop
      clear hW1 hcop
      gi_wp2_with (first
        | (gi_at_call 57; refine (callsIn_wide.2 (find_some (HH.out.below HB1.out) HO.out)).mono ?_; rintro e w6 ⟨rfl, rfl⟩)
        | (gi_at_call 56; refine (callsIn_wide.2 HCOP.out).mono ?_; rintro e w6 ⟨A1, C1, rfl, ho6, hb6⟩
           have HO6 := Lib.hid ho6
           have HB6 := Lib.hid hb6
           have bb0 := keep3 hb6 b0
           clear ho6 hb6)
        | (gi_at_call 60; refine (callsIn_wide.2 (clone_front (W := w6) (own_mut2 HW1.out (Mut.of_below (S := fun _ => False) HB6.out) fun _ _ h => h) (by omega))).mono ?_; rintro e w7 ⟨FA, FD, rfl, ho7, hb7⟩
           have HO7 := Lib.hid ho7
           have HB7 := Lib.hid hb7
           have bc0 := keep3 hb7 bb0
           clear ho7 hb7)
        | gi_in)
      have HBW : Hid (Below w.heap.size w w7) := Lib.hid ((HB1.out.trans (HB6.out.mono HB1.out.size)).trans (HB7.out.mono (Nat.le_trans HB1.out.size HB6.out.size)))
      have HSZ : Hid (w.heap.size ≤ wr.heap.size ∧ wr.heap.size ≤ w6.heap.size ∧ w6.heap.size ≤ w7.heap.size) := Lib.hid ⟨HB1.out.size, HB6.out.size, HB7.out.size⟩
      obtain ⟨Wo, hWo⟩ : ∃ Wo, Wo = w7.alloc (.cells #[.int .i64 3, .int .i64 cls, .slice A1 front.length C1, .slice FA front.length FD, .string { data := #[] }, .bool false, .int .i64 t, .pointer none, .int .i64 0, .int .i64 0, .int .i64 0, .int .i64 0] 104) := ⟨_, rfl⟩
      rw [← hWo]
      have HOB : Hid (Wo.heap[w7.heap.size]? = some (.cells #[.int .i64 3, .int .i64 cls, .slice A1 front.length C1, .slice FA front.length FD, .string { data := #[] }, .bool false, .int .i64 t, .pointer none, .int .i64 0, .int .i64 0, .int .i64 0, .int .i64 0] 104 (0, 0))) := Lib.hid (by rw [hWo]; exact heap_alloc_new _ _)
      have HBO : Hid (Below w7.heap.size w7 Wo) := Lib.hid (by rw [hWo]; exact (Below.refl _ _).alloc (Nat.le_refl _) _)
      have HSO : Hid (Wo.heap.size = w7.heap.size + 1) := Lib.hid (by rw [hWo]; exact World.size_alloc _ _)
      have HPO : Hid (HpAt Wo hb A H S) := Lib.hid ((HH.out.below HBW.out).below HBO.out)
      have HO6' : Hid (Wo.ownsRow wr.heap.size 4 1 (.slice A1 front.length C1) front.length (refs.map Value.bool)) := Lib.hid (own_mut2 (own_mut2 HO6.out (Mut.of_below (S := fun _ => False) HB7.out) fun _ _ h => h) (Mut.of_below (S := fun _ => False) HBO.out) fun _ _ h => h)
      have HO7' : Hid (Wo.ownsRow w6.heap.size 42 2 (.slice FA front.length FD) front.length (wcs front)) := Lib.hid (own_mut2 HO7.out (Mut.of_below (S := fun _ => False) HBO.out) fun _ _ h => h)
      have HFA : Hid (∀ a, FA = some a → w6.heap.size ≤ a.block ∧ a.block < w7.heap.size) := Lib.hid fun a ha => own_blk HO7.out a ha
      have HA1 : Hid (∀ a, A1 = some a → wr.heap.size ≤ a.block ∧ a.block < w6.heap.size) := Lib.hid fun a ha => own_blk HO6.out a ha
      have HBX := Lib.hid (keep3 HBO.out bc0)
      have HTL : Hid (ts.length ≤ 1000) := Lib.hid (by
        have h1 := len_refsOf front
        have h2 : (tailOf ⟨3, cls, refs, emptyB, false, t, H.last + 1, 0, 0, 0, 0⟩).length ≤ 1 := by unfold tailOf; split <;> simp
        rw [HTS.out, List.length_append]; omega)
      have hg := targets_gives 6 { A with wA := fun _ => FA, wC := fun _ => FD } w7.heap.size ⟨3, cls, refs, emptyB, false, t, H.last + 1, 0, 0, 0, 0⟩ front (by omega)
      rw [← HTS.out] at hg
      have HG := Lib.hid hg
      clear hg hWo b0 b1 b2 bb0 bc0
      refine wpIn_range_one rfl (by omega) (by simp) rfl trivial (enters_of Try.func72 (by kernel_rfl) rfl) HG.out (fun j W => ∃ G, NI H ts j G ∧ HpAt W hb A G S ∧ Mut S Wo W) ?_ ?_ ?_ ⟨H, HNI.out, HPO.out, Mut.refl _ _⟩ ?_ ?_
      · rintro j W1 W2 ⟨G, hn, hp, hm⟩ hbb
        exact ⟨G, hn, hp.below hbb, hm.then (Mut.of_below hbb)⟩
      · rintro j W l o1 o2 ⟨G, hn, hp, hm⟩ hl ho hc
        have hmp : Mut (· = l) W (W.putObj l o2) := ⟨rfl, rfl, rfl, by simp, fun k _ hk => World.putObj_heap_other (fun e => hk e)⟩
        exact ⟨G, hn, hp.mut hmp fun k hk e => by have := HSL.out _ hk; have := HSZ.out; have := HSO.out; omega, hm.trans hmp fun i hi => .inr (by rw [hi]; exact hl)⟩
      · rintro j W ⟨G, hn, hp, hm⟩
        have hB := (hm.block _ (lt_of_heap HOB.out) fun hS => by have := HSL.out _ hS; have := HSZ.out; omega).trans HOB.out
        exact ⟨cell_of_heap hB rfl, cell_of_heap hB rfl, cell_of_heap hB rfl, cell_of_heap hB rfl, fun hk => absurd (show (3 : Int) = 2 from hk) (by decide), (own_mut2 HO7'.out hm fun a ha hS => by have := HSL.out _ hS; have := HSZ.out; have := HFA.out a ha; omega).mono (Nat.zero_le _)⟩
      · rintro l j hj W ⟨G, hn, hp, hm⟩
        obtain ⟨hj2, hxj, htk⟩ := ints_take hj
        rw [hxj]
        have HST := Lib.hid (hn.step hj2)
        have HCR := Lib.hid (refer_st hp hn.inv (by rw [hn.mu]; have := HMU.out; have := HTL.out; simp; omega) (hn.mem _ (List.getElem_mem hj2)))
        have HNB : Hid (¬ S w.heap.size) := Lib.hid fun hS => Nat.lt_irrefl _ (HSL.out _ hS)
        have HM1 := Lib.hid hm
        generalize ts[j]'hj2 = y at *
        have bx := mcell hm HBX.out HNB.out
        clear hn hp hm hxj htk hj hj2
        gi_wp2_with (first
          | (gi_at_call 61; refine (CallsIn.inRound l (callsIn_wide.2 HCR.out)).mono ?_; rintro e w8 ⟨rfl, h8, m8⟩
             have H8 := Lib.hid h8
             have M8 := Lib.hid m8
             have by1 := mcell m8 bx HNB.out
             clear h8 m8)
          | (gi_at_call 62; refine (CallsIn.inRound l (callsIn_wide.2 (see_S H8.out y))).mono ?_; rintro e w9 ⟨rfl, h9, m9⟩
             have H9 := Lib.hid h9
             have M9 := Lib.hid (M8.out.then m9)
             clear h9 m9)
          | gi_in)
        exact ⟨KeepsFrom.of_mut M9.out fun k o hS hB _ => absurd (HSL.out _ hS) (by have := HSZ.out; have := HSO.out; omega), _, HST.out, H9.out, HM1.out.then M9.out⟩
      · rintro D W hD ⟨G, hn, hp, hm⟩ hdef
        rename_i Q' K hK
        refine hK _ _ ?_
        rw [show (ints ts).length = ts.length from by simp [ints]] at hn
        have hl := hn.sub.last
        have heq := hn.eq
        rw [List.take_length] at heq
        have hob := (hm.block _ (lt_of_heap HOB.out) fun hS => by have := HSL.out _ hS; have := HSZ.out; omega).trans HOB.out
        have hsh := ShpAt.of_own (own_mut2 HO6'.out hm fun a ha hS => by have := HSL.out _ hS; have := HSZ.out; have := HA1.out a ha; omega)
        have hwd : WordsAt W FA FD front := (own_mut2 HO7'.out hm fun a ha hS => by have := HSL.out _ hS; have := HSZ.out; have := HFA.out a ha; omega).mono (Nat.zero_le _)
        have hrk : ∀ r o, Mp.get G.objs r = some o → o.row ≤ G.last := fun r o ho => by
          obtain ⟨o0, h1, _, _, h2, _⟩ := hn.sub.obj r o ho
          rw [h2, hl]
          exact HRL.out _ _ h1
        have hadd := addNew_st (B := w.heap.size) hp HSL.out hn.inv hrk (by rw [hl]; exact HLA.out) ⟨3, cls, refs, emptyB, false, t, H.last + 1, 0, 0, 0, 0⟩ ⟨front, 1, false⟩ (by rw [hl]) rfl rfl w7.heap.size (by have := HSZ.out; omega) FA FD 0 A1 C1 hwd (fun a ha => by have := HSZ.out; have := HFA.out a ha; omega) (by rw [hob]; simp [newC, emptyB, HM.out]) hsh (by rintro k ⟨_, a, ha, rfl⟩; exact .inr (by have := HSZ.out; have := HA1.out a ha; omega))
        have HADD := Lib.hid hadd
        have bx := mcell hm HBX.out fun hS => Nat.lt_irrefl _ (HSL.out _ hS)
        have HEQ := Lib.hid heq
        have HL := Lib.hid hl
        have HM1 := Lib.hid hm
        have HDEF := Lib.hid hdef
        have HD := Lib.hid hD
        clear hn hp hm hdef hl heq hob hsh hwd hrk hadd hD hK
        gi_wp2_with (first
          | (gi_at_call 55; refine (callsIn_wide.2 HADD.out).mono ?_; rintro e w9 ⟨rfl, h9, hs9, m9⟩
             have H9 := Lib.hid h9
             have HS9 := Lib.hid hs9
             have M9 := Lib.hid m9
             clear h9 hs9 m9)
          | gi_in)
        have hnD : ¬ (S D ∨ LB FA D ∨ D = w7.heap.size) := fun hT => by
          have q1 := HD.out
          have q2 := HSO.out
          have q3 := HSZ.out
          rcases hT with hS | ⟨a, ha, e⟩ | e
          · have := HSL.out _ hS; omega
          · have := HFA.out a ha; omega
          · omega
        have hd9 := (M9.out.block D (lt_of_heap HDEF.out) hnD).trans HDEF.out
        have hmp : Mut (· = D) w9 (w9.putObj D (.deferred none)) := ⟨rfl, rfl, rfl, by simp, fun k _ hk => World.putObj_heap_other (fun e => hk e)⟩
        have hDw : w.heap.size ≤ D := by have := HD.out; have := HSO.out; have := HSZ.out; omega
        refine ⟨by simp, .inl ⟨_, _, rfl, run_takeDeferred hd9, ?_⟩⟩
        refine ⟨_, results_tmp2 rfl _ _ _, ?_⟩
        have h10 := H9.out.mut hmp fun k hk e => by
          rcases hk with (hS | hF) | hk | ⟨_, a, ha, hk⟩
          · exact hnD (.inl (e ▸ hS))
          · exact hnD (.inr (.inl (e ▸ hF)))
          · exact hnD (.inr (.inr (e ▸ hk)))
          · have := HA1.out a ha; have := HD.out; have := HSO.out; have := HSZ.out; omega
        refine ⟨by rw [← HL.out]; rfl, _, _, by rw [← HEQ.out]; exact h10, ?_, HS9.out⟩
        · refine (((Mut.of_below (HBW.out.trans (HBO.out.mono HBW.out.size))).then HM1.out).trans M9.out fun k hk => ?_).trans hmp fun k hk => .inr (by rw [hk]; exact hDw)
          rcases hk with hS | ⟨a, ha, e⟩ | e
          · exact .inl hS
          · exact .inr (by have := HFA.out a ha; have := HSZ.out; omega)
          · exact .inr (by have := HSZ.out; omega)
/-- Cons. -/
theorem cons_calls (h : HpAt w hb A H S) (cls : Int) {ad : Option Addr} {C : Nat} {refs : List Bool} (ho0 : w.ownsRow 0 4 1 (.slice ad refs.length C) refs.length (refs.map Value.bool)) (hi : Inv H []) (hmu : muH H ≤ 40000000) (hrl : ∀ r o, Mp.get H.objs r = some o → o.row ≤ H.last) (hlast : H.last ≤ 1000000) {fd : Option Addr} {FC : Nat} {front : List Wd} (hW : WordsAt w fd FC front) (hfl : front.length ≤ 100000000) (t : Int) :
    Calls Try.prog 30 #[.pointer (some ⟨hb, 0, none⟩), .agg #[.int .i64 cls, .slice ad refs.length C], .slice fd front.length FC, .int .i64 t] w (MkPost w hb S (consH H cls refs front t)) := by
  have hs : BoolsAt w ad refs := (ShpAt.of_own ho0).rd
  unfold consH
  by_cases h1 : 256 < refs.length
  · rw [if_pos h1]; exact cons_long h cls ad _ C h1 fd _ FC t
  · rw [if_neg h1]
    by_cases h2 : front.length ≠ refs.length
    · rw [if_pos h2]; exact cons_len h cls ad _ C (by omega) fd _ FC h2 hfl t
    · rw [if_neg h2]
      have h2 : front.length = refs.length := Classical.not_not.1 h2
      by_cases h3 : fitsAll H refs front ≠ 0
      · rw [if_pos h3]; exact cons_fits h cls hs (by omega) hW h2 t rfl h3
      · rw [if_neg h3]
        have h3 : fitsAll H refs front = 0 := Classical.not_not.1 h3
        by_cases h4 : t = 0
        · rw [if_neg (fun e => e.1 h4), if_neg (fun e => e.1 h4), if_pos h4, List.append_nil]
          exact cons_ok0 h cls ho0 hi hmu hrl hlast (by omega) hW h2 t h3 h4 _ rfl
        · cases ho : Mp.get H.objs t with
          | none => rw [if_pos ⟨h4, rfl⟩]; exact cons_none h cls hs (by omega) hW h2 t h3 h4 ho
          | some o =>
            rw [if_neg (fun e => by cases e.2), if_neg h4]
            by_cases h5 : o.kind = 3
            · rw [if_neg (fun e => e.2 (by rw [Option.map_some, h5]))]
              exact cons_okt h cls ho0 hi hmu hrl hlast (by omega) hW h2 t h3 h4 ho h5 _ rfl
            · rw [if_pos ⟨h4, fun e => h5 (by rw [Option.map_some] at e; injection e)⟩]
              exact cons_kind h cls hs (by omega) hW h2 t h3 h4 ho h5
end Go.Proofs.Ytodfpclekihbhaa

