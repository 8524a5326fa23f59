/- Cons: the model, add behind other steps, errors. -/
import Derived.Test.YtodfpclekihbhaaG11
namespace Go.Proofs.Ytodfpclekihbhaa
open Go.RowKit Go.Shelf
set_option maxRecDepth 8000

variable {w : World} {hb : Nat} {A : HA} {H : Hp} {S : Nat → Prop}
theorem fitsAll_zero {H : Hp} {refs : List Bool} {front : List Wd} (h : fitsAll H refs front = 0) (j : Nat) (h1 : j < refs.length) (h2 : j < front.length) : fitsH H (refs[j]'h1) (front[j]'h2) = 0 := by
  induction refs generalizing front j with
  | nil => exact absurd h1 (Nat.not_lt_zero _)
  | cons b bs ih =>
    cases front with
    | nil => exact absurd h2 (Nat.not_lt_zero _)
    | cons v vs =>
      unfold fitsAll at h
      by_cases e : fitsH H b v = 0
      · rw [if_neg (by simpa using e)] at h
        cases j with
        | zero => exact e
        | succ j => exact ih h j (by simpa using h1) (by simpa using h2)
      · rw [if_pos e] at h; exact absurd h e
theorem fitsAll_err {H : Hp} {refs : List Bool} {front : List Wd} {n : Int} (h : fitsAll H refs front = n) (hn : n ≠ 0) : ∃ (j : Nat) (h1 : j < refs.length) (h2 : j < front.length), fitsH H (refs[j]'h1) (front[j]'h2) = n ∧ ∀ i (h3 : i < j), fitsH H (refs[i]'(Nat.lt_trans h3 h1)) (front[i]'(Nat.lt_trans h3 h2)) = 0 := by
  induction refs generalizing front with
  | nil => exact absurd h.symm hn
  | cons b bs ih =>
    cases front with
    | nil => exact absurd h.symm hn
    | cons v vs =>
      unfold fitsAll at h
      by_cases e : fitsH H b v = 0
      · rw [if_neg (by simpa using e)] at h
        obtain ⟨j, h1, h2, h3, h4⟩ := ih h
        refine ⟨j + 1, by simpa using h1, by simpa using h2, h3, fun i hi => ?_⟩
        cases i with
        | zero => exact e
        | succ i => exact h4 i (by omega)
      · rw [if_pos e] at h
        exact ⟨0, by simp, by simp, h, fun i hi => absurd hi (Nat.not_lt_zero _)⟩
/-- After some notes. -/
structure NI (H : Hp) (ts : List Int) (j : Nat) (G : Hp) : Prop where
  inv : Inv G (ts.take j).reverse
  sub : Sub H G
  mu : muH G = muH H
  rows : G.rows = H.rows
  mem : ∀ x ∈ ts, x = 0 ∨ Mp.get G.objs x ≠ none
  eq : G = (ts.take j).foldl noteH H
theorem NI.start {H : Hp} {ts : List Int} (hi : Inv H []) (hm : ∀ x ∈ ts, x = 0 ∨ Mp.get H.objs x ≠ none) : NI H ts 0 H := ⟨by simpa using hi, Sub.refl _, rfl, rfl, hm, rfl⟩
theorem NI.step {H : Hp} {ts : List Int} {j : Nat} {G : Hp} (h : NI H ts j G) (hj : j < ts.length) : NI H ts (j + 1) (noteH G (ts[j]'hj)) := by
  have hx := h.mem _ (List.getElem_mem hj)
  have e := List.take_succ_eq_append_getElem hj
  generalize ts[j]'hj = x at *
  refine ⟨?_, (h.sub.trans (Sub.refer G x)).trans (Sub.see _ x), by unfold noteH; rw [mu_see, mu_refer]; exact h.mu, by unfold noteH; rw [seeH_rows, referH_rows]; exact h.rows, ?_, by rw [e, List.foldl_append, ← h.eq]; rfl⟩
  · rw [e, List.reverse_append]
    exact (h.inv.referH hx).see x
  · intro z hz
    refine (h.mem z hz).imp id fun e => ?_
    unfold noteH
    rw [seeH_objs]
    exact get_referH_ne _ e
/-- add, for an object with a row of its own, where the heap has been worked on. -/
theorem addNew_st {W : World} {B : Nat} {st0 : List Int} (h : HpAt W hb A H S) (hlt : ∀ k, S k → k < B) (hi : Inv H st0) (hk : ∀ r o, Mp.get H.objs r = some o → o.row ≤ H.last) (hn : H.last ≤ 1000000) (o : Ob) (x : Rw) (ho : o.row = H.last + 1) (hrc : o.rc = 0) (hx : x.isA = false)
    (nb : Nat) (hnb : B ≤ nb) (wa : Option Addr) (wc st : Nat) (sa : Option Addr) (sc : Nat) (hW : WordsAt W wa wc x.words) (hwa : ∀ a, wa = some a → B ≤ a.block)
    (hB : W.heap[nb]? = some (.cells (newC o wa sa wc sc st x.words.length) 104 (0, 0))) (hs : ShpAt W sa o.refs) (hsa : ∀ k, shpB sa o.refs k → S k ∨ B ≤ k) :
    Calls Try.prog 55 #[.pointer (some ⟨hb, 0, none⟩), .pointer (some ⟨nb, 0, none⟩)] W fun e w' => e = .returned (.int .i64 ((H.last : Int) + 1)) ∧
      HpAt w' hb ((A.addR ((H.last : Int) + 1) wa wc st).addO ((H.last : Int) + 1) nb sa sc) (addH (newRow H x) o) (fun k => (S k ∨ LB wa k) ∨ k = nb ∨ shpB sa o.refs k) ∧ (∀ k, ((S k ∨ LB wa k) ∨ k = nb ∨ shpB sa o.refs k) → S k ∨ B ≤ k) ∧ Mut (fun k => S k ∨ LB wa k ∨ k = nb) W w' := by
  have hk1 : ∀ r o, Mp.get H.objs r = some o → o.row ≠ (H.last : Int) + 1 := fun r o ho => by have := hk r o ho; omega
  have hr := not_row_fresh hi hk
  have hp := h.addRow hr hk1 x hx wa wc st hW fun a ha hSa => by
    have := hlt _ hSa
    have := hwa a ha
    omega
  obtain ⟨s1, s2, s3⟩ := addR_self A ((H.last : Int) + 1) wa wc st
  have ef := (fresh_of hi).1
  have hwne : ∀ a, wa = some a → a.block ≠ nb := fun a ha => by
    obtain ⟨cs, hcs, _⟩ := row_blk hW a ha
    exact ne_ty hcs hB (by decide)
  refine (add_calls hp ef o nb sa sc ?_ (x := x) ?_ hn ?_ hs).mono ?_
  · rintro (h1 | ⟨a, ha, e⟩)
    · have := hlt _ h1; omega
    · exact hwne a ha e
  · show Mp.get (Mp.put H.rows ((H.last : Int) + 1) x) o.row = some x
    rw [Mp.get_put, if_pos ho]
  · rw [hB]
    congr 2
    show newC o wa sa wc sc st x.words.length = obC0 ((A.addR ((H.last : Int) + 1) wa wc st).addO ((H.last : Int) + 1) nb sa sc) ((H.last : Int) + 1) o x.words.length
    unfold newC obC0 obC HA.wF HA.pF HA.addO
    simp only [ho, if_true, hrc, s1, s2, s3]
  · rintro e w' ⟨h1, h2, h3⟩
    have hT : ∀ k, ((S k ∨ LB wa k) ∨ k = nb) → S k ∨ B ≤ k := by
      rintro k ((h4 | ⟨a, ha, rfl⟩) | rfl)
      · exact .inl h4
      · exact .inr (hwa a ha)
      · exact .inr hnb
    refine ⟨h1, h2, ?_, h3.mono fun k hk => .inl (by rcases hk with (h4 | h4) | h4; exact .inl h4; exact .inr (.inl h4); exact .inr (.inr h4))⟩
    rintro k (h4 | rfl | h4)
    · exact hT k (.inl h4)
    · exact .inr hnb
    · exact hsa k h4
theorem cons_long (h : HpAt w hb A H S) (cls : Int) (ad : Option Addr) (n C : Nat) (hn : 256 < n) (fd : Option Addr) (m FC : Nat) (t : Int) : Calls Try.prog 30 #[.pointer (some ⟨hb, 0, none⟩), .agg #[.int .i64 cls, .slice ad n C], .slice fd m FC, .int .i64 t] w (MkPost w hb S (H, 0, 3)) := by
  have HH := Lib.hid h
  have k1 : (256 : Int) < (n : Int) := by omega
  clear h hn
  go_enter Try.func30, Try.ntmps30
  go_wp2
  all_goals go_ret2
  all_goals exact MkPost.err HH.out 3 (((Below.refl _ _).alloc (Nat.le_refl _) _).alloc (by simp) _)
theorem cons_len (h : HpAt w hb A H S) (cls : Int) (ad : Option Addr) (n C : Nat) (hn : n ≤ 256) (fd : Option Addr) (m FC : Nat) (hm : m ≠ n) (hm2 : m ≤ 100000000) (t : Int) : Calls Try.prog 30 #[.pointer (some ⟨hb, 0, none⟩), .agg #[.int .i64 cls, .slice ad n C], .slice fd m FC, .int .i64 t] w (MkPost w hb S (H, 0, 14)) := by
  have HH := Lib.hid h
  have k1 : ¬ (256 : Int) < (n : Int) := by omega
  have k2 : (m != n) = !false := by simpa using hm
  have k3 : ((m : Int) != (n : Int)) = !false := (bne_iff_ne (a := (m : Int)) (b := (n : Int))).2 (by omega)
  clear h hn hm
  go_enter Try.func30, Try.ntmps30
  go_wp2
  all_goals go_ret2
  all_goals exact MkPost.err HH.out 14 (((Below.refl _ _).alloc (Nat.le_refl _) _).alloc (by simp) _)
set_option maxHeartbeats 2000000 in
theorem cons_fits (h : HpAt w hb A H S) (cls : Int) {ad : Option Addr} {C : Nat} {refs : List Bool} (hs : BoolsAt w ad refs) (hn : refs.length ≤ 256) {fd : Option Addr} {FC : Nat} {front : List Wd} (hW : WordsAt w fd FC front) (hm : front.length = refs.length) (t : Int) {n : Int} (hf : fitsAll H refs front = n) (h0 : n ≠ 0) :
    Calls Try.prog 30 #[.pointer (some ⟨hb, 0, none⟩), .agg #[.int .i64 cls, .slice ad refs.length C], .slice fd front.length FC, .int .i64 t] w (MkPost w hb S (H, 0, n)) := by
  obtain ⟨J, hJ1, hJ2, hJ3, hJ4⟩ := fitsAll_err hf h0
  have k4 : (n == 0) = false := by simpa using h0
  have HJ3 := Lib.hid hJ3
  have HJ4 := Lib.hid hJ4
  have HH := Lib.hid h
  have HS := Lib.hid hs
  have HW := Lib.hid hW
  have k1 : ¬ (256 : Int) < (refs.length : Int) := by omega
  have HM := Lib.hid hm
  rw [← hm] at k1
  have q2 : front.length ≤ 256 := by omega
  have HB0 : Hid (Below w.heap.size w ((w.alloc (.cells #[.pointer (some ⟨hb, 0, none⟩)] 24)).alloc (.cells #[.int .i64 cls, .slice ad front.length C] 32))) := Lib.hid (((Below.refl _ _).alloc (Nat.le_refl _) _).alloc (by simp) _)
  obtain ⟨K0, K1⟩ := heap2 w (.cells #[.pointer (some ⟨hb, 0, none⟩)] 24) (.cells #[.int .i64 cls, .slice ad front.length C] 32)
  have HK0 := Lib.hid K0
  have HK1 := Lib.hid K1
  clear K0 K1 h hs hW hm hn hf h0 hJ3 hJ4
  rw [← HM.out]
  go_enter Try.func30, Try.ntmps30
  go_wp2
  go_loopw [33] (fun p wr => ∃ j : Nat, j ≤ J ∧ p = .int .i64 j ∧ Hid (Below ((w.alloc (.cells #[.pointer (some ⟨hb, 0, none⟩)] 24)).alloc (.cells #[.int .i64 cls, .slice ad front.length C] 32)).heap.size ((w.alloc (.cells #[.pointer (some ⟨hb, 0, none⟩)] 24)).alloc (.cells #[.int .i64 cls, .slice ad front.length C] 32)) wr)) (fun i _ => front.length - (intOf i).toNat)
  case atStart => exact ⟨0, Nat.zero_le _, rfl, Lib.hid (Below.refl _ _)⟩
  case round =>
    obtain ⟨j, hj, rfl, HJ⟩ := hrel
    have HB1 : Hid (Below w.heap.size w wr) := Lib.hid (HB0.out.trans (HJ.out.mono HB0.out.size))
    have b0 := cell_of_heap (v := .pointer (some ⟨hb, 0, none⟩)) ((HJ.out.block _ (lt_of_heap HK0.out)).trans HK0.out) (j := 0) rfl
    have b1 := cell_of_heap (v := .int .i64 cls) ((HJ.out.block _ (lt_of_heap HK1.out)).trans HK1.out) (j := 0) rfl
    have b2 := cell_of_heap (v := .slice ad front.length C) ((HJ.out.block _ (lt_of_heap HK1.out)).trans HK1.out) (j := 1) rfl
    have hz0 : w.heap.size < wr.heap.size := lt_of_cell b0
    have hz1 : w.heap.size + 1 < wr.heap.size := lt_of_cell b1
    by_cases hlt : j < J
    · have hjf : j < front.length := Nat.lt_trans hlt hJ2
      have hW1 : WordsAt wr fd FC front := own_mut2 HW.out (Mut.of_below (S := fun _ => False) HB1.out) fun _ _ h => h
      obtain ⟨gc, hfd, hgc, hCC, hfc, c0, c1⟩ := hW1.cell j hjf
      have q0 : (0 : Int) ≤ (j : Int) := by omega
      have q1 : (j : Int) < (front.length : Int) := by omega
      have hfit : fitsH H (refs[j]'(Nat.lt_trans hlt hJ1)) (front[j]'hjf) = 0 := HJ4.out j hlt
      rw [hfd]
      have hjr : j < refs.length := by rw [← HM.out]; exact hjf
      generalize front[j]'hjf = v at *
      obtain ⟨num, ref⟩ := v
      have c0' : wr.cell? ⟨gc, j * 2, none⟩ = some (.int .i64 num) := c0
      have c1' : wr.cell? ⟨gc, j * 2 + 1, none⟩ = some (.int .i64 ref) := c1
      have HBA : Hid (Below w.heap.size w (wr.alloc (.cells #[.int .i64 num, .int .i64 ref] 42)) ∧ Below wr.heap.size wr (wr.alloc (.cells #[.int .i64 num, .int .i64 ref] 42))) := Lib.hid ⟨HB1.out.trans ((Below.refl _ _).alloc HB1.out.size _), (Below.refl _ _).alloc (Nat.le_refl _) _⟩
      have hcall := fits_calls (HH.out.below HBA.out.1) cls C (HS.out.below HBA.out.1) j hjr num ref
      rw [hfit, ← HM.out] at hcall
      have HCALL := Lib.hid hcall
      clear hcall hW1 hfd c0 c1 hfit
      go_wp2_with (go_at_call 65; refine HCALL.out.mono ?_; rintro e w5 ⟨rfl, hb5⟩; have HB5 := Lib.hid (HBA.out.2.trans (hb5.mono HBA.out.2.size)); clear hb5)
      go_roundw
      case rel => exact ⟨j + 1, by omega, by go_num, Lib.hid (HJ.out.trans (HB5.out.mono HJ.out.size))⟩
      case measure => simp [intOf]; omega
    · obtain rfl : j = J := by omega
      have hW1 : WordsAt wr fd FC front := own_mut2 HW.out (Mut.of_below (S := fun _ => False) HB1.out) fun _ _ h => h
      obtain ⟨gc, hfd, hgc, hCC, hfc, c0, c1⟩ := hW1.cell j hJ2
      have q0 : (0 : Int) ≤ (j : Int) := by omega
      have q1 : (j : Int) < (front.length : Int) := by omega
      have hfit : fitsH H (refs[j]'hJ1) (front[j]'hJ2) = n := HJ3.out
      rw [hfd]
      have hjr : j < refs.length := by rw [← HM.out]; exact hJ2
      generalize front[j]'hJ2 = v at *
      obtain ⟨num, ref⟩ := v
      have c0' : wr.cell? ⟨gc, j * 2, none⟩ = some (.int .i64 num) := c0
      have c1' : wr.cell? ⟨gc, j * 2 + 1, none⟩ = some (.int .i64 ref) := c1
      have HBA : Hid (Below w.heap.size w (wr.alloc (.cells #[.int .i64 num, .int .i64 ref] 42)) ∧ Below wr.heap.size wr (wr.alloc (.cells #[.int .i64 num, .int .i64 ref] 42))) := Lib.hid ⟨HB1.out.trans ((Below.refl _ _).alloc HB1.out.size _), (Below.refl _ _).alloc (Nat.le_refl _) _⟩
      have hcall := fits_calls (HH.out.below HBA.out.1) cls C (HS.out.below HBA.out.1) j hjr num ref
      rw [hfit, ← HM.out] at hcall
      have HCALL := Lib.hid hcall
      clear hcall hW1 hfd c0 c1 hfit
      go_wp2_with (go_at_call 65; refine HCALL.out.mono ?_; rintro e w5 ⟨rfl, hb5⟩; have HB5 := Lib.hid (HBA.out.2.trans (hb5.mono HBA.out.2.size)); clear hb5)
      go_ret2
      exact MkPost.err HH.out n (HB1.out.trans (HB5.out.mono HB1.out.size))
set_option maxHeartbeats 2000000 in
theorem cons_none (h : HpAt w hb A H S) (cls : Int) {ad : Option Addr} {C : Nat} {refs : List Bool} (hs : BoolsAt w ad refs) (hn : refs.length ≤ 256) {fd : Option Addr} {FC : Nat} {front : List Wd} (hW : WordsAt w fd FC front) (hm : front.length = refs.length) (t : Int) (hf : fitsAll H refs front = 0) (h0 : t ≠ 0) (ho : Mp.get H.objs t = none) :
    Calls Try.prog 30 #[.pointer (some ⟨hb, 0, none⟩), .agg #[.int .i64 cls, .slice ad refs.length C], .slice fd front.length FC, .int .i64 t] w (MkPost w hb S (H, 0, 4)) := by
  have k4 : (t != 0) = !false := by simpa using h0
  have k5 : (t == 0) = false := by simpa using h0
  have HF := Lib.hid (fun (j : Nat) (h1 : j < refs.length) (h2 : j < front.length) => fitsAll_zero hf j h1 h2)
  have HO := Lib.hid ho
  have HH := Lib.hid h
  have HS := Lib.hid hs
  have HW := Lib.hid hW
  have k1 : ¬ (256 : Int) < (refs.length : Int) := by omega
  have HM := Lib.hid hm
  rw [← hm] at k1
  have q2 : front.length ≤ 256 := by omega
  have HB0 : Hid (Below w.heap.size w ((w.alloc (.cells #[.pointer (some ⟨hb, 0, none⟩)] 24)).alloc (.cells #[.int .i64 cls, .slice ad front.length C] 32))) := Lib.hid (((Below.refl _ _).alloc (Nat.le_refl _) _).alloc (by simp) _)
  obtain ⟨K0, K1⟩ := heap2 w (.cells #[.pointer (some ⟨hb, 0, none⟩)] 24) (.cells #[.int .i64 cls, .slice ad front.length C] 32)
  have HK0 := Lib.hid K0
  have HK1 := Lib.hid K1
  clear K0 K1 h hs hW hm hn hf h0 ho
  rw [← HM.out]
  go_enter Try.func30, Try.ntmps30
  go_wp2
  go_loopw [33] (fun p wr => ∃ j : Nat, j ≤ front.length ∧ p = .int .i64 j ∧ Hid (Below ((w.alloc (.cells #[.pointer (some ⟨hb, 0, none⟩)] 24)).alloc (.cells #[.int .i64 cls, .slice ad front.length C] 32)).heap.size ((w.alloc (.cells #[.pointer (some ⟨hb, 0, none⟩)] 24)).alloc (.cells #[.int .i64 cls, .slice ad front.length C] 32)) wr)) (fun i _ => front.length - (intOf i).toNat)
  case atStart => exact ⟨0, Nat.zero_le _, rfl, Lib.hid (Below.refl _ _)⟩
  case round =>
    obtain ⟨j, hj, rfl, HJ⟩ := hrel
    have HB1 : Hid (Below w.heap.size w wr) := Lib.hid (HB0.out.trans (HJ.out.mono HB0.out.size))
    have b0 := cell_of_heap (v := .pointer (some ⟨hb, 0, none⟩)) ((HJ.out.block _ (lt_of_heap HK0.out)).trans HK0.out) (j := 0) rfl
    have b1 := cell_of_heap (v := .int .i64 cls) ((HJ.out.block _ (lt_of_heap HK1.out)).trans HK1.out) (j := 0) rfl
    have b2 := cell_of_heap (v := .slice ad front.length C) ((HJ.out.block _ (lt_of_heap HK1.out)).trans HK1.out) (j := 1) rfl
    have hz0 : w.heap.size < wr.heap.size := lt_of_cell b0
    have hz1 : w.heap.size + 1 < wr.heap.size := lt_of_cell b1
    by_cases hlt : j < front.length
    · have hjr0 : j < refs.length := by rw [← HM.out]; exact hlt
      have hW1 : WordsAt wr fd FC front := own_mut2 HW.out (Mut.of_below (S := fun _ => False) HB1.out) fun _ _ h => h
      obtain ⟨gc, hfd, hgc, hCC, hfc, c0, c1⟩ := hW1.cell j hlt
      have q0 : (0 : Int) ≤ (j : Int) := by omega
      have q1 : (j : Int) < (front.length : Int) := by omega
      have hfit : fitsH H (refs[j]'hjr0) (front[j]'hlt) = 0 := HF.out j hjr0 hlt
      rw [hfd]
      have hjr : j < refs.length := by rw [← HM.out]; exact hlt
      generalize front[j]'hlt = v at *
      obtain ⟨num, ref⟩ := v
      have c0' : wr.cell? ⟨gc, j * 2, none⟩ = some (.int .i64 num) := c0
      have c1' : wr.cell? ⟨gc, j * 2 + 1, none⟩ = some (.int .i64 ref) := c1
      have HBA : Hid (Below w.heap.size w (wr.alloc (.cells #[.int .i64 num, .int .i64 ref] 42)) ∧ Below wr.heap.size wr (wr.alloc (.cells #[.int .i64 num, .int .i64 ref] 42))) := Lib.hid ⟨HB1.out.trans ((Below.refl _ _).alloc HB1.out.size _), (Below.refl _ _).alloc (Nat.le_refl _) _⟩
      have hcall := fits_calls (HH.out.below HBA.out.1) cls C (HS.out.below HBA.out.1) j hjr num ref
      rw [hfit, ← HM.out] at hcall
      have HCALL := Lib.hid hcall
      clear hcall hW1 hfd c0 c1 hfit
      go_wp2_with (go_at_call 65; refine HCALL.out.mono ?_; rintro e w5 ⟨rfl, hb5⟩; have HB5 := Lib.hid (HBA.out.2.trans (hb5.mono HBA.out.2.size)); clear hb5)
      go_roundw
      case rel => exact ⟨j + 1, by omega, by go_num, Lib.hid (HJ.out.trans (HB5.out.mono HJ.out.size))⟩
      case measure => simp [intOf]; omega
    · obtain rfl : j = front.length := by omega
      clear hlt hj
      go_wp2_with (go_at_call 57; refine (find_none (HH.out.below HB1.out) HO.out).mono ?_; rintro e w6 ⟨rfl, rfl⟩)
      all_goals go_ret2
      all_goals exact MkPost.err HH.out 4 HB1.out
set_option maxHeartbeats 2000000 in
theorem cons_kind (h : HpAt w hb A H S) (cls : Int) {ad : Option Addr} {C : Nat} {refs : List Bool} (hs : BoolsAt w ad refs) (hn : refs.length ≤ 256) {fd : Option Addr} {FC : Nat} {front : List Wd} (hW : WordsAt w fd FC front) (hm : front.length = refs.length) (t : Int) (hf : fitsAll H refs front = 0) (h0 : t ≠ 0) {o : Ob} (ho : Mp.get H.objs t = some o) (hk : o.kind ≠ 3) :
    Calls Try.prog 30 #[.pointer (some ⟨hb, 0, none⟩), .agg #[.int .i64 cls, .slice ad refs.length C], .slice fd front.length FC, .int .i64 t] w (MkPost w hb S (H, 0, 13)) := by
  have k4 : (t != 0) = !false := by simpa using h0
  have k5 : (t == 0) = false := by simpa using h0
  have k6 : (o.kind != 3) = !false := by simpa using hk
  have HF := Lib.hid (fun (j : Nat) (h1 : j < refs.length) (h2 : j < front.length) => fitsAll_zero hf j h1 h2)
  have HO := Lib.hid ho
  have HH := Lib.hid h
  have HS := Lib.hid hs
  have HW := Lib.hid hW
  have k1 : ¬ (256 : Int) < (refs.length : Int) := by omega
  have HM := Lib.hid hm
  rw [← hm] at k1
  have q2 : front.length ≤ 256 := by omega
  have HB0 : Hid (Below w.heap.size w ((w.alloc (.cells #[.pointer (some ⟨hb, 0, none⟩)] 24)).alloc (.cells #[.int .i64 cls, .slice ad front.length C] 32))) := Lib.hid (((Below.refl _ _).alloc (Nat.le_refl _) _).alloc (by simp) _)
  obtain ⟨K0, K1⟩ := heap2 w (.cells #[.pointer (some ⟨hb, 0, none⟩)] 24) (.cells #[.int .i64 cls, .slice ad front.length C] 32)
  have HK0 := Lib.hid K0
  have HK1 := Lib.hid K1
  clear K0 K1 h hs hW hm hn hf h0 ho hk
  rw [← HM.out]
  go_enter Try.func30, Try.ntmps30
  go_wp2
  go_loopw [33] (fun p wr => ∃ j : Nat, j ≤ front.length ∧ p = .int .i64 j ∧ Hid (Below ((w.alloc (.cells #[.pointer (some ⟨hb, 0, none⟩)] 24)).alloc (.cells #[.int .i64 cls, .slice ad front.length C] 32)).heap.size ((w.alloc (.cells #[.pointer (some ⟨hb, 0, none⟩)] 24)).alloc (.cells #[.int .i64 cls, .slice ad front.length C] 32)) wr)) (fun i _ => front.length - (intOf i).toNat)
  case atStart => exact ⟨0, Nat.zero_le _, rfl, Lib.hid (Below.refl _ _)⟩
  case round =>
    obtain ⟨j, hj, rfl, HJ⟩ := hrel
    have HB1 : Hid (Below w.heap.size w wr) := Lib.hid (HB0.out.trans (HJ.out.mono HB0.out.size))
    have b0 := cell_of_heap (v := .pointer (some ⟨hb, 0, none⟩)) ((HJ.out.block _ (lt_of_heap HK0.out)).trans HK0.out) (j := 0) rfl
    have b1 := cell_of_heap (v := .int .i64 cls) ((HJ.out.block _ (lt_of_heap HK1.out)).trans HK1.out) (j := 0) rfl
    have b2 := cell_of_heap (v := .slice ad front.length C) ((HJ.out.block _ (lt_of_heap HK1.out)).trans HK1.out) (j := 1) rfl
    have hz0 : w.heap.size < wr.heap.size := lt_of_cell b0
    have hz1 : w.heap.size + 1 < wr.heap.size := lt_of_cell b1
    by_cases hlt : j < front.length
    · have hjr0 : j < refs.length := by rw [← HM.out]; exact hlt
      have hW1 : WordsAt wr fd FC front := own_mut2 HW.out (Mut.of_below (S := fun _ => False) HB1.out) fun _ _ h => h
      obtain ⟨gc, hfd, hgc, hCC, hfc, c0, c1⟩ := hW1.cell j hlt
      have q0 : (0 : Int) ≤ (j : Int) := by omega
      have q1 : (j : Int) < (front.length : Int) := by omega
      have hfit : fitsH H (refs[j]'hjr0) (front[j]'hlt) = 0 := HF.out j hjr0 hlt
      rw [hfd]
      have hjr : j < refs.length := by rw [← HM.out]; exact hlt
      generalize front[j]'hlt = v at *
      obtain ⟨num, ref⟩ := v
      have c0' : wr.cell? ⟨gc, j * 2, none⟩ = some (.int .i64 num) := c0
      have c1' : wr.cell? ⟨gc, j * 2 + 1, none⟩ = some (.int .i64 ref) := c1
      have HBA : Hid (Below w.heap.size w (wr.alloc (.cells #[.int .i64 num, .int .i64 ref] 42)) ∧ Below wr.heap.size wr (wr.alloc (.cells #[.int .i64 num, .int .i64 ref] 42))) := Lib.hid ⟨HB1.out.trans ((Below.refl _ _).alloc HB1.out.size _), (Below.refl _ _).alloc (Nat.le_refl _) _⟩
      have hcall := fits_calls (HH.out.below HBA.out.1) cls C (HS.out.below HBA.out.1) j hjr num ref
      rw [hfit, ← HM.out] at hcall
      have HCALL := Lib.hid hcall
      clear hcall hW1 hfd c0 c1 hfit
      go_wp2_with (go_at_call 65; refine HCALL.out.mono ?_; rintro e w5 ⟨rfl, hb5⟩; have HB5 := Lib.hid (HBA.out.2.trans (hb5.mono HBA.out.2.size)); clear hb5)
      go_roundw
      case rel => exact ⟨j + 1, by omega, by go_num, Lib.hid (HJ.out.trans (HB5.out.mono HJ.out.size))⟩
      case measure => simp [intOf]; omega
    · obtain rfl : j = front.length := by omega
      clear hlt hj
      obtain ⟨d0, _⟩ := (HH.out.below HB1.out).ocells HO.out
      go_wp2_with (go_at_call 57; refine (find_some (HH.out.below HB1.out) HO.out).mono ?_; rintro e w6 ⟨rfl, rfl⟩)
      all_goals go_ret2
      all_goals exact MkPost.err HH.out 13 HB1.out
end Go.Proofs.Ytodfpclekihbhaa

