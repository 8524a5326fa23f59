/- RegexAlgebra: the walk. -/
import Derived.Test.YtcajnmhbkjngbaaG25
namespace Go.Proofs.Ytcajnmhbkjngbaa
open Go.RowKit Go.Shelf
set_option maxRecDepth 100000

theorem hasB_app (p q : ByteArray) (c : UInt8) : hasB (p ++ q) c = (hasB p c || hasB q c) := by
  rw [Bool.eq_iff_iff, Bool.or_eq_true, hasB_iff, hasB_iff, hasB_iff]
  simp [ByteArray.data_append]
def arr4 (rs : List Nat) : Array Value := (rs.map (fun r => Value.pointer (some ⟨r, 0, none⟩)) ++ List.replicate (4 - rs.length) (Value.pointer none)).toArray
/-- What the law keeps. -/
structure AW (w W : World) (ra rb : Nat) (p q : ByteArray) (n m : Nd) (ta tb : Nat) (lb : Nat) (rs : List Nat) (NN : List (List Nd)) : Prop where
  a : Rg W ra p n ta
  b : Rg W rb q m tb
  l : W.heap[lb]? = some (.cells (arr4 rs) 68 (0, 0))
  r : ∀ j (hj : j < rs.length), ∃ s t, Rg W rs[j] s (.alt (NN.getD j [])) t
  bel : Below w.heap.size w W
  le : w.heap.size ≤ lb
variable {w W W' : World} {ra rb ta tb lb : Nat} {p q : ByteArray} {n m : Nd} {rs : List Nat} {NN : List (List Nd)}
theorem AW.below (h : AW w W ra rb p q n m ta tb lb rs NN) (hb : Below W.heap.size W W') : AW w W' ra rb p q n m ta tb lb rs NN :=
  ⟨h.a.below hb, h.b.below hb, (hb.block _ (lt_of_heap h.l)).trans h.l, fun j hj => by obtain ⟨s, t, h1⟩ := h.r j hj; exact ⟨s, t, h1.below hb⟩, h.bel.trans (hb.mono h.bel.size), h.le⟩
theorem arr4_put {rs : List Nat} (h : rs.length < 4) (r : Nat) : (arr4 rs).setIfInBounds rs.length (.pointer (some ⟨r, 0, none⟩)) = arr4 (rs ++ [r]) := by
  unfold arr4
  apply Array.ext'
  simp only [Array.toList_setIfInBounds]
  rw [List.set_append_right _ _ (by simp)]
  simp only [List.length_map, Nat.sub_self, List.map_append, List.map_cons, List.map_nil, List.length_append, List.length_singleton, List.append_assoc]
  obtain ⟨k, hk⟩ : ∃ k, 4 - rs.length = k + 1 := ⟨4 - rs.length - 1, by omega⟩
  rw [hk, List.replicate_succ, List.set_cons_zero, show 4 - (rs.length + 1) = k by omega]
  rfl
theorem AW.put (h : AW w W ra rb p q n m ta tb lb rs NN) (hl : rs.length < 4) {r : Nat} {s : ByteArray} {t : Nat} (hr : Rg W r s (.alt (NN.getD rs.length [])) t) :
    AW w (W.setCell ⟨lb, rs.length, none⟩ (.pointer (some ⟨r, 0, none⟩))) ra rb p q n m ta tb lb (rs ++ [r]) NN := by
  have hm : Mut (· = lb) W (W.setCell ⟨lb, rs.length, none⟩ (.pointer (some ⟨r, 0, none⟩))) := Mut.setCell _ _ _ _ rfl
  have hT : ∀ k, k = lb → ∃ cur ty fr, W.heap[k]? = some (.cells cur ty fr) ∧ ty ≠ 101 ∧ ty ≠ 99 ∧ ty ≠ 151 := fun k hk => by rw [hk]; exact ⟨_, _, _, h.l, by decide, by decide, by decide⟩
  refine ⟨h.a.mut hm hT, h.b.mut hm hT, ?_, fun j hj => ?_, h.bel.trans (hm.to_below h.bel.size fun k hk => by rw [hk]; exact h.le), h.le⟩
  · rw [heap_setCell_same W lb rs.length _ _ _ h.l, arr4_put hl]
  · by_cases hjl : j < rs.length
    · obtain ⟨s', t', h1⟩ := h.r j hjl
      rw [List.getElem_append_left hjl]
      exact ⟨s', t', h1.mut hm hT⟩
    · rw [List.length_append, List.length_singleton] at hj
      have : j = rs.length := by omega
      subst this
      rw [List.getElem_append_right (Nat.le_refl _)]
      simp only [Nat.sub_self, List.getElem_cons_zero]
      exact ⟨s, t, hr.mut hm hT⟩
theorem arr4_size {rs : List Nat} (h : rs.length ≤ 4) : (arr4 rs).size = 4 := by
  unfold arr4
  simp
  omega
theorem arr4_get {rs : List Nat} (h : rs.length < 4) : (arr4 rs)[rs.length]? = some (.pointer none) := by
  unfold arr4
  rw [List.getElem?_toArray, List.getElem?_append_right (by simp)]
  obtain ⟨k, hk⟩ : ∃ k, 4 - rs.length = k + 1 := ⟨4 - rs.length - 1, by omega⟩
  rw [hk, List.replicate_succ, List.length_map, Nat.sub_self]
  rfl
/-- What Whole answers. -/
noncomputable def wB (l : List Int) (n : Nd) : Bool := open Classical in decide (Mt l n 0 l.length)
open Classical in
theorem wB_iff {l : List Int} {n : Nd} : wB l n = true ↔ Mt l n 0 l.length := by unfold wB; exact decide_eq_true_iff
theorem wB_eq {l : List Int} {n m : Nd} (h : Mt l n 0 l.length ↔ Mt l m 0 l.length) : wB l n = wB l m := by
  rw [Bool.eq_iff_iff, wB_iff, wB_iff]; exact h
theorem whole_b {W : World} {r : Nat} {s : ByteArray} {n : Nd} {t : Nat} (h : Rg W r s n t) {l : List Int} (hc : ChOk l) (hl : l.length ≤ 100000) :
    Calls Try.prog 15 #[.pointer (some ⟨r, 0, none⟩), strV l] W fun e w' => e = .returned (.bool (wB l n)) ∧ Below W.heap.size W w' :=
  (whole_is h hc hl).mono fun e w' ⟨⟨b, h1, h2⟩, h3⟩ => ⟨by rw [h1]; congr 2; rw [Bool.eq_iff_iff, wB_iff]; exact h2, h3⟩
open Classical in
/-- Whether a part is matched. -/
noncomputable def mB (l : List Int) (n : Nd) (a b : Nat) : Bool := decide (Mt l n a b)
open Classical in
theorem mB_iff {l : List Int} {n : Nd} {a b : Nat} : mB l n a b = true ↔ Mt l n a b := by unfold mB; exact decide_eq_true_iff
theorem Below.stp {W0 W W' : World} (h : Below W0.heap.size W0 W) (hb : Below W.heap.size W W') : Below W0.heap.size W0 W' := h.trans (hb.mono h.size)
theorem setB {W0 W : World} {b : Nat} (h : Below W0.heap.size W0 W) (hb : W0.heap.size ≤ b) (x y : Value) : Below W0.heap.size W0 ((W.setCell ⟨b, 0, none⟩ x).setCell ⟨b, 1, none⟩ y) :=
  h.trans (((Mut.setCell (S := (· = b)) _ _ _ _ rfl).then (Mut.setCell (S := (· = b)) _ _ _ _ rfl)).to_below h.size fun k hk => by omega)
theorem allB {W0 W : World} (h : Below W0.heap.size W0 W) (o : Obj) : Below W0.heap.size W0 (W.alloc o) := h.alloc h.size o
/-- What the law keeps behind its loop. -/
structure TW (w W : World) (ra rb : Nat) (n m : Nd) (lb r0 r1 r2 r3 xb : Nat) (N0 N1 N2 N3 : Nd) (str : ByteArray) (wide : Bool) : Prop where
  a : ∃ s t, Rg W ra s n t
  b : ∃ s t, Rg W rb s m t
  g0 : ∃ s t, Rg W r0 s N0 t
  g1 : ∃ s t, Rg W r1 s N1 t
  g2 : ∃ s t, Rg W r2 s N2 t
  g3 : ∃ s t, Rg W r3 s N3 t
  l : W.heap[lb]? = some (.cells #[.pointer (some ⟨r0, 0, none⟩), .pointer (some ⟨r1, 0, none⟩), .pointer (some ⟨r2, 0, none⟩), .pointer (some ⟨r3, 0, none⟩)] 68 (0, 0))
  x : W.heap[xb]? = some (.cells #[.string str, .bool wide] 39 (0, 0))
  bel : Below w.heap.size w W
theorem TW.below {w W W' : World} {ra rb : Nat} {n m : Nd} {lb r0 r1 r2 r3 xb : Nat} {N0 N1 N2 N3 : Nd} {str : ByteArray} {wide : Bool} (h : TW w W ra rb n m lb r0 r1 r2 r3 xb N0 N1 N2 N3 str wide) (hb : Below W.heap.size W W') : TW w W' ra rb n m lb r0 r1 r2 r3 xb N0 N1 N2 N3 str wide := by
  have g : ∀ {r : Nat} {N : Nd}, (∃ s t, Rg W r s N t) → ∃ s t, Rg W' r s N t := fun ⟨s, t, h⟩ => ⟨s, t, h.below hb⟩
  exact ⟨g h.a, g h.b, g h.g0, g h.g1, g h.g2, g h.g3, (hb.block _ (lt_of_heap h.l)).trans h.l, (hb.block _ (lt_of_heap h.x)).trans h.x, h.bel.trans (hb.mono h.bel.size)⟩
set_option maxHeartbeats 16000000 in
theorem law_algebra (p q s : ByteArray) (w : World) : Calls Try.prog 7 #[.string p, .string q, .string s] w fun e w' => e = .returned (.bool true) ∧ Below w.heap.size w w' := by
  have t1 : True := trivial
  have t2 : True := trivial
  have HAW := fun W => Lib.hid (awake37 W)
  have HSP := fun W => Lib.hid (small_is p s W)
  have HSQ := fun W => Lib.hid (small_is q s W)
  by_cases hsp : (decide (p.size ≤ 200) && decide (s.size ≤ 60)) = true
  · rw [hsp] at HSP
    by_cases hsq : (decide (q.size ≤ 200) && decide (s.size ≤ 60)) = true
    · rw [hsq] at HSQ
      have HSZ : Hid (p.size ≤ 200 ∧ q.size ≤ 200 ∧ s.size ≤ 60) := Lib.hid (by simp at hsp hsq; omega)
      clear hsp hsq
      cases hcp : compM p with
      | inl x =>
        obtain ⟨x, c⟩ := x
        have HCP := fun W => Lib.hid (compile_bad hcp W)
        have HCQ : ∀ W, Hid (Calls Try.prog 20 #[.string q] W fun e w' => (∃ rb x c, e = .returned (.tuple #[.pointer rb, .agg #[.int .i64 x, .int .i64 c]])) ∧ Below W.heap.size W w') := fun W => Lib.hid ((compile_calls q W).mono fun e w' ⟨hb, h⟩ => by
          cases hq : compM q with
          | inl y => rw [hq] at h; exact ⟨⟨_, _, _, h⟩, hb⟩
          | inr y => rw [hq] at h; obtain ⟨r, h1, _⟩ := h; exact ⟨⟨_, _, _, h1⟩, hb⟩)
        have hc0 : (c != 0) = true := by simpa using compM_code hcp
        clear hcp
        go_enter Try.func7, Try.ntmps7
        go_wp2_with (first
          | (go_at_call 10; refine (HAW _).out.mono ?_; rintro e w1 ⟨rfl, hb⟩; have HB1 := Lib.hid hb; clear hb)
          | (go_at_call 11; have _t := t1; clear _t; refine (HSP _).out.mono ?_; rintro e w2 ⟨rfl, rfl⟩; clear t1)
          | (go_at_call 11; refine (HSQ _).out.mono ?_; rintro e w2 ⟨rfl, rfl⟩)
          | (go_at_call 20; have _t := t2; clear _t; refine (HCP _).out.mono ?_; rintro e w3 ⟨rfl, hb⟩
             have HB3 : Hid (Below w.heap.size w (w3.alloc (.cells #[.int .i64 x, .int .i64 c] 30))) := Lib.hid ((HB1.out.trans (hb.mono HB1.out.size)).alloc (HB1.out.trans (hb.mono HB1.out.size)).size _)
             have HN3 := Lib.hid (heap_alloc_new w3 (.cells #[.int .i64 x, .int .i64 c] 30))
             clear hb t2)
          | (go_at_call 20; refine (HCQ _).out.mono ?_; rintro e w4 ⟨⟨rb, x', c', rfl⟩, hb⟩
             have hk := (hb.block _ (lt_of_heap HN3.out)).trans HN3.out
             have k0 := cell_of_heap (v := .int .i64 x) hk (j := 0) rfl
             have k1 := cell_of_heap (v := .int .i64 c) hk (j := 1) rfl
             have l0 := lt_of_heap hk
             have HB4 := Lib.hid (HB3.out.trans (hb.mono HB3.out.size))
             clear hb hk))
        go_ret
        exact ⟨rfl, HB4.out.alloc HB4.out.size _⟩
      | inr lt =>
        obtain ⟨L, ta⟩ := lt
        have HCP := fun W => Lib.hid (compile_ok hcp W)
        cases hcq : compM q with
        | inl x =>
          obtain ⟨x, c⟩ := x
          have HCQ := fun W => Lib.hid (compile_bad hcq W)
          have hc0 : (c != 0) = true := by simpa using compM_code hcq
          clear hcp hcq
          go_enter Try.func7, Try.ntmps7
          go_wp2_with (first
            | (go_at_call 10; refine (HAW _).out.mono ?_; rintro e w1 ⟨rfl, hb⟩; have HB1 := Lib.hid hb; clear hb)
            | (go_at_call 11; have _t := t1; clear _t; refine (HSP _).out.mono ?_; rintro e w2 ⟨rfl, rfl⟩; clear t1)
            | (go_at_call 11; refine (HSQ _).out.mono ?_; rintro e w2 ⟨rfl, rfl⟩)
            | (go_at_call 20; have _t := t2; clear _t; refine (HCP _).out.mono ?_; rintro e w3 ⟨⟨ra, rfl, hr⟩, hb⟩
               clear hr
               have HB3 : Hid (Below w.heap.size w (w3.alloc (.cells #[.int .i64 0, .int .i64 0] 30))) := Lib.hid ((HB1.out.trans (hb.mono HB1.out.size)).alloc (HB1.out.trans (hb.mono HB1.out.size)).size _)
               have HN3 := Lib.hid (heap_alloc_new w3 (.cells #[.int .i64 0, .int .i64 0] 30))
               clear hb t2)
            | (go_at_call 20; refine (HCQ _).out.mono ?_; rintro e w4 ⟨rfl, hb⟩
               have hk := (hb.block _ (lt_of_heap HN3.out)).trans HN3.out
               have k0 := cell_of_heap (v := .int .i64 0) hk (j := 0) rfl
               have k1 := cell_of_heap (v := .int .i64 0) hk (j := 1) rfl
               have l0 := lt_of_heap hk
               have HB4 := Lib.hid (HB3.out.trans (hb.mono HB3.out.size))
               clear hb hk))
          go_ret
          exact ⟨rfl, HB4.out.alloc HB4.out.size _⟩
        | inr lt =>
          obtain ⟨M, tb⟩ := lt
          have HCQ := fun W => Lib.hid (compile_ok hcq W)
          go_enter Try.func7, Try.ntmps7
          go_upto_region 9 with (first
            | (go_at_call 10; refine (HAW _).out.mono ?_; rintro e w1 ⟨rfl, hb⟩; have HB1 := Lib.hid hb; clear hb)
            | (go_at_call 11; have _t := t1; clear _t; refine (HSP _).out.mono ?_; rintro e w2 ⟨rfl, rfl⟩; clear t1)
            | (go_at_call 11; refine (HSQ _).out.mono ?_; rintro e w2 ⟨rfl, rfl⟩)
            | (go_at_call 20; have _t := t2; clear _t; refine (HCP _).out.mono ?_; rintro e w3 ⟨⟨ra, rfl, hr⟩, hb⟩
               have HRA := Lib.hid (hr.below (w' := w3.alloc (.cells #[.int .i64 0, .int .i64 0] 30)) ((Below.refl _ _).alloc (Nat.le_refl _) _))
               clear hr
               have HB3 : Hid (Below w.heap.size w (w3.alloc (.cells #[.int .i64 0, .int .i64 0] 30))) := Lib.hid ((HB1.out.trans (hb.mono HB1.out.size)).alloc (HB1.out.trans (hb.mono HB1.out.size)).size _)
               have HN3 := Lib.hid (heap_alloc_new w3 (.cells #[.int .i64 0, .int .i64 0] 30))
               clear hb t2)
            | (go_at_call 20; refine (HCQ _).out.mono ?_; rintro e w4 ⟨⟨rb, rfl, hr⟩, hb⟩
               have HRB := Lib.hid (And.intro (HRA.out.below hb) hr)
               clear hr
               have hk := (hb.block _ (lt_of_heap HN3.out)).trans HN3.out
               have k0 := cell_of_heap (v := .int .i64 0) hk (j := 0) rfl
               have k1 := cell_of_heap (v := .int .i64 0) hk (j := 1) rfl
               have l0 := lt_of_heap hk
               have HB4 := Lib.hid (HB3.out.trans (hb.mono HB3.out.size))
               clear hb hk))
          have HA5 : Hid (Rg (w4.alloc (.cells #[.int .i64 0, .int .i64 0] 30)) ra p (.alt L) ta ∧ Rg (w4.alloc (.cells #[.int .i64 0, .int .i64 0] 30)) rb q (.alt M) tb ∧ Below w.heap.size w (w4.alloc (.cells #[.int .i64 0, .int .i64 0] 30))) := Lib.hid (by
            have hb5 : Below w4.heap.size w4 (w4.alloc (.cells #[.int .i64 0, .int .i64 0] 30)) := (Below.refl _ _).alloc (Nat.le_refl _) _
            exact ⟨HRB.out.1.below hb5, HRB.out.2.below hb5, HB4.out.trans (hb5.mono HB4.out.size)⟩)
          generalize (w4.alloc (.cells #[.int .i64 0, .int .i64 0] 30)) = w5 at *
          clear HRA HRB HB4 k0 k1 l0
          go_upto_region 10 with (fail)
          have HA6 : Hid (AW w (w5.alloc (.cells #[.pointer none, .pointer none, .pointer none, .pointer none] 68)) ra rb p q (.alt L) (.alt M) ta tb w5.heap.size [] [[.cat [.alt L], .cat [.alt M]], [.cat [.alt L, .alt M]], [.cat [.star (.alt L)]], [.cat [.plus (.alt L)], .cat []]]) := Lib.hid (by
            have hb6 : Below w5.heap.size w5 (w5.alloc (.cells #[.pointer none, .pointer none, .pointer none, .pointer none] 68)) := (Below.refl _ _).alloc (Nat.le_refl _) _
            exact ⟨HA5.out.1.below hb6, HA5.out.2.1.below hb6, heap_alloc_new _ _, fun j hj => absurd hj (Nat.not_lt_zero _), HA5.out.2.2.trans (hb6.mono HA5.out.2.2.size), HA5.out.2.2.size⟩)
          generalize (w5.alloc (.cells #[.pointer none, .pointer none, .pointer none, .pointer none] 68)) = w6 at *
          generalize w5.heap.size = lb at *
          have n1 : ¬ 9223372036854775807 < 1 + p.size := by have := HSZ.out; omega
          have n2 : ¬ 9223372036854775807 < 1 + p.size + 3 := by have := HSZ.out; omega
          have n3 : ¬ 9223372036854775807 < 1 + p.size + 3 + q.size := by have := HSZ.out; omega
          have n4 : ¬ 9223372036854775807 < 1 + p.size + 3 + q.size + 1 := by have := HSZ.out; omega
          have n5 : ¬ 9223372036854775807 < 1 + p.size + 2 := by have := HSZ.out; omega
          have n6 : ¬ 9223372036854775807 < 1 + p.size + 2 + q.size := by have := HSZ.out; omega
          have n7 : ¬ 9223372036854775807 < 1 + p.size + 2 + q.size + 1 := by have := HSZ.out; omega
          have hg1 := gotS_of (chars_alt p q) (got_alt (compM_ok hcp).choose_spec (compM_ok hcq).choose_spec)
          have hg2 := gotS_of (chars_cat p q) (got_cat (compM_ok hcp).choose_spec (compM_ok hcq).choose_spec)
          have hg3 := gotS_of (chars_star p) (got_star (compM_ok hcp).choose_spec)
          have hg4 := gotS_of (chars_plus p) (got_plus (compM_ok hcp).choose_spec)
          have HUN : Hid (hasB p 94 = false ∧ hasB p 36 = false ∧ hasB q 94 = false ∧ hasB q 36 = false → Un (.alt L) ∧ Un (.alt M)) := Lib.hid fun ⟨h1, h2, h3, h4⟩ => ⟨compM_un hcp h1 h2, compM_un hcq h3 h4⟩
          clear hcp hcq
          go_wp2_with (fail)
          clear n1 n2 n3 n4 n5 n6 n7
          generalize (({ data := #[40] } : ByteArray) ++ p ++ { data := #[41, 124, 40] } ++ q ++ { data := #[41] }) = x1 at *
          generalize (({ data := #[40] } : ByteArray) ++ p ++ { data := #[41, 40] } ++ q ++ { data := #[41] }) = x2 at *
          generalize (({ data := #[40] } : ByteArray) ++ p ++ { data := #[41, 42] }) = x3 at *
          generalize (({ data := #[40] } : ByteArray) ++ p ++ { data := #[41, 43, 124] }) = x4 at *
          have HG : Hid (∀ k, k < 4 → GotS ([x1, x2, x3, x4].getD k ⟨#[]⟩) ([[.cat [.alt L], .cat [.alt M]], [.cat [.alt L, .alt M]], [.cat [.star (.alt L)]], [.cat [.plus (.alt L)], .cat []]].getD k [])) := Lib.hid fun k hk => by
            rcases k with _ | _ | _ | _ | k
            · exact hg1
            · exact hg2
            · exact hg3
            · exact hg4
            · omega
          have HLT : Hid (AW w (w6.alloc (.cells #[.string x1, .string x2, .string x3, .string x4] 9)) ra rb p q (.alt L) (.alt M) ta tb lb [] [[.cat [.alt L], .cat [.alt M]], [.cat [.alt L, .alt M]], [.cat [.star (.alt L)]], [.cat [.plus (.alt L)], .cat []]] ∧ (w6.alloc (.cells #[.string x1, .string x2, .string x3, .string x4] 9)).heap[w6.heap.size]? = some (.cells #[.string x1, .string x2, .string x3, .string x4] 9 (0, 0))) := Lib.hid ⟨HA6.out.below ((Below.refl _ _).alloc (Nat.le_refl _) _), heap_alloc_new _ _⟩
          clear hg1 hg2 hg3 hg4 HA6
          generalize (w6.alloc (.cells #[.string x1, .string x2, .string x3, .string x4] 9)) = w7 at *
          generalize w6.heap.size = xb at *
          generalize hNN : ([[.cat [.alt L], .cat [.alt M]], [.cat [.alt L, .alt M]], [.cat [.star (.alt L)]], [.cat [.plus (.alt L)], .cat []]] : List (List Nd)) = NN at *
          have HNN := Lib.hid hNN
          clear hNN
          go_loopw [73] (fun s73 wr => ∃ rs : List Nat, rs.length ≤ 4 ∧ s73 = .int .i64 (rs.length : Nat) ∧ Hid (AW w wr ra rb p q (.alt L) (.alt M) ta tb lb rs NN ∧ wr.heap[xb]? = some (.cells #[.string x1, .string x2, .string x3, .string x4] 9 (0, 0)))) (fun i _ => 4 - (intOf i).toNat)
          case atStart => exact ⟨[], Nat.zero_le _, rfl, HLT⟩
          case round =>
            clear HLT
            obtain ⟨rs, hrs, rfl, HR⟩ := hrel
            by_cases hlt : rs.length < 4
            · have c0 : wr.cell? ⟨xb, rs.length, none⟩ = some (.string ([x1, x2, x3, x4].getD rs.length ⟨#[]⟩)) := cell_of_heap HR.out.2 (by
                rw [List.getElem?_toArray]
                generalize rs.length = k at *
                rcases k with _ | _ | _ | _ | k
                · rfl
                · rfl
                · rfl
                · rfl
                · omega)
              have hgx := HG.out rs.length hlt
              generalize [x1, x2, x3, x4].getD rs.length ⟨#[]⟩ = x at *
              have q0 : (rs.length : Int) < 4 := by omega
              rcases hgx with ⟨t, hcx⟩ | ⟨z, hcx⟩
              · have HCX := fun W => Lib.hid (compile_ok hcx W)
                clear hcx
                go_upto_region 18 with (first
                  | (go_at_call 20; refine (HCX _).out.mono ?_; rintro e w8 ⟨⟨r, rfl, hr⟩, hb⟩
                     have HR8 : Hid (AW w w8 ra rb p q (.alt L) (.alt M) ta tb lb rs NN ∧ w8.heap[xb]? = some (.cells #[.string x1, .string x2, .string x3, .string x4] 9 (0, 0)) ∧ Rg w8 r x (.alt (NN.getD rs.length [])) t) := Lib.hid ⟨HR.out.1.below hb, (hb.block _ (lt_of_heap HR.out.2)).trans HR.out.2, hr⟩
                     clear hb hr))
                have hb9 : Below w8.heap.size w8 (w8.alloc (.cells #[.int .i64 0, .int .i64 0] 30)) := (Below.refl _ _).alloc (Nat.le_refl _) _
                have HR9 : Hid (AW w (w8.alloc (.cells #[.int .i64 0, .int .i64 0] 30)) ra rb p q (.alt L) (.alt M) ta tb lb rs NN ∧ (w8.alloc (.cells #[.int .i64 0, .int .i64 0] 30)).heap[xb]? = some (.cells #[.string x1, .string x2, .string x3, .string x4] 9 (0, 0)) ∧ Rg (w8.alloc (.cells #[.int .i64 0, .int .i64 0] 30)) r x (.alt (NN.getD rs.length [])) t) := Lib.hid ⟨HR8.out.1.below hb9, (hb9.block _ (lt_of_heap HR8.out.2.1)).trans HR8.out.2.1, HR8.out.2.2.below hb9⟩
                clear hb9 HR8 c0
                generalize (w8.alloc (.cells #[.int .i64 0, .int .i64 0] 30)) = w9 at *
                have c1 : w9.cell? ⟨lb, rs.length, none⟩ = some (.pointer none) := cell_of_heap HR9.out.1.l (arr4_get hlt)
                have c2 := frozen_of_heap HR9.out.1.l
                have HLT := Lib.hid hlt
                have HP : Hid (AW w (w9.setCell ⟨lb, rs.length, none⟩ (.pointer (some ⟨r, 0, none⟩))) ra rb p q (.alt L) (.alt M) ta tb lb (rs ++ [r]) NN ∧ (w9.setCell ⟨lb, rs.length, none⟩ (.pointer (some ⟨r, 0, none⟩))).heap[xb]? = some (.cells #[.string x1, .string x2, .string x3, .string x4] 9 (0, 0))) := Lib.hid ⟨HR9.out.1.put hlt HR9.out.2.2, by
                  have hm : Mut (· = lb) w9 (w9.setCell ⟨lb, rs.length, none⟩ (.pointer (some ⟨r, 0, none⟩))) := Mut.setCell _ _ _ _ rfl
                  exact (hm.block _ (lt_of_heap HR9.out.2.1) (ne_ty HR9.out.2.1 HR9.out.1.l (by decide))).trans HR9.out.2.1⟩
                clear hlt
                go_wp2_with (fail)
                go_roundw
                case rel => exact ⟨rs ++ [r], by rw [List.length_append]; have := HLT.out; simp; omega, by rw [List.length_append]; go_num, HP⟩
                case measure => have := HLT.out; simp [intOf]; omega
              · have HCX := fun W => Lib.hid (compile_bad hcx W)
                clear hcx
                go_wp2_with (first
                  | (go_at_call 20; refine (HCX _).out.mono ?_; rintro e w8 ⟨rfl, hb⟩
                     have HB8 : Hid (Below w.heap.size w w8) := Lib.hid (HR.out.1.bel.trans (hb.mono HR.out.1.bel.size))
                     clear hb))
                go_ret
                exact ⟨rfl, HB8.out.alloc HB8.out.size _⟩
            · have hr4 : rs.length = 4 := by omega
              clear hlt hrs
              rw [hr4]
              obtain ⟨r0, r1, r2, r3, rfl⟩ : ∃ r0 r1 r2 r3, rs = [r0, r1, r2, r3] := by
                match rs, hr4 with
                | [a, b, c, d], _ => exact ⟨a, b, c, d, rfl⟩
              have HT : Hid (AW w wr ra rb p q (.alt L) (.alt M) ta tb lb [r0, r1, r2, r3] NN) := Lib.hid HR.out.1
              have HOF := fun W => Lib.hid (of_law (s := s) (by have := HSZ.out; omega) W)
              have HCH := Lib.hid (chOk_runes s)
              have hll : (runesL s).length ≤ 60 := by have h1 := runesL_len s; have h2 := HSZ.out; omega
              generalize runesL s = l at *
              have HWH := fun W r s n t (h : Rg W r s n t) => Lib.hid (whole_b h HCH.out (by omega))
              have HLEN := fun W => Lib.hid (len_is l (by omega) W)
              have HSL := fun a b h1 h2 W => Lib.hid (slice_is l HCH.out (by omega) a b h1 h2 W)
              have HWP : ∀ W r s n t (a b : Nat), Un n → a ≤ b → b ≤ l.length → Rg W r s n t → Hid (Calls Try.prog 15 #[.pointer (some ⟨r, 0, none⟩), strV (partL l a b)] W fun e w' => e = .returned (.bool (mB l n a b)) ∧ Below W.heap.size W w') := fun W r s n t a b hu h1 h2 hr => Lib.hid (by
                have h := whole_b hr (HCH.out.part a b) (show (partL l a b).length ≤ 100000 by rw [len_partL h2]; omega)
                have e : wB (partL l a b) n = mB l n a b := by rw [Bool.eq_iff_iff, wB_iff, mB_iff, part_iff hu h1 h2]
                rw [e] at h
                exact h)
              unfold strV at HLEN HSL HOF HWH HWP
              generalize (packV l).1 = str at *
              generalize (packV l).2 = wide at *
              clear HR hr4 HG HCP HCQ HAW
              go_upto_region 21 with (first
                | (go_at_call 16; refine (HOF _).out.mono ?_; rintro e w8 ⟨rfl, hb⟩
                   have HT8 := Lib.hid (HT.out.below hb)
                   clear hb))
              have HTW : Hid (TW w (w8.alloc (.cells #[.string str, .bool wide] 39)) ra rb (.alt L) (.alt M) lb r0 r1 r2 r3 w8.heap.size (.alt [.cat [.alt L], .cat [.alt M]]) (.alt [.cat [.alt L, .alt M]]) (.alt [.cat [.star (.alt L)]]) (.alt [.cat [.plus (.alt L)], .cat []]) str wide) := Lib.hid (by
                have hb9 : Below w8.heap.size w8 (w8.alloc (.cells #[.string str, .bool wide] 39)) := (Below.refl _ _).alloc (Nat.le_refl _) _
                have h := HT8.out.below hb9
                have hN := HNN.out
                have g : ∀ j (hj : j < 4), ∃ s t, Rg (w8.alloc (.cells #[.string str, .bool wide] 39)) ([r0, r1, r2, r3][j]) s (.alt (NN.getD j [])) t := fun j hj => h.r j hj
                rw [← hN] at g
                exact ⟨⟨_, _, h.a⟩, ⟨_, _, h.b⟩, g 0 (by omega), g 1 (by omega), g 2 (by omega), g 3 (by omega), h.l, heap_alloc_new _ _, h.bel⟩)
              clear HT8 HT HOF
              generalize (w8.alloc (.cells #[.string str, .bool wide] 39)) = w9 at *
              generalize w8.heap.size = sb at *
              have d0 := cell_of_heap (v := .string str) HTW.out.x (j := 0) rfl
              have d1 := cell_of_heap (v := .bool wide) HTW.out.x (j := 1) rfl
              have e0 := cell_of_heap (v := .pointer (some ⟨r0, 0, none⟩)) HTW.out.l (j := 0) rfl
              have e1 := cell_of_heap (v := .pointer (some ⟨r1, 0, none⟩)) HTW.out.l (j := 1) rfl
              have e2 := cell_of_heap (v := .pointer (some ⟨r2, 0, none⟩)) HTW.out.l (j := 2) rfl
              have e3 := cell_of_heap (v := .pointer (some ⟨r3, 0, none⟩)) HTW.out.l (j := 3) rfl
              have HBR : Hid (Below w9.heap.size w9 w9) := Lib.hid (Below.refl _ _)
              have HA : ∀ W, Below w9.heap.size w9 W → Hid (Calls Try.prog 15 #[.pointer (some ⟨ra, 0, none⟩), .agg #[.string str, .bool wide]] W fun e w' => e = .returned (.bool (wB l (.alt L))) ∧ Below W.heap.size W w') := fun W hW => by obtain ⟨s, t, h⟩ := (HTW.out.below hW).a; exact HWH W _ s _ t h
              have HB : ∀ W, Below w9.heap.size w9 W → Hid (Calls Try.prog 15 #[.pointer (some ⟨rb, 0, none⟩), .agg #[.string str, .bool wide]] W fun e w' => e = .returned (.bool (wB l (.alt M))) ∧ Below W.heap.size W w') := fun W hW => by obtain ⟨s, t, h⟩ := (HTW.out.below hW).b; exact HWH W _ s _ t h
              have H0 : ∀ W, Below w9.heap.size w9 W → Hid (Calls Try.prog 15 #[.pointer (some ⟨r0, 0, none⟩), .agg #[.string str, .bool wide]] W fun e w' => e = .returned (.bool (wB l (.alt L) || wB l (.alt M))) ∧ Below W.heap.size W w') := fun W hW => by
                obtain ⟨s, t, h⟩ := (HTW.out.below hW).g0
                have h1 := HWH W _ s _ t h
                have e : wB l (.alt [.cat [.alt L], .cat [.alt M]]) = (wB l (.alt L) || wB l (.alt M)) := by rw [Bool.eq_iff_iff, Bool.or_eq_true, wB_iff, wB_iff, wB_iff, alt_match]
                rw [e] at h1
                exact h1
              have H2 : ∀ W, Below w9.heap.size w9 W → Hid (Calls Try.prog 15 #[.pointer (some ⟨r2, 0, none⟩), .agg #[.string str, .bool wide]] W fun e w' => e = .returned (.bool (wB l (.star (.alt L)))) ∧ Below W.heap.size W w') := fun W hW => by
                obtain ⟨s, t, h⟩ := (HTW.out.below hW).g2
                have h1 := HWH W _ s _ t h
                rw [wB_eq star_match] at h1
                exact h1
              have H3 : ∀ W, Below w9.heap.size w9 W → Hid (Calls Try.prog 15 #[.pointer (some ⟨r3, 0, none⟩), .agg #[.string str, .bool wide]] W fun e w' => e = .returned (.bool (wB l (.star (.alt L)))) ∧ Below W.heap.size W w') := fun W hW => by
                obtain ⟨s, t, h⟩ := (HTW.out.below hW).g3
                have h1 := HWH W _ s _ t h
                rw [wB_eq plus_match] at h1
                exact h1
              have hst : wB l (.alt L) = true → wB l (.star (.alt L)) = true := fun h => wB_iff.2 (star_once (wB_iff.1 h))
              generalize wB l (.alt L) = A at *
              generalize wB l (.alt M) = B at *
              generalize wB l (.star (.alt L)) = C at *
              go_cut [134] from 99 to 134 (fun s134 wx => s134 = .bool false ∧ Hid (Below w9.heap.size w9 wx))
              case first =>
                cases A
                · simp only [Bool.false_or] at H0
                  clear hst
                  cases B
                  · cases C
                    · have hS0 : (fun w' => w'.cell? ⟨lb, 0, none⟩ = some (.pointer (some ⟨r0, 0, none⟩)) ∧ w'.cell? ⟨lb, 2, none⟩ = some (.pointer (some ⟨r2, 0, none⟩)) ∧ w'.cell? ⟨lb, 3, none⟩ = some (.pointer (some ⟨r3, 0, none⟩)) ∧ w'.cell? ⟨sb, 0, none⟩ = some (.string str) ∧ w'.cell? ⟨sb, 1, none⟩ = some (.bool wide) ∧ Hid (Below w9.heap.size w9 w')) w9.drew := ⟨e0, e2, e3, d0, d1, Lib.hid (Below.refl _ _).drew⟩
                      refine wp_region_held_drew (S := (fun w' => w'.cell? ⟨lb, 0, none⟩ = some (.pointer (some ⟨r0, 0, none⟩)) ∧ w'.cell? ⟨lb, 2, none⟩ = some (.pointer (some ⟨r2, 0, none⟩)) ∧ w'.cell? ⟨lb, 3, none⟩ = some (.pointer (some ⟨r3, 0, none⟩)) ∧ w'.cell? ⟨sb, 0, none⟩ = some (.string str) ∧ w'.cell? ⟨sb, 1, none⟩ = some (.bool wide) ∧ Hid (Below w9.heap.size w9 w'))) (by kernel_rfl) hS0 (fun HS => ?_)
                      clear hS0
                      refine wpH_take (i := 0) (v := ?vb0) rfl (by kernel_rfl) (by kernel_rfl) (by kernel_rfl) (some 99) rfl (fun _ _ _ h => h) (Or.inl ⟨by rfl, ?yb0⟩) HS ?tb0
                      case yb0 => (intro w s0; obtain ⟨s1, s2, s3, s4, s5, s6⟩ := s0; go_simp; try with_reducible rfl)
                      (try simp only [Act.put, List.setIfInBounds_toArray, List.set_cons_zero, List.set_cons_succ])
                      refine wpH_take (i := 1) (v := ?vb1) rfl (by kernel_rfl) (by kernel_rfl) (by kernel_rfl) (some 100) rfl (fun _ _ _ h => h) (Or.inl ⟨by rfl, ?yb1⟩) HS ?tb1
                      case yb1 => (intro w s0; obtain ⟨s1, s2, s3, s4, s5, s6⟩ := s0; go_simp; try with_reducible rfl)
                      (try simp only [Act.put, List.setIfInBounds_toArray, List.set_cons_zero, List.set_cons_succ])
                      refine wpH_take (i := 2) (v := ?vb2) rfl (by kernel_rfl) (by kernel_rfl) (by kernel_rfl) (some 101) rfl (fun _ _ _ h => h) (Or.inl ⟨by rfl, ?yb2⟩) HS ?tb2
                      case yb2 => (intro w s0; obtain ⟨s1, s2, s3, s4, s5, s6⟩ := s0; go_simp; try with_reducible rfl)
                      (try simp only [Act.put, List.setIfInBounds_toArray, List.set_cons_zero, List.set_cons_succ])
                      refine wpH_take (i := 4) (v := ?vb4) rfl (by kernel_rfl) (by kernel_rfl) (by kernel_rfl) (some 103) rfl (fun _ _ _ h => h) (Or.inl ⟨by rfl, ?yb4⟩) HS ?tb4
                      case yb4 => (intro w s0; obtain ⟨s1, s2, s3, s4, s5, s6⟩ := s0; go_simp; try with_reducible rfl)
                      (try simp only [Act.put, List.setIfInBounds_toArray, List.set_cons_zero, List.set_cons_succ])
                      refine wpH_take (i := 5) (v := ?vb5) rfl (by kernel_rfl) (by kernel_rfl) (by kernel_rfl) (some 104) rfl (fun _ _ _ h => h) (Or.inl ⟨by rfl, ?yb5⟩) HS ?tb5
                      case yb5 => (intro w s0; obtain ⟨s1, s2, s3, s4, s5, s6⟩ := s0; go_simp; try with_reducible rfl)
                      (try simp only [Act.put, List.setIfInBounds_toArray, List.set_cons_zero, List.set_cons_succ])
                      refine wpH_one (i := 3) (by kernel_rfl) rfl ?_
                      intro K hK
                      rw [if_pos (by rfl)]
                      go_simp
                      refine (H0 _ (Hid.out HS.2.2.2.2.2)).out.mono ?_
                      rintro e wn ⟨rfl, hb⟩
                      refine hK _ _ ⟨keep3 hb HS.1, keep3 hb HS.2.1, keep3 hb HS.2.2.1, keep3 hb HS.2.2.2.1, keep3 hb HS.2.2.2.2.1, Lib.hid (Below.stp (Hid.out HS.2.2.2.2.2) hb)⟩ ?_
                      replace HS : (fun w' => w'.cell? ⟨lb, 0, none⟩ = some (.pointer (some ⟨r0, 0, none⟩)) ∧ w'.cell? ⟨lb, 2, none⟩ = some (.pointer (some ⟨r2, 0, none⟩)) ∧ w'.cell? ⟨lb, 3, none⟩ = some (.pointer (some ⟨r3, 0, none⟩)) ∧ w'.cell? ⟨sb, 0, none⟩ = some (.string str) ∧ w'.cell? ⟨sb, 1, none⟩ = some (.bool wide) ∧ Hid (Below w9.heap.size w9 w')) wn := ⟨keep3 hb HS.1, keep3 hb HS.2.1, keep3 hb HS.2.2.1, keep3 hb HS.2.2.2.1, keep3 hb HS.2.2.2.2.1, Lib.hid (Below.stp (Hid.out HS.2.2.2.2.2) hb)⟩
                      clear hK K hb
                      (try simp only [Act.put, List.setIfInBounds_toArray, List.set_cons_zero, List.set_cons_succ])
                      refine wpH_one (i := 6) (by kernel_rfl) rfl ?_
                      intro K hK
                      rw [if_pos (by rfl)]
                      go_simp
                      refine (HA _ (Hid.out HS.2.2.2.2.2)).out.mono ?_
                      rintro e wn ⟨rfl, hb⟩
                      refine hK _ _ ⟨keep3 hb HS.1, keep3 hb HS.2.1, keep3 hb HS.2.2.1, keep3 hb HS.2.2.2.1, keep3 hb HS.2.2.2.2.1, Lib.hid (Below.stp (Hid.out HS.2.2.2.2.2) hb)⟩ ?_
                      replace HS : (fun w' => w'.cell? ⟨lb, 0, none⟩ = some (.pointer (some ⟨r0, 0, none⟩)) ∧ w'.cell? ⟨lb, 2, none⟩ = some (.pointer (some ⟨r2, 0, none⟩)) ∧ w'.cell? ⟨lb, 3, none⟩ = some (.pointer (some ⟨r3, 0, none⟩)) ∧ w'.cell? ⟨sb, 0, none⟩ = some (.string str) ∧ w'.cell? ⟨sb, 1, none⟩ = some (.bool wide) ∧ Hid (Below w9.heap.size w9 w')) wn := ⟨keep3 hb HS.1, keep3 hb HS.2.1, keep3 hb HS.2.2.1, keep3 hb HS.2.2.2.1, keep3 hb HS.2.2.2.2.1, Lib.hid (Below.stp (Hid.out HS.2.2.2.2.2) hb)⟩
                      clear hK K hb
                      (try simp only [Act.put, List.setIfInBounds_toArray, List.set_cons_zero, List.set_cons_succ])
                      refine wpH_take (i := 7) (v := ?vb7) rfl (by kernel_rfl) (by kernel_rfl) (by kernel_rfl) (some 106) rfl (fun _ _ _ h => h) (Or.inl ⟨by rfl, ?yb7⟩) HS ?tb7
                      case yb7 => (intro w s0; obtain ⟨s1, s2, s3, s4, s5, s6⟩ := s0; go_simp; try with_reducible rfl)
                      (try simp only [Act.put, List.setIfInBounds_toArray, List.set_cons_zero, List.set_cons_succ])
                      refine wpH_take (i := 8) (v := ?vb8) rfl (by kernel_rfl) (by kernel_rfl) (by kernel_rfl) (some 107) rfl (fun _ _ _ h => h) (Or.inl ⟨by rfl, ?yb8⟩) HS ?tb8
                      case yb8 => (intro w s0; obtain ⟨s1, s2, s3, s4, s5, s6⟩ := s0; go_simp; try with_reducible rfl)
                      (try simp only [Act.put, List.setIfInBounds_toArray, List.set_cons_zero, List.set_cons_succ])
                      refine wpH_take (i := 9) (v := ?vb9) rfl (by kernel_rfl) (by kernel_rfl) (by kernel_rfl) (some 108) rfl (fun _ _ _ h => h) (Or.inl ⟨by rfl, ?yb9⟩) HS ?tb9
                      case yb9 => (intro w s0; obtain ⟨s1, s2, s3, s4, s5, s6⟩ := s0; go_simp; try with_reducible rfl)
                      (try simp only [Act.put, List.setIfInBounds_toArray, List.set_cons_zero, List.set_cons_succ])
                      refine wpH_one (i := 10) (by kernel_rfl) rfl ?_
                      intro K hK
                      rw [if_pos (by rfl)]
                      go_simp
                      refine (HB _ (Hid.out HS.2.2.2.2.2)).out.mono ?_
                      rintro e wn ⟨rfl, hb⟩
                      refine hK _ _ ⟨keep3 hb HS.1, keep3 hb HS.2.1, keep3 hb HS.2.2.1, keep3 hb HS.2.2.2.1, keep3 hb HS.2.2.2.2.1, Lib.hid (Below.stp (Hid.out HS.2.2.2.2.2) hb)⟩ ?_
                      replace HS : (fun w' => w'.cell? ⟨lb, 0, none⟩ = some (.pointer (some ⟨r0, 0, none⟩)) ∧ w'.cell? ⟨lb, 2, none⟩ = some (.pointer (some ⟨r2, 0, none⟩)) ∧ w'.cell? ⟨lb, 3, none⟩ = some (.pointer (some ⟨r3, 0, none⟩)) ∧ w'.cell? ⟨sb, 0, none⟩ = some (.string str) ∧ w'.cell? ⟨sb, 1, none⟩ = some (.bool wide) ∧ Hid (Below w9.heap.size w9 w')) wn := ⟨keep3 hb HS.1, keep3 hb HS.2.1, keep3 hb HS.2.2.1, keep3 hb HS.2.2.2.1, keep3 hb HS.2.2.2.2.1, Lib.hid (Below.stp (Hid.out HS.2.2.2.2.2) hb)⟩
                      clear hK K hb
                      (try simp only [Act.put, List.setIfInBounds_toArray, List.set_cons_zero, List.set_cons_succ])
                      refine wpH_take (i := 11) (v := ?vb11) rfl (by kernel_rfl) (by kernel_rfl) (by kernel_rfl) (some 110) rfl (fun _ _ _ h => h) (Or.inl ⟨by rfl, ?yb11⟩) HS ?tb11
                      case yb11 => (intro w s0; obtain ⟨s1, s2, s3, s4, s5, s6⟩ := s0; go_simp; try with_reducible rfl)
                      (try simp only [Act.put, List.setIfInBounds_toArray, List.set_cons_zero, List.set_cons_succ])
                      refine wpH_take (i := 12) (v := ?vb12) rfl (by kernel_rfl) (by kernel_rfl) (by kernel_rfl) (some 111) rfl (fun _ _ _ h => h) (Or.inl ⟨by rfl, ?yb12⟩) HS ?tb12
                      case yb12 => (intro w s0; obtain ⟨s1, s2, s3, s4, s5, s6⟩ := s0; go_simp; try with_reducible rfl)
                      (try simp only [Act.put, List.setIfInBounds_toArray, List.set_cons_zero, List.set_cons_succ])
                      refine wpH_take (i := 13) (v := ?vb13) rfl (by kernel_rfl) (by kernel_rfl) (by kernel_rfl) (some 112) rfl (fun _ _ _ h => h) (Or.inl ⟨by rfl, ?yb13⟩) HS ?tb13
                      case yb13 => (intro w s0; obtain ⟨s1, s2, s3, s4, s5, s6⟩ := s0; go_simp; try with_reducible rfl)
                      (try simp only [Act.put, List.setIfInBounds_toArray, List.set_cons_zero, List.set_cons_succ])
                      refine wpH_take (i := 14) (v := ?vb14) rfl (by kernel_rfl) (by kernel_rfl) (by kernel_rfl) (some 113) rfl (fun _ _ _ h => h) (Or.inl ⟨by rfl, ?yb14⟩) HS ?tb14
                      case yb14 => (intro w s0; obtain ⟨s1, s2, s3, s4, s5, s6⟩ := s0; go_simp; try with_reducible rfl)
                      (try simp only [Act.put, List.setIfInBounds_toArray, List.set_cons_zero, List.set_cons_succ])
                      refine wpH_take (i := 15) (v := ?vb15) rfl (by kernel_rfl) (by kernel_rfl) (by kernel_rfl) (some 114) rfl (fun _ _ _ h => h) (Or.inl ⟨by rfl, ?yb15⟩) HS ?tb15
                      case yb15 => (intro w s0; obtain ⟨s1, s2, s3, s4, s5, s6⟩ := s0; go_simp; try with_reducible rfl)
                      (try simp only [Act.put, List.setIfInBounds_toArray, List.set_cons_zero, List.set_cons_succ])
                      refine wpH_take (i := 16) (v := ?vb16) rfl (by kernel_rfl) (by kernel_rfl) (by kernel_rfl) (some 115) rfl (fun _ _ _ h => h) (Or.inl ⟨by rfl, ?yb16⟩) HS ?tb16
                      case yb16 => (intro w s0; obtain ⟨s1, s2, s3, s4, s5, s6⟩ := s0; go_simp; try with_reducible rfl)
                      (try simp only [Act.put, List.setIfInBounds_toArray, List.set_cons_zero, List.set_cons_succ])
                      refine wpH_take (i := 18) (v := ?vb18) rfl (by kernel_rfl) (by kernel_rfl) (by kernel_rfl) (some 117) rfl (fun _ _ _ h => h) (Or.inl ⟨by rfl, ?yb18⟩) HS ?tb18
                      case yb18 => (intro w s0; obtain ⟨s1, s2, s3, s4, s5, s6⟩ := s0; go_simp; try with_reducible rfl)
                      (try simp only [Act.put, List.setIfInBounds_toArray, List.set_cons_zero, List.set_cons_succ])
                      refine wpH_take (i := 19) (v := ?vb19) rfl (by kernel_rfl) (by kernel_rfl) (by kernel_rfl) (some 118) rfl (fun _ _ _ h => h) (Or.inl ⟨by rfl, ?yb19⟩) HS ?tb19
                      case yb19 => (intro w s0; obtain ⟨s1, s2, s3, s4, s5, s6⟩ := s0; go_simp; try with_reducible rfl)
                      (try simp only [Act.put, List.setIfInBounds_toArray, List.set_cons_zero, List.set_cons_succ])
                      refine wpH_take (i := 20) (v := ?vb20) rfl (by kernel_rfl) (by kernel_rfl) (by kernel_rfl) (some 119) rfl (fun _ _ _ h => h) (Or.inl ⟨by rfl, ?yb20⟩) HS ?tb20
                      case yb20 => (intro w s0; obtain ⟨s1, s2, s3, s4, s5, s6⟩ := s0; go_simp; try with_reducible rfl)
                      (try simp only [Act.put, List.setIfInBounds_toArray, List.set_cons_zero, List.set_cons_succ])
                      refine wpH_one (i := 17) (by kernel_rfl) rfl ?_
                      intro K hK
                      rw [if_pos (by rfl)]
                      go_simp
                      refine (H2 _ (Hid.out HS.2.2.2.2.2)).out.mono ?_
                      rintro e wn ⟨rfl, hb⟩
                      refine hK _ _ ⟨keep3 hb HS.1, keep3 hb HS.2.1, keep3 hb HS.2.2.1, keep3 hb HS.2.2.2.1, keep3 hb HS.2.2.2.2.1, Lib.hid (Below.stp (Hid.out HS.2.2.2.2.2) hb)⟩ ?_
                      replace HS : (fun w' => w'.cell? ⟨lb, 0, none⟩ = some (.pointer (some ⟨r0, 0, none⟩)) ∧ w'.cell? ⟨lb, 2, none⟩ = some (.pointer (some ⟨r2, 0, none⟩)) ∧ w'.cell? ⟨lb, 3, none⟩ = some (.pointer (some ⟨r3, 0, none⟩)) ∧ w'.cell? ⟨sb, 0, none⟩ = some (.string str) ∧ w'.cell? ⟨sb, 1, none⟩ = some (.bool wide) ∧ Hid (Below w9.heap.size w9 w')) wn := ⟨keep3 hb HS.1, keep3 hb HS.2.1, keep3 hb HS.2.2.1, keep3 hb HS.2.2.2.1, keep3 hb HS.2.2.2.2.1, Lib.hid (Below.stp (Hid.out HS.2.2.2.2.2) hb)⟩
                      clear hK K hb
                      (try simp only [Act.put, List.setIfInBounds_toArray, List.set_cons_zero, List.set_cons_succ])
                      refine wpH_one (i := 21) (by kernel_rfl) rfl ?_
                      intro K hK
                      rw [if_pos (by rfl)]
                      go_simp
                      refine (H3 _ (Hid.out HS.2.2.2.2.2)).out.mono ?_
                      rintro e wn ⟨rfl, hb⟩
                      refine hK _ _ ⟨keep3 hb HS.1, keep3 hb HS.2.1, keep3 hb HS.2.2.1, keep3 hb HS.2.2.2.1, keep3 hb HS.2.2.2.2.1, Lib.hid (Below.stp (Hid.out HS.2.2.2.2.2) hb)⟩ ?_
                      replace HS : (fun w' => w'.cell? ⟨lb, 0, none⟩ = some (.pointer (some ⟨r0, 0, none⟩)) ∧ w'.cell? ⟨lb, 2, none⟩ = some (.pointer (some ⟨r2, 0, none⟩)) ∧ w'.cell? ⟨lb, 3, none⟩ = some (.pointer (some ⟨r3, 0, none⟩)) ∧ w'.cell? ⟨sb, 0, none⟩ = some (.string str) ∧ w'.cell? ⟨sb, 1, none⟩ = some (.bool wide) ∧ Hid (Below w9.heap.size w9 w')) wn := ⟨keep3 hb HS.1, keep3 hb HS.2.1, keep3 hb HS.2.2.1, keep3 hb HS.2.2.2.1, keep3 hb HS.2.2.2.2.1, Lib.hid (Below.stp (Hid.out HS.2.2.2.2.2) hb)⟩
                      clear hK K hb
                      (try simp only [Act.put, List.setIfInBounds_toArray, List.set_cons_zero, List.set_cons_succ])
                      refine wpH_take (i := 22) (v := ?vb22) rfl (by kernel_rfl) (by kernel_rfl) (by kernel_rfl) (some 121) rfl (fun _ _ _ h => h) (Or.inl ⟨by rfl, ?yb22⟩) HS ?tb22
                      case yb22 => (intro w s0; obtain ⟨s1, s2, s3, s4, s5, s6⟩ := s0; go_simp; try with_reducible rfl)
                      (try simp only [Act.put, List.setIfInBounds_toArray, List.set_cons_zero, List.set_cons_succ])
                      refine wpH_take (i := 23) (v := ?vb23) rfl (by kernel_rfl) (by kernel_rfl) (by kernel_rfl) (some 122) rfl (fun _ _ _ h => h) (Or.inl ⟨by rfl, ?yb23⟩) HS ?tb23
                      case yb23 => (intro w s0; obtain ⟨s1, s2, s3, s4, s5, s6⟩ := s0; go_simp; try with_reducible rfl)
                      (try simp only [Act.put, List.setIfInBounds_toArray, List.set_cons_zero, List.set_cons_succ])
                      refine wpH_take (i := 24) (v := ?vb24) rfl (by kernel_rfl) (by kernel_rfl) (by kernel_rfl) (some 123) rfl (fun _ _ _ h => h) (Or.inl ⟨by rfl, ?yb24⟩) HS ?tb24
                      case yb24 => (intro w s0; obtain ⟨s1, s2, s3, s4, s5, s6⟩ := s0; go_simp; try with_reducible rfl)
                      (try simp only [Act.put, List.setIfInBounds_toArray, List.set_cons_zero, List.set_cons_succ])
                      refine wpH_take (i := 25) (v := ?vb25) rfl (by kernel_rfl) (by kernel_rfl) (by kernel_rfl) (some 124) rfl (fun _ _ _ h => h) (Or.inl ⟨by rfl, ?yb25⟩) HS ?tb25
                      case yb25 => (intro w s0; obtain ⟨s1, s2, s3, s4, s5, s6⟩ := s0; go_simp; try with_reducible rfl)
                      (try simp only [Act.put, List.setIfInBounds_toArray, List.set_cons_zero, List.set_cons_succ])
                      refine wpH_take (i := 26) (v := ?vb26) rfl (by kernel_rfl) (by kernel_rfl) (by kernel_rfl) (some 125) rfl (fun _ _ _ h => h) (Or.inl ⟨by rfl, ?yb26⟩) HS ?tb26
                      case yb26 => (intro w s0; obtain ⟨s1, s2, s3, s4, s5, s6⟩ := s0; go_simp; try with_reducible rfl)
                      (try simp only [Act.put, List.setIfInBounds_toArray, List.set_cons_zero, List.set_cons_succ])
                      refine wpH_one (i := 27) (by kernel_rfl) rfl ?_
                      intro K hK
                      rw [if_pos (by rfl)]
                      go_simp
                      refine (HA _ (Hid.out HS.2.2.2.2.2)).out.mono ?_
                      rintro e wn ⟨rfl, hb⟩
                      refine hK _ _ ⟨keep3 hb HS.1, keep3 hb HS.2.1, keep3 hb HS.2.2.1, keep3 hb HS.2.2.2.1, keep3 hb HS.2.2.2.2.1, Lib.hid (Below.stp (Hid.out HS.2.2.2.2.2) hb)⟩ ?_
                      replace HS : (fun w' => w'.cell? ⟨lb, 0, none⟩ = some (.pointer (some ⟨r0, 0, none⟩)) ∧ w'.cell? ⟨lb, 2, none⟩ = some (.pointer (some ⟨r2, 0, none⟩)) ∧ w'.cell? ⟨lb, 3, none⟩ = some (.pointer (some ⟨r3, 0, none⟩)) ∧ w'.cell? ⟨sb, 0, none⟩ = some (.string str) ∧ w'.cell? ⟨sb, 1, none⟩ = some (.bool wide) ∧ Hid (Below w9.heap.size w9 w')) wn := ⟨keep3 hb HS.1, keep3 hb HS.2.1, keep3 hb HS.2.2.1, keep3 hb HS.2.2.2.1, keep3 hb HS.2.2.2.2.1, Lib.hid (Below.stp (Hid.out HS.2.2.2.2.2) hb)⟩
                      clear hK K hb
                      (try simp only [Act.put, List.setIfInBounds_toArray, List.set_cons_zero, List.set_cons_succ])
                      refine wpH_take (i := 28) (v := ?vb28) rfl (by kernel_rfl) (by kernel_rfl) (by kernel_rfl) (some 127) rfl (fun _ _ _ h => h) (Or.inl ⟨by rfl, ?yb28⟩) HS ?tb28
                      case yb28 => (intro w s0; obtain ⟨s1, s2, s3, s4, s5, s6⟩ := s0; go_simp; try with_reducible rfl)
                      (try simp only [Act.put, List.setIfInBounds_toArray, List.set_cons_zero, List.set_cons_succ])
                      refine wpH_take (i := 29) (v := undef) rfl (by kernel_rfl) (by kernel_rfl) (by kernel_rfl) (some 128) rfl (fun _ _ _ h => h) (Or.inr ⟨by rfl, rfl⟩) HS ?_
                      (try simp only [Act.put, List.setIfInBounds_toArray, List.set_cons_zero, List.set_cons_succ])
                      refine wpH_take (i := 30) (v := undef) rfl (by kernel_rfl) (by kernel_rfl) (by kernel_rfl) (some 129) rfl (fun _ _ _ h => h) (Or.inr ⟨by rfl, rfl⟩) HS ?_
                      (try simp only [Act.put, List.setIfInBounds_toArray, List.set_cons_zero, List.set_cons_succ])
                      refine wpH_take (i := 31) (v := undef) rfl (by kernel_rfl) (by kernel_rfl) (by kernel_rfl) (some 130) rfl (fun _ _ _ h => h) (Or.inr ⟨by rfl, rfl⟩) HS ?_
                      (try simp only [Act.put, List.setIfInBounds_toArray, List.set_cons_zero, List.set_cons_succ])
                      refine wpH_take (i := 32) (v := undef) rfl (by kernel_rfl) (by kernel_rfl) (by kernel_rfl) (some 131) rfl (fun _ _ _ h => h) (Or.inr ⟨by rfl, rfl⟩) HS ?_
                      (try simp only [Act.put, List.setIfInBounds_toArray, List.set_cons_zero, List.set_cons_succ])
                      refine wpH_take (i := 33) (v := undef) rfl (by kernel_rfl) (by kernel_rfl) (by kernel_rfl) (some 132) rfl (fun _ _ _ h => h) (Or.inr ⟨by rfl, rfl⟩) HS ?_
                      (try simp only [Act.put, List.setIfInBounds_toArray, List.set_cons_zero, List.set_cons_succ])
                      refine wpH_take (i := 34) (v := ?vb34) rfl (by kernel_rfl) (by kernel_rfl) (by kernel_rfl) (some 133) rfl (fun _ _ _ h => h) (Or.inl ⟨by rfl, ?yb34⟩) HS ?tb34
                      case yb34 => (intro w s0; obtain ⟨s1, s2, s3, s4, s5, s6⟩ := s0; go_simp; try with_reducible rfl)
                      (try simp only [Act.put, List.setIfInBounds_toArray, List.set_cons_zero, List.set_cons_succ])
                      refine wpH_take (i := 35) (v := ?vb35) rfl (by kernel_rfl) (by kernel_rfl) (by kernel_rfl) (some 134) rfl (fun _ _ _ h => h) (Or.inl ⟨by rfl, ?yb35⟩) HS ?tb35
                      case yb35 => (intro w s0; obtain ⟨s1, s2, s3, s4, s5, s6⟩ := s0; go_simp; try with_reducible rfl)
                      (try simp only [Act.put, List.setIfInBounds_toArray, List.set_cons_zero, List.set_cons_succ])
                      refine wpAnyH_done (by kernel_rfl) ?_ _
                      go_wp2_with (fail)
                      go_meet
                      case rel => exact ⟨rfl, HS.2.2.2.2.2⟩
                    · have hS0 : (fun w' => w'.cell? ⟨lb, 0, none⟩ = some (.pointer (some ⟨r0, 0, none⟩)) ∧ w'.cell? ⟨lb, 2, none⟩ = some (.pointer (some ⟨r2, 0, none⟩)) ∧ w'.cell? ⟨lb, 3, none⟩ = some (.pointer (some ⟨r3, 0, none⟩)) ∧ w'.cell? ⟨sb, 0, none⟩ = some (.string str) ∧ w'.cell? ⟨sb, 1, none⟩ = some (.bool wide) ∧ Hid (Below w9.heap.size w9 w')) w9.drew := ⟨e0, e2, e3, d0, d1, Lib.hid (Below.refl _ _).drew⟩
                      refine wp_region_held_drew (S := (fun w' => w'.cell? ⟨lb, 0, none⟩ = some (.pointer (some ⟨r0, 0, none⟩)) ∧ w'.cell? ⟨lb, 2, none⟩ = some (.pointer (some ⟨r2, 0, none⟩)) ∧ w'.cell? ⟨lb, 3, none⟩ = some (.pointer (some ⟨r3, 0, none⟩)) ∧ w'.cell? ⟨sb, 0, none⟩ = some (.string str) ∧ w'.cell? ⟨sb, 1, none⟩ = some (.bool wide) ∧ Hid (Below w9.heap.size w9 w'))) (by kernel_rfl) hS0 (fun HS => ?_)
                      clear hS0
                      refine wpH_take (i := 0) (v := ?vc0) rfl (by kernel_rfl) (by kernel_rfl) (by kernel_rfl) (some 99) rfl (fun _ _ _ h => h) (Or.inl ⟨by rfl, ?yc0⟩) HS ?tc0
                      case yc0 => (intro w s0; obtain ⟨s1, s2, s3, s4, s5, s6⟩ := s0; go_simp; try with_reducible rfl)
                      (try simp only [Act.put, List.setIfInBounds_toArray, List.set_cons_zero, List.set_cons_succ])
                      refine wpH_take (i := 1) (v := ?vc1) rfl (by kernel_rfl) (by kernel_rfl) (by kernel_rfl) (some 100) rfl (fun _ _ _ h => h) (Or.inl ⟨by rfl, ?yc1⟩) HS ?tc1
                      case yc1 => (intro w s0; obtain ⟨s1, s2, s3, s4, s5, s6⟩ := s0; go_simp; try with_reducible rfl)
                      (try simp only [Act.put, List.setIfInBounds_toArray, List.set_cons_zero, List.set_cons_succ])
                      refine wpH_take (i := 2) (v := ?vc2) rfl (by kernel_rfl) (by kernel_rfl) (by kernel_rfl) (some 101) rfl (fun _ _ _ h => h) (Or.inl ⟨by rfl, ?yc2⟩) HS ?tc2
                      case yc2 => (intro w s0; obtain ⟨s1, s2, s3, s4, s5, s6⟩ := s0; go_simp; try with_reducible rfl)
                      (try simp only [Act.put, List.setIfInBounds_toArray, List.set_cons_zero, List.set_cons_succ])
                      refine wpH_take (i := 4) (v := ?vc4) rfl (by kernel_rfl) (by kernel_rfl) (by kernel_rfl) (some 103) rfl (fun _ _ _ h => h) (Or.inl ⟨by rfl, ?yc4⟩) HS ?tc4
                      case yc4 => (intro w s0; obtain ⟨s1, s2, s3, s4, s5, s6⟩ := s0; go_simp; try with_reducible rfl)
                      (try simp only [Act.put, List.setIfInBounds_toArray, List.set_cons_zero, List.set_cons_succ])
                      refine wpH_take (i := 5) (v := ?vc5) rfl (by kernel_rfl) (by kernel_rfl) (by kernel_rfl) (some 104) rfl (fun _ _ _ h => h) (Or.inl ⟨by rfl, ?yc5⟩) HS ?tc5
                      case yc5 => (intro w s0; obtain ⟨s1, s2, s3, s4, s5, s6⟩ := s0; go_simp; try with_reducible rfl)
                      (try simp only [Act.put, List.setIfInBounds_toArray, List.set_cons_zero, List.set_cons_succ])
                      refine wpH_one (i := 3) (by kernel_rfl) rfl ?_
                      intro K hK
                      rw [if_pos (by rfl)]
                      go_simp
                      refine (H0 _ (Hid.out HS.2.2.2.2.2)).out.mono ?_
                      rintro e wn ⟨rfl, hb⟩
                      refine hK _ _ ⟨keep3 hb HS.1, keep3 hb HS.2.1, keep3 hb HS.2.2.1, keep3 hb HS.2.2.2.1, keep3 hb HS.2.2.2.2.1, Lib.hid (Below.stp (Hid.out HS.2.2.2.2.2) hb)⟩ ?_
                      replace HS : (fun w' => w'.cell? ⟨lb, 0, none⟩ = some (.pointer (some ⟨r0, 0, none⟩)) ∧ w'.cell? ⟨lb, 2, none⟩ = some (.pointer (some ⟨r2, 0, none⟩)) ∧ w'.cell? ⟨lb, 3, none⟩ = some (.pointer (some ⟨r3, 0, none⟩)) ∧ w'.cell? ⟨sb, 0, none⟩ = some (.string str) ∧ w'.cell? ⟨sb, 1, none⟩ = some (.bool wide) ∧ Hid (Below w9.heap.size w9 w')) wn := ⟨keep3 hb HS.1, keep3 hb HS.2.1, keep3 hb HS.2.2.1, keep3 hb HS.2.2.2.1, keep3 hb HS.2.2.2.2.1, Lib.hid (Below.stp (Hid.out HS.2.2.2.2.2) hb)⟩
                      clear hK K hb
                      (try simp only [Act.put, List.setIfInBounds_toArray, List.set_cons_zero, List.set_cons_succ])
                      refine wpH_one (i := 6) (by kernel_rfl) rfl ?_
                      intro K hK
                      rw [if_pos (by rfl)]
                      go_simp
                      refine (HA _ (Hid.out HS.2.2.2.2.2)).out.mono ?_
                      rintro e wn ⟨rfl, hb⟩
                      refine hK _ _ ⟨keep3 hb HS.1, keep3 hb HS.2.1, keep3 hb HS.2.2.1, keep3 hb HS.2.2.2.1, keep3 hb HS.2.2.2.2.1, Lib.hid (Below.stp (Hid.out HS.2.2.2.2.2) hb)⟩ ?_
                      replace HS : (fun w' => w'.cell? ⟨lb, 0, none⟩ = some (.pointer (some ⟨r0, 0, none⟩)) ∧ w'.cell? ⟨lb, 2, none⟩ = some (.pointer (some ⟨r2, 0, none⟩)) ∧ w'.cell? ⟨lb, 3, none⟩ = some (.pointer (some ⟨r3, 0, none⟩)) ∧ w'.cell? ⟨sb, 0, none⟩ = some (.string str) ∧ w'.cell? ⟨sb, 1, none⟩ = some (.bool wide) ∧ Hid (Below w9.heap.size w9 w')) wn := ⟨keep3 hb HS.1, keep3 hb HS.2.1, keep3 hb HS.2.2.1, keep3 hb HS.2.2.2.1, keep3 hb HS.2.2.2.2.1, Lib.hid (Below.stp (Hid.out HS.2.2.2.2.2) hb)⟩
                      clear hK K hb
                      (try simp only [Act.put, List.setIfInBounds_toArray, List.set_cons_zero, List.set_cons_succ])
                      refine wpH_take (i := 7) (v := ?vc7) rfl (by kernel_rfl) (by kernel_rfl) (by kernel_rfl) (some 106) rfl (fun _ _ _ h => h) (Or.inl ⟨by rfl, ?yc7⟩) HS ?tc7
                      case yc7 => (intro w s0; obtain ⟨s1, s2, s3, s4, s5, s6⟩ := s0; go_simp; try with_reducible rfl)
                      (try simp only [Act.put, List.setIfInBounds_toArray, List.set_cons_zero, List.set_cons_succ])
                      refine wpH_take (i := 8) (v := ?vc8) rfl (by kernel_rfl) (by kernel_rfl) (by kernel_rfl) (some 107) rfl (fun _ _ _ h => h) (Or.inl ⟨by rfl, ?yc8⟩) HS ?tc8
                      case yc8 => (intro w s0; obtain ⟨s1, s2, s3, s4, s5, s6⟩ := s0; go_simp; try with_reducible rfl)
                      (try simp only [Act.put, List.setIfInBounds_toArray, List.set_cons_zero, List.set_cons_succ])
                      refine wpH_take (i := 9) (v := ?vc9) rfl (by kernel_rfl) (by kernel_rfl) (by kernel_rfl) (some 108) rfl (fun _ _ _ h => h) (Or.inl ⟨by rfl, ?yc9⟩) HS ?tc9
                      case yc9 => (intro w s0; obtain ⟨s1, s2, s3, s4, s5, s6⟩ := s0; go_simp; try with_reducible rfl)
                      (try simp only [Act.put, List.setIfInBounds_toArray, List.set_cons_zero, List.set_cons_succ])
                      refine wpH_one (i := 10) (by kernel_rfl) rfl ?_
                      intro K hK
                      rw [if_pos (by rfl)]
                      go_simp
                      refine (HB _ (Hid.out HS.2.2.2.2.2)).out.mono ?_
                      rintro e wn ⟨rfl, hb⟩
                      refine hK _ _ ⟨keep3 hb HS.1, keep3 hb HS.2.1, keep3 hb HS.2.2.1, keep3 hb HS.2.2.2.1, keep3 hb HS.2.2.2.2.1, Lib.hid (Below.stp (Hid.out HS.2.2.2.2.2) hb)⟩ ?_
                      replace HS : (fun w' => w'.cell? ⟨lb, 0, none⟩ = some (.pointer (some ⟨r0, 0, none⟩)) ∧ w'.cell? ⟨lb, 2, none⟩ = some (.pointer (some ⟨r2, 0, none⟩)) ∧ w'.cell? ⟨lb, 3, none⟩ = some (.pointer (some ⟨r3, 0, none⟩)) ∧ w'.cell? ⟨sb, 0, none⟩ = some (.string str) ∧ w'.cell? ⟨sb, 1, none⟩ = some (.bool wide) ∧ Hid (Below w9.heap.size w9 w')) wn := ⟨keep3 hb HS.1, keep3 hb HS.2.1, keep3 hb HS.2.2.1, keep3 hb HS.2.2.2.1, keep3 hb HS.2.2.2.2.1, Lib.hid (Below.stp (Hid.out HS.2.2.2.2.2) hb)⟩
                      clear hK K hb
                      (try simp only [Act.put, List.setIfInBounds_toArray, List.set_cons_zero, List.set_cons_succ])
                      refine wpH_take (i := 11) (v := ?vc11) rfl (by kernel_rfl) (by kernel_rfl) (by kernel_rfl) (some 110) rfl (fun _ _ _ h => h) (Or.inl ⟨by rfl, ?yc11⟩) HS ?tc11
                      case yc11 => (intro w s0; obtain ⟨s1, s2, s3, s4, s5, s6⟩ := s0; go_simp; try with_reducible rfl)
                      (try simp only [Act.put, List.setIfInBounds_toArray, List.set_cons_zero, List.set_cons_succ])
                      refine wpH_take (i := 12) (v := ?vc12) rfl (by kernel_rfl) (by kernel_rfl) (by kernel_rfl) (some 111) rfl (fun _ _ _ h => h) (Or.inl ⟨by rfl, ?yc12⟩) HS ?tc12
                      case yc12 => (intro w s0; obtain ⟨s1, s2, s3, s4, s5, s6⟩ := s0; go_simp; try with_reducible rfl)
                      (try simp only [Act.put, List.setIfInBounds_toArray, List.set_cons_zero, List.set_cons_succ])
                      refine wpH_take (i := 13) (v := ?vc13) rfl (by kernel_rfl) (by kernel_rfl) (by kernel_rfl) (some 112) rfl (fun _ _ _ h => h) (Or.inl ⟨by rfl, ?yc13⟩) HS ?tc13
                      case yc13 => (intro w s0; obtain ⟨s1, s2, s3, s4, s5, s6⟩ := s0; go_simp; try with_reducible rfl)
                      (try simp only [Act.put, List.setIfInBounds_toArray, List.set_cons_zero, List.set_cons_succ])
                      refine wpH_take (i := 14) (v := ?vc14) rfl (by kernel_rfl) (by kernel_rfl) (by kernel_rfl) (some 113) rfl (fun _ _ _ h => h) (Or.inl ⟨by rfl, ?yc14⟩) HS ?tc14
                      case yc14 => (intro w s0; obtain ⟨s1, s2, s3, s4, s5, s6⟩ := s0; go_simp; try with_reducible rfl)
                      (try simp only [Act.put, List.setIfInBounds_toArray, List.set_cons_zero, List.set_cons_succ])
                      refine wpH_take (i := 15) (v := ?vc15) rfl (by kernel_rfl) (by kernel_rfl) (by kernel_rfl) (some 114) rfl (fun _ _ _ h => h) (Or.inl ⟨by rfl, ?yc15⟩) HS ?tc15
                      case yc15 => (intro w s0; obtain ⟨s1, s2, s3, s4, s5, s6⟩ := s0; go_simp; try with_reducible rfl)
                      (try simp only [Act.put, List.setIfInBounds_toArray, List.set_cons_zero, List.set_cons_succ])
                      refine wpH_take (i := 16) (v := ?vc16) rfl (by kernel_rfl) (by kernel_rfl) (by kernel_rfl) (some 115) rfl (fun _ _ _ h => h) (Or.inl ⟨by rfl, ?yc16⟩) HS ?tc16
                      case yc16 => (intro w s0; obtain ⟨s1, s2, s3, s4, s5, s6⟩ := s0; go_simp; try with_reducible rfl)
                      (try simp only [Act.put, List.setIfInBounds_toArray, List.set_cons_zero, List.set_cons_succ])
                      refine wpH_take (i := 18) (v := ?vc18) rfl (by kernel_rfl) (by kernel_rfl) (by kernel_rfl) (some 117) rfl (fun _ _ _ h => h) (Or.inl ⟨by rfl, ?yc18⟩) HS ?tc18
                      case yc18 => (intro w s0; obtain ⟨s1, s2, s3, s4, s5, s6⟩ := s0; go_simp; try with_reducible rfl)
                      (try simp only [Act.put, List.setIfInBounds_toArray, List.set_cons_zero, List.set_cons_succ])
                      refine wpH_take (i := 19) (v := ?vc19) rfl (by kernel_rfl) (by kernel_rfl) (by kernel_rfl) (some 118) rfl (fun _ _ _ h => h) (Or.inl ⟨by rfl, ?yc19⟩) HS ?tc19
                      case yc19 => (intro w s0; obtain ⟨s1, s2, s3, s4, s5, s6⟩ := s0; go_simp; try with_reducible rfl)
                      (try simp only [Act.put, List.setIfInBounds_toArray, List.set_cons_zero, List.set_cons_succ])
                      refine wpH_take (i := 20) (v := ?vc20) rfl (by kernel_rfl) (by kernel_rfl) (by kernel_rfl) (some 119) rfl (fun _ _ _ h => h) (Or.inl ⟨by rfl, ?yc20⟩) HS ?tc20
                      case yc20 => (intro w s0; obtain ⟨s1, s2, s3, s4, s5, s6⟩ := s0; go_simp; try with_reducible rfl)
                      (try simp only [Act.put, List.setIfInBounds_toArray, List.set_cons_zero, List.set_cons_succ])
                      refine wpH_one (i := 17) (by kernel_rfl) rfl ?_
                      intro K hK
                      rw [if_pos (by rfl)]
                      go_simp
                      refine (H2 _ (Hid.out HS.2.2.2.2.2)).out.mono ?_
                      rintro e wn ⟨rfl, hb⟩
                      refine hK _ _ ⟨keep3 hb HS.1, keep3 hb HS.2.1, keep3 hb HS.2.2.1, keep3 hb HS.2.2.2.1, keep3 hb HS.2.2.2.2.1, Lib.hid (Below.stp (Hid.out HS.2.2.2.2.2) hb)⟩ ?_
                      replace HS : (fun w' => w'.cell? ⟨lb, 0, none⟩ = some (.pointer (some ⟨r0, 0, none⟩)) ∧ w'.cell? ⟨lb, 2, none⟩ = some (.pointer (some ⟨r2, 0, none⟩)) ∧ w'.cell? ⟨lb, 3, none⟩ = some (.pointer (some ⟨r3, 0, none⟩)) ∧ w'.cell? ⟨sb, 0, none⟩ = some (.string str) ∧ w'.cell? ⟨sb, 1, none⟩ = some (.bool wide) ∧ Hid (Below w9.heap.size w9 w')) wn := ⟨keep3 hb HS.1, keep3 hb HS.2.1, keep3 hb HS.2.2.1, keep3 hb HS.2.2.2.1, keep3 hb HS.2.2.2.2.1, Lib.hid (Below.stp (Hid.out HS.2.2.2.2.2) hb)⟩
                      clear hK K hb
                      (try simp only [Act.put, List.setIfInBounds_toArray, List.set_cons_zero, List.set_cons_succ])
                      refine wpH_one (i := 21) (by kernel_rfl) rfl ?_
                      intro K hK
                      rw [if_pos (by rfl)]
                      go_simp
                      refine (H3 _ (Hid.out HS.2.2.2.2.2)).out.mono ?_
                      rintro e wn ⟨rfl, hb⟩
                      refine hK _ _ ⟨keep3 hb HS.1, keep3 hb HS.2.1, keep3 hb HS.2.2.1, keep3 hb HS.2.2.2.1, keep3 hb HS.2.2.2.2.1, Lib.hid (Below.stp (Hid.out HS.2.2.2.2.2) hb)⟩ ?_
                      replace HS : (fun w' => w'.cell? ⟨lb, 0, none⟩ = some (.pointer (some ⟨r0, 0, none⟩)) ∧ w'.cell? ⟨lb, 2, none⟩ = some (.pointer (some ⟨r2, 0, none⟩)) ∧ w'.cell? ⟨lb, 3, none⟩ = some (.pointer (some ⟨r3, 0, none⟩)) ∧ w'.cell? ⟨sb, 0, none⟩ = some (.string str) ∧ w'.cell? ⟨sb, 1, none⟩ = some (.bool wide) ∧ Hid (Below w9.heap.size w9 w')) wn := ⟨keep3 hb HS.1, keep3 hb HS.2.1, keep3 hb HS.2.2.1, keep3 hb HS.2.2.2.1, keep3 hb HS.2.2.2.2.1, Lib.hid (Below.stp (Hid.out HS.2.2.2.2.2) hb)⟩
                      clear hK K hb
                      (try simp only [Act.put, List.setIfInBounds_toArray, List.set_cons_zero, List.set_cons_succ])
                      refine wpH_take (i := 22) (v := ?vc22) rfl (by kernel_rfl) (by kernel_rfl) (by kernel_rfl) (some 121) rfl (fun _ _ _ h => h) (Or.inl ⟨by rfl, ?yc22⟩) HS ?tc22
                      case yc22 => (intro w s0; obtain ⟨s1, s2, s3, s4, s5, s6⟩ := s0; go_simp; try with_reducible rfl)
                      (try simp only [Act.put, List.setIfInBounds_toArray, List.set_cons_zero, List.set_cons_succ])
                      refine wpH_take (i := 23) (v := ?vc23) rfl (by kernel_rfl) (by kernel_rfl) (by kernel_rfl) (some 122) rfl (fun _ _ _ h => h) (Or.inl ⟨by rfl, ?yc23⟩) HS ?tc23
                      case yc23 => (intro w s0; obtain ⟨s1, s2, s3, s4, s5, s6⟩ := s0; go_simp; try with_reducible rfl)
                      (try simp only [Act.put, List.setIfInBounds_toArray, List.set_cons_zero, List.set_cons_succ])
                      refine wpH_take (i := 24) (v := ?vc24) rfl (by kernel_rfl) (by kernel_rfl) (by kernel_rfl) (some 123) rfl (fun _ _ _ h => h) (Or.inl ⟨by rfl, ?yc24⟩) HS ?tc24
                      case yc24 => (intro w s0; obtain ⟨s1, s2, s3, s4, s5, s6⟩ := s0; go_simp; try with_reducible rfl)
                      (try simp only [Act.put, List.setIfInBounds_toArray, List.set_cons_zero, List.set_cons_succ])
                      refine wpH_take (i := 25) (v := ?vc25) rfl (by kernel_rfl) (by kernel_rfl) (by kernel_rfl) (some 124) rfl (fun _ _ _ h => h) (Or.inl ⟨by rfl, ?yc25⟩) HS ?tc25
                      case yc25 => (intro w s0; obtain ⟨s1, s2, s3, s4, s5, s6⟩ := s0; go_simp; try with_reducible rfl)
                      (try simp only [Act.put, List.setIfInBounds_toArray, List.set_cons_zero, List.set_cons_succ])
                      refine wpH_take (i := 26) (v := ?vc26) rfl (by kernel_rfl) (by kernel_rfl) (by kernel_rfl) (some 125) rfl (fun _ _ _ h => h) (Or.inl ⟨by rfl, ?yc26⟩) HS ?tc26
                      case yc26 => (intro w s0; obtain ⟨s1, s2, s3, s4, s5, s6⟩ := s0; go_simp; try with_reducible rfl)
                      (try simp only [Act.put, List.setIfInBounds_toArray, List.set_cons_zero, List.set_cons_succ])
                      refine wpH_one (i := 27) (by kernel_rfl) rfl ?_
                      intro K hK
                      rw [if_pos (by rfl)]
                      go_simp
                      refine (HA _ (Hid.out HS.2.2.2.2.2)).out.mono ?_
                      rintro e wn ⟨rfl, hb⟩
                      refine hK _ _ ⟨keep3 hb HS.1, keep3 hb HS.2.1, keep3 hb HS.2.2.1, keep3 hb HS.2.2.2.1, keep3 hb HS.2.2.2.2.1, Lib.hid (Below.stp (Hid.out HS.2.2.2.2.2) hb)⟩ ?_
                      replace HS : (fun w' => w'.cell? ⟨lb, 0, none⟩ = some (.pointer (some ⟨r0, 0, none⟩)) ∧ w'.cell? ⟨lb, 2, none⟩ = some (.pointer (some ⟨r2, 0, none⟩)) ∧ w'.cell? ⟨lb, 3, none⟩ = some (.pointer (some ⟨r3, 0, none⟩)) ∧ w'.cell? ⟨sb, 0, none⟩ = some (.string str) ∧ w'.cell? ⟨sb, 1, none⟩ = some (.bool wide) ∧ Hid (Below w9.heap.size w9 w')) wn := ⟨keep3 hb HS.1, keep3 hb HS.2.1, keep3 hb HS.2.2.1, keep3 hb HS.2.2.2.1, keep3 hb HS.2.2.2.2.1, Lib.hid (Below.stp (Hid.out HS.2.2.2.2.2) hb)⟩
                      clear hK K hb
                      (try simp only [Act.put, List.setIfInBounds_toArray, List.set_cons_zero, List.set_cons_succ])
                      refine wpH_take (i := 28) (v := ?vc28) rfl (by kernel_rfl) (by kernel_rfl) (by kernel_rfl) (some 127) rfl (fun _ _ _ h => h) (Or.inl ⟨by rfl, ?yc28⟩) HS ?tc28
                      case yc28 => (intro w s0; obtain ⟨s1, s2, s3, s4, s5, s6⟩ := s0; go_simp; try with_reducible rfl)
                      (try simp only [Act.put, List.setIfInBounds_toArray, List.set_cons_zero, List.set_cons_succ])
                      refine wpH_take (i := 29) (v := undef) rfl (by kernel_rfl) (by kernel_rfl) (by kernel_rfl) (some 128) rfl (fun _ _ _ h => h) (Or.inr ⟨by rfl, rfl⟩) HS ?_
                      (try simp only [Act.put, List.setIfInBounds_toArray, List.set_cons_zero, List.set_cons_succ])
                      refine wpH_take (i := 30) (v := undef) rfl (by kernel_rfl) (by kernel_rfl) (by kernel_rfl) (some 129) rfl (fun _ _ _ h => h) (Or.inr ⟨by rfl, rfl⟩) HS ?_
                      (try simp only [Act.put, List.setIfInBounds_toArray, List.set_cons_zero, List.set_cons_succ])
                      refine wpH_take (i := 31) (v := undef) rfl (by kernel_rfl) (by kernel_rfl) (by kernel_rfl) (some 130) rfl (fun _ _ _ h => h) (Or.inr ⟨by rfl, rfl⟩) HS ?_
                      (try simp only [Act.put, List.setIfInBounds_toArray, List.set_cons_zero, List.set_cons_succ])
                      refine wpH_take (i := 32) (v := undef) rfl (by kernel_rfl) (by kernel_rfl) (by kernel_rfl) (some 131) rfl (fun _ _ _ h => h) (Or.inr ⟨by rfl, rfl⟩) HS ?_
                      (try simp only [Act.put, List.setIfInBounds_toArray, List.set_cons_zero, List.set_cons_succ])
                      refine wpH_take (i := 33) (v := undef) rfl (by kernel_rfl) (by kernel_rfl) (by kernel_rfl) (some 132) rfl (fun _ _ _ h => h) (Or.inr ⟨by rfl, rfl⟩) HS ?_
                      (try simp only [Act.put, List.setIfInBounds_toArray, List.set_cons_zero, List.set_cons_succ])
                      refine wpH_take (i := 34) (v := ?vc34) rfl (by kernel_rfl) (by kernel_rfl) (by kernel_rfl) (some 133) rfl (fun _ _ _ h => h) (Or.inl ⟨by rfl, ?yc34⟩) HS ?tc34
                      case yc34 => (intro w s0; obtain ⟨s1, s2, s3, s4, s5, s6⟩ := s0; go_simp; try with_reducible rfl)
                      (try simp only [Act.put, List.setIfInBounds_toArray, List.set_cons_zero, List.set_cons_succ])
                      refine wpH_take (i := 35) (v := ?vc35) rfl (by kernel_rfl) (by kernel_rfl) (by kernel_rfl) (some 134) rfl (fun _ _ _ h => h) (Or.inl ⟨by rfl, ?yc35⟩) HS ?tc35
                      case yc35 => (intro w s0; obtain ⟨s1, s2, s3, s4, s5, s6⟩ := s0; go_simp; try with_reducible rfl)
                      (try simp only [Act.put, List.setIfInBounds_toArray, List.set_cons_zero, List.set_cons_succ])
                      refine wpAnyH_done (by kernel_rfl) ?_ _
                      go_wp2_with (fail)
                      go_meet
                      case rel => exact ⟨rfl, HS.2.2.2.2.2⟩
                  · cases C
                    · have hS0 : (fun w' => w'.cell? ⟨lb, 0, none⟩ = some (.pointer (some ⟨r0, 0, none⟩)) ∧ w'.cell? ⟨lb, 2, none⟩ = some (.pointer (some ⟨r2, 0, none⟩)) ∧ w'.cell? ⟨lb, 3, none⟩ = some (.pointer (some ⟨r3, 0, none⟩)) ∧ w'.cell? ⟨sb, 0, none⟩ = some (.string str) ∧ w'.cell? ⟨sb, 1, none⟩ = some (.bool wide) ∧ Hid (Below w9.heap.size w9 w')) w9.drew := ⟨e0, e2, e3, d0, d1, Lib.hid (Below.refl _ _).drew⟩
                      refine wp_region_held_drew (S := (fun w' => w'.cell? ⟨lb, 0, none⟩ = some (.pointer (some ⟨r0, 0, none⟩)) ∧ w'.cell? ⟨lb, 2, none⟩ = some (.pointer (some ⟨r2, 0, none⟩)) ∧ w'.cell? ⟨lb, 3, none⟩ = some (.pointer (some ⟨r3, 0, none⟩)) ∧ w'.cell? ⟨sb, 0, none⟩ = some (.string str) ∧ w'.cell? ⟨sb, 1, none⟩ = some (.bool wide) ∧ Hid (Below w9.heap.size w9 w'))) (by kernel_rfl) hS0 (fun HS => ?_)
                      clear hS0
                      refine wpH_take (i := 0) (v := ?vd0) rfl (by kernel_rfl) (by kernel_rfl) (by kernel_rfl) (some 99) rfl (fun _ _ _ h => h) (Or.inl ⟨by rfl, ?yd0⟩) HS ?td0
                      case yd0 => (intro w s0; obtain ⟨s1, s2, s3, s4, s5, s6⟩ := s0; go_simp; try with_reducible rfl)
                      (try simp only [Act.put, List.setIfInBounds_toArray, List.set_cons_zero, List.set_cons_succ])
                      refine wpH_take (i := 1) (v := ?vd1) rfl (by kernel_rfl) (by kernel_rfl) (by kernel_rfl) (some 100) rfl (fun _ _ _ h => h) (Or.inl ⟨by rfl, ?yd1⟩) HS ?td1
                      case yd1 => (intro w s0; obtain ⟨s1, s2, s3, s4, s5, s6⟩ := s0; go_simp; try with_reducible rfl)
                      (try simp only [Act.put, List.setIfInBounds_toArray, List.set_cons_zero, List.set_cons_succ])
                      refine wpH_take (i := 2) (v := ?vd2) rfl (by kernel_rfl) (by kernel_rfl) (by kernel_rfl) (some 101) rfl (fun _ _ _ h => h) (Or.inl ⟨by rfl, ?yd2⟩) HS ?td2
                      case yd2 => (intro w s0; obtain ⟨s1, s2, s3, s4, s5, s6⟩ := s0; go_simp; try with_reducible rfl)
                      (try simp only [Act.put, List.setIfInBounds_toArray, List.set_cons_zero, List.set_cons_succ])
                      refine wpH_take (i := 4) (v := ?vd4) rfl (by kernel_rfl) (by kernel_rfl) (by kernel_rfl) (some 103) rfl (fun _ _ _ h => h) (Or.inl ⟨by rfl, ?yd4⟩) HS ?td4
                      case yd4 => (intro w s0; obtain ⟨s1, s2, s3, s4, s5, s6⟩ := s0; go_simp; try with_reducible rfl)
                      (try simp only [Act.put, List.setIfInBounds_toArray, List.set_cons_zero, List.set_cons_succ])
                      refine wpH_take (i := 5) (v := ?vd5) rfl (by kernel_rfl) (by kernel_rfl) (by kernel_rfl) (some 104) rfl (fun _ _ _ h => h) (Or.inl ⟨by rfl, ?yd5⟩) HS ?td5
                      case yd5 => (intro w s0; obtain ⟨s1, s2, s3, s4, s5, s6⟩ := s0; go_simp; try with_reducible rfl)
                      (try simp only [Act.put, List.setIfInBounds_toArray, List.set_cons_zero, List.set_cons_succ])
                      refine wpH_one (i := 3) (by kernel_rfl) rfl ?_
                      intro K hK
                      rw [if_pos (by rfl)]
                      go_simp
                      refine (H0 _ (Hid.out HS.2.2.2.2.2)).out.mono ?_
                      rintro e wn ⟨rfl, hb⟩
                      refine hK _ _ ⟨keep3 hb HS.1, keep3 hb HS.2.1, keep3 hb HS.2.2.1, keep3 hb HS.2.2.2.1, keep3 hb HS.2.2.2.2.1, Lib.hid (Below.stp (Hid.out HS.2.2.2.2.2) hb)⟩ ?_
                      replace HS : (fun w' => w'.cell? ⟨lb, 0, none⟩ = some (.pointer (some ⟨r0, 0, none⟩)) ∧ w'.cell? ⟨lb, 2, none⟩ = some (.pointer (some ⟨r2, 0, none⟩)) ∧ w'.cell? ⟨lb, 3, none⟩ = some (.pointer (some ⟨r3, 0, none⟩)) ∧ w'.cell? ⟨sb, 0, none⟩ = some (.string str) ∧ w'.cell? ⟨sb, 1, none⟩ = some (.bool wide) ∧ Hid (Below w9.heap.size w9 w')) wn := ⟨keep3 hb HS.1, keep3 hb HS.2.1, keep3 hb HS.2.2.1, keep3 hb HS.2.2.2.1, keep3 hb HS.2.2.2.2.1, Lib.hid (Below.stp (Hid.out HS.2.2.2.2.2) hb)⟩
                      clear hK K hb
                      (try simp only [Act.put, List.setIfInBounds_toArray, List.set_cons_zero, List.set_cons_succ])
                      refine wpH_one (i := 6) (by kernel_rfl) rfl ?_
                      intro K hK
                      rw [if_pos (by rfl)]
                      go_simp
                      refine (HA _ (Hid.out HS.2.2.2.2.2)).out.mono ?_
                      rintro e wn ⟨rfl, hb⟩
                      refine hK _ _ ⟨keep3 hb HS.1, keep3 hb HS.2.1, keep3 hb HS.2.2.1, keep3 hb HS.2.2.2.1, keep3 hb HS.2.2.2.2.1, Lib.hid (Below.stp (Hid.out HS.2.2.2.2.2) hb)⟩ ?_
                      replace HS : (fun w' => w'.cell? ⟨lb, 0, none⟩ = some (.pointer (some ⟨r0, 0, none⟩)) ∧ w'.cell? ⟨lb, 2, none⟩ = some (.pointer (some ⟨r2, 0, none⟩)) ∧ w'.cell? ⟨lb, 3, none⟩ = some (.pointer (some ⟨r3, 0, none⟩)) ∧ w'.cell? ⟨sb, 0, none⟩ = some (.string str) ∧ w'.cell? ⟨sb, 1, none⟩ = some (.bool wide) ∧ Hid (Below w9.heap.size w9 w')) wn := ⟨keep3 hb HS.1, keep3 hb HS.2.1, keep3 hb HS.2.2.1, keep3 hb HS.2.2.2.1, keep3 hb HS.2.2.2.2.1, Lib.hid (Below.stp (Hid.out HS.2.2.2.2.2) hb)⟩
                      clear hK K hb
                      (try simp only [Act.put, List.setIfInBounds_toArray, List.set_cons_zero, List.set_cons_succ])
                      refine wpH_take (i := 7) (v := ?vd7) rfl (by kernel_rfl) (by kernel_rfl) (by kernel_rfl) (some 106) rfl (fun _ _ _ h => h) (Or.inl ⟨by rfl, ?yd7⟩) HS ?td7
                      case yd7 => (intro w s0; obtain ⟨s1, s2, s3, s4, s5, s6⟩ := s0; go_simp; try with_reducible rfl)
                      (try simp only [Act.put, List.setIfInBounds_toArray, List.set_cons_zero, List.set_cons_succ])
                      refine wpH_take (i := 8) (v := ?vd8) rfl (by kernel_rfl) (by kernel_rfl) (by kernel_rfl) (some 107) rfl (fun _ _ _ h => h) (Or.inl ⟨by rfl, ?yd8⟩) HS ?td8
                      case yd8 => (intro w s0; obtain ⟨s1, s2, s3, s4, s5, s6⟩ := s0; go_simp; try with_reducible rfl)
                      (try simp only [Act.put, List.setIfInBounds_toArray, List.set_cons_zero, List.set_cons_succ])
                      refine wpH_take (i := 9) (v := ?vd9) rfl (by kernel_rfl) (by kernel_rfl) (by kernel_rfl) (some 108) rfl (fun _ _ _ h => h) (Or.inl ⟨by rfl, ?yd9⟩) HS ?td9
                      case yd9 => (intro w s0; obtain ⟨s1, s2, s3, s4, s5, s6⟩ := s0; go_simp; try with_reducible rfl)
                      (try simp only [Act.put, List.setIfInBounds_toArray, List.set_cons_zero, List.set_cons_succ])
                      refine wpH_one (i := 10) (by kernel_rfl) rfl ?_
                      intro K hK
                      rw [if_pos (by rfl)]
                      go_simp
                      refine (HB _ (Hid.out HS.2.2.2.2.2)).out.mono ?_
                      rintro e wn ⟨rfl, hb⟩
                      refine hK _ _ ⟨keep3 hb HS.1, keep3 hb HS.2.1, keep3 hb HS.2.2.1, keep3 hb HS.2.2.2.1, keep3 hb HS.2.2.2.2.1, Lib.hid (Below.stp (Hid.out HS.2.2.2.2.2) hb)⟩ ?_
                      replace HS : (fun w' => w'.cell? ⟨lb, 0, none⟩ = some (.pointer (some ⟨r0, 0, none⟩)) ∧ w'.cell? ⟨lb, 2, none⟩ = some (.pointer (some ⟨r2, 0, none⟩)) ∧ w'.cell? ⟨lb, 3, none⟩ = some (.pointer (some ⟨r3, 0, none⟩)) ∧ w'.cell? ⟨sb, 0, none⟩ = some (.string str) ∧ w'.cell? ⟨sb, 1, none⟩ = some (.bool wide) ∧ Hid (Below w9.heap.size w9 w')) wn := ⟨keep3 hb HS.1, keep3 hb HS.2.1, keep3 hb HS.2.2.1, keep3 hb HS.2.2.2.1, keep3 hb HS.2.2.2.2.1, Lib.hid (Below.stp (Hid.out HS.2.2.2.2.2) hb)⟩
                      clear hK K hb
                      (try simp only [Act.put, List.setIfInBounds_toArray, List.set_cons_zero, List.set_cons_succ])
                      refine wpH_take (i := 11) (v := ?vd11) rfl (by kernel_rfl) (by kernel_rfl) (by kernel_rfl) (some 110) rfl (fun _ _ _ h => h) (Or.inl ⟨by rfl, ?yd11⟩) HS ?td11
                      case yd11 => (intro w s0; obtain ⟨s1, s2, s3, s4, s5, s6⟩ := s0; go_simp; try with_reducible rfl)
                      (try simp only [Act.put, List.setIfInBounds_toArray, List.set_cons_zero, List.set_cons_succ])
                      refine wpH_take (i := 12) (v := ?vd12) rfl (by kernel_rfl) (by kernel_rfl) (by kernel_rfl) (some 111) rfl (fun _ _ _ h => h) (Or.inl ⟨by rfl, ?yd12⟩) HS ?td12
                      case yd12 => (intro w s0; obtain ⟨s1, s2, s3, s4, s5, s6⟩ := s0; go_simp; try with_reducible rfl)
                      (try simp only [Act.put, List.setIfInBounds_toArray, List.set_cons_zero, List.set_cons_succ])
                      refine wpH_take (i := 13) (v := ?vd13) rfl (by kernel_rfl) (by kernel_rfl) (by kernel_rfl) (some 112) rfl (fun _ _ _ h => h) (Or.inl ⟨by rfl, ?yd13⟩) HS ?td13
                      case yd13 => (intro w s0; obtain ⟨s1, s2, s3, s4, s5, s6⟩ := s0; go_simp; try with_reducible rfl)
                      (try simp only [Act.put, List.setIfInBounds_toArray, List.set_cons_zero, List.set_cons_succ])
                      refine wpH_take (i := 14) (v := ?vd14) rfl (by kernel_rfl) (by kernel_rfl) (by kernel_rfl) (some 113) rfl (fun _ _ _ h => h) (Or.inl ⟨by rfl, ?yd14⟩) HS ?td14
                      case yd14 => (intro w s0; obtain ⟨s1, s2, s3, s4, s5, s6⟩ := s0; go_simp; try with_reducible rfl)
                      (try simp only [Act.put, List.setIfInBounds_toArray, List.set_cons_zero, List.set_cons_succ])
                      refine wpH_take (i := 15) (v := ?vd15) rfl (by kernel_rfl) (by kernel_rfl) (by kernel_rfl) (some 114) rfl (fun _ _ _ h => h) (Or.inl ⟨by rfl, ?yd15⟩) HS ?td15
                      case yd15 => (intro w s0; obtain ⟨s1, s2, s3, s4, s5, s6⟩ := s0; go_simp; try with_reducible rfl)
                      (try simp only [Act.put, List.setIfInBounds_toArray, List.set_cons_zero, List.set_cons_succ])
                      refine wpH_take (i := 16) (v := ?vd16) rfl (by kernel_rfl) (by kernel_rfl) (by kernel_rfl) (some 115) rfl (fun _ _ _ h => h) (Or.inl ⟨by rfl, ?yd16⟩) HS ?td16
                      case yd16 => (intro w s0; obtain ⟨s1, s2, s3, s4, s5, s6⟩ := s0; go_simp; try with_reducible rfl)
                      (try simp only [Act.put, List.setIfInBounds_toArray, List.set_cons_zero, List.set_cons_succ])
                      refine wpH_take (i := 18) (v := ?vd18) rfl (by kernel_rfl) (by kernel_rfl) (by kernel_rfl) (some 117) rfl (fun _ _ _ h => h) (Or.inl ⟨by rfl, ?yd18⟩) HS ?td18
                      case yd18 => (intro w s0; obtain ⟨s1, s2, s3, s4, s5, s6⟩ := s0; go_simp; try with_reducible rfl)
                      (try simp only [Act.put, List.setIfInBounds_toArray, List.set_cons_zero, List.set_cons_succ])
                      refine wpH_take (i := 19) (v := ?vd19) rfl (by kernel_rfl) (by kernel_rfl) (by kernel_rfl) (some 118) rfl (fun _ _ _ h => h) (Or.inl ⟨by rfl, ?yd19⟩) HS ?td19
                      case yd19 => (intro w s0; obtain ⟨s1, s2, s3, s4, s5, s6⟩ := s0; go_simp; try with_reducible rfl)
                      (try simp only [Act.put, List.setIfInBounds_toArray, List.set_cons_zero, List.set_cons_succ])
                      refine wpH_take (i := 20) (v := ?vd20) rfl (by kernel_rfl) (by kernel_rfl) (by kernel_rfl) (some 119) rfl (fun _ _ _ h => h) (Or.inl ⟨by rfl, ?yd20⟩) HS ?td20
                      case yd20 => (intro w s0; obtain ⟨s1, s2, s3, s4, s5, s6⟩ := s0; go_simp; try with_reducible rfl)
                      (try simp only [Act.put, List.setIfInBounds_toArray, List.set_cons_zero, List.set_cons_succ])
                      refine wpH_one (i := 17) (by kernel_rfl) rfl ?_
                      intro K hK
                      rw [if_pos (by rfl)]
                      go_simp
                      refine (H2 _ (Hid.out HS.2.2.2.2.2)).out.mono ?_
                      rintro e wn ⟨rfl, hb⟩
                      refine hK _ _ ⟨keep3 hb HS.1, keep3 hb HS.2.1, keep3 hb HS.2.2.1, keep3 hb HS.2.2.2.1, keep3 hb HS.2.2.2.2.1, Lib.hid (Below.stp (Hid.out HS.2.2.2.2.2) hb)⟩ ?_
                      replace HS : (fun w' => w'.cell? ⟨lb, 0, none⟩ = some (.pointer (some ⟨r0, 0, none⟩)) ∧ w'.cell? ⟨lb, 2, none⟩ = some (.pointer (some ⟨r2, 0, none⟩)) ∧ w'.cell? ⟨lb, 3, none⟩ = some (.pointer (some ⟨r3, 0, none⟩)) ∧ w'.cell? ⟨sb, 0, none⟩ = some (.string str) ∧ w'.cell? ⟨sb, 1, none⟩ = some (.bool wide) ∧ Hid (Below w9.heap.size w9 w')) wn := ⟨keep3 hb HS.1, keep3 hb HS.2.1, keep3 hb HS.2.2.1, keep3 hb HS.2.2.2.1, keep3 hb HS.2.2.2.2.1, Lib.hid (Below.stp (Hid.out HS.2.2.2.2.2) hb)⟩
                      clear hK K hb
                      (try simp only [Act.put, List.setIfInBounds_toArray, List.set_cons_zero, List.set_cons_succ])
                      refine wpH_one (i := 21) (by kernel_rfl) rfl ?_
                      intro K hK
                      rw [if_pos (by rfl)]
                      go_simp
                      refine (H3 _ (Hid.out HS.2.2.2.2.2)).out.mono ?_
                      rintro e wn ⟨rfl, hb⟩
                      refine hK _ _ ⟨keep3 hb HS.1, keep3 hb HS.2.1, keep3 hb HS.2.2.1, keep3 hb HS.2.2.2.1, keep3 hb HS.2.2.2.2.1, Lib.hid (Below.stp (Hid.out HS.2.2.2.2.2) hb)⟩ ?_
                      replace HS : (fun w' => w'.cell? ⟨lb, 0, none⟩ = some (.pointer (some ⟨r0, 0, none⟩)) ∧ w'.cell? ⟨lb, 2, none⟩ = some (.pointer (some ⟨r2, 0, none⟩)) ∧ w'.cell? ⟨lb, 3, none⟩ = some (.pointer (some ⟨r3, 0, none⟩)) ∧ w'.cell? ⟨sb, 0, none⟩ = some (.string str) ∧ w'.cell? ⟨sb, 1, none⟩ = some (.bool wide) ∧ Hid (Below w9.heap.size w9 w')) wn := ⟨keep3 hb HS.1, keep3 hb HS.2.1, keep3 hb HS.2.2.1, keep3 hb HS.2.2.2.1, keep3 hb HS.2.2.2.2.1, Lib.hid (Below.stp (Hid.out HS.2.2.2.2.2) hb)⟩
                      clear hK K hb
                      (try simp only [Act.put, List.setIfInBounds_toArray, List.set_cons_zero, List.set_cons_succ])
                      refine wpH_take (i := 22) (v := ?vd22) rfl (by kernel_rfl) (by kernel_rfl) (by kernel_rfl) (some 121) rfl (fun _ _ _ h => h) (Or.inl ⟨by rfl, ?yd22⟩) HS ?td22
                      case yd22 => (intro w s0; obtain ⟨s1, s2, s3, s4, s5, s6⟩ := s0; go_simp; try with_reducible rfl)
                      (try simp only [Act.put, List.setIfInBounds_toArray, List.set_cons_zero, List.set_cons_succ])
                      refine wpH_take (i := 23) (v := ?vd23) rfl (by kernel_rfl) (by kernel_rfl) (by kernel_rfl) (some 122) rfl (fun _ _ _ h => h) (Or.inl ⟨by rfl, ?yd23⟩) HS ?td23
                      case yd23 => (intro w s0; obtain ⟨s1, s2, s3, s4, s5, s6⟩ := s0; go_simp; try with_reducible rfl)
                      (try simp only [Act.put, List.setIfInBounds_toArray, List.set_cons_zero, List.set_cons_succ])
                      refine wpH_take (i := 24) (v := ?vd24) rfl (by kernel_rfl) (by kernel_rfl) (by kernel_rfl) (some 123) rfl (fun _ _ _ h => h) (Or.inl ⟨by rfl, ?yd24⟩) HS ?td24
                      case yd24 => (intro w s0; obtain ⟨s1, s2, s3, s4, s5, s6⟩ := s0; go_simp; try with_reducible rfl)
                      (try simp only [Act.put, List.setIfInBounds_toArray, List.set_cons_zero, List.set_cons_succ])
                      refine wpH_take (i := 25) (v := ?vd25) rfl (by kernel_rfl) (by kernel_rfl) (by kernel_rfl) (some 124) rfl (fun _ _ _ h => h) (Or.inl ⟨by rfl, ?yd25⟩) HS ?td25
                      case yd25 => (intro w s0; obtain ⟨s1, s2, s3, s4, s5, s6⟩ := s0; go_simp; try with_reducible rfl)
                      (try simp only [Act.put, List.setIfInBounds_toArray, List.set_cons_zero, List.set_cons_succ])
                      refine wpH_take (i := 26) (v := ?vd26) rfl (by kernel_rfl) (by kernel_rfl) (by kernel_rfl) (some 125) rfl (fun _ _ _ h => h) (Or.inl ⟨by rfl, ?yd26⟩) HS ?td26
                      case yd26 => (intro w s0; obtain ⟨s1, s2, s3, s4, s5, s6⟩ := s0; go_simp; try with_reducible rfl)
                      (try simp only [Act.put, List.setIfInBounds_toArray, List.set_cons_zero, List.set_cons_succ])
                      refine wpH_one (i := 27) (by kernel_rfl) rfl ?_
                      intro K hK
                      rw [if_pos (by rfl)]
                      go_simp
                      refine (HA _ (Hid.out HS.2.2.2.2.2)).out.mono ?_
                      rintro e wn ⟨rfl, hb⟩
                      refine hK _ _ ⟨keep3 hb HS.1, keep3 hb HS.2.1, keep3 hb HS.2.2.1, keep3 hb HS.2.2.2.1, keep3 hb HS.2.2.2.2.1, Lib.hid (Below.stp (Hid.out HS.2.2.2.2.2) hb)⟩ ?_
                      replace HS : (fun w' => w'.cell? ⟨lb, 0, none⟩ = some (.pointer (some ⟨r0, 0, none⟩)) ∧ w'.cell? ⟨lb, 2, none⟩ = some (.pointer (some ⟨r2, 0, none⟩)) ∧ w'.cell? ⟨lb, 3, none⟩ = some (.pointer (some ⟨r3, 0, none⟩)) ∧ w'.cell? ⟨sb, 0, none⟩ = some (.string str) ∧ w'.cell? ⟨sb, 1, none⟩ = some (.bool wide) ∧ Hid (Below w9.heap.size w9 w')) wn := ⟨keep3 hb HS.1, keep3 hb HS.2.1, keep3 hb HS.2.2.1, keep3 hb HS.2.2.2.1, keep3 hb HS.2.2.2.2.1, Lib.hid (Below.stp (Hid.out HS.2.2.2.2.2) hb)⟩
                      clear hK K hb
                      (try simp only [Act.put, List.setIfInBounds_toArray, List.set_cons_zero, List.set_cons_succ])
                      refine wpH_take (i := 28) (v := ?vd28) rfl (by kernel_rfl) (by kernel_rfl) (by kernel_rfl) (some 127) rfl (fun _ _ _ h => h) (Or.inl ⟨by rfl, ?yd28⟩) HS ?td28
                      case yd28 => (intro w s0; obtain ⟨s1, s2, s3, s4, s5, s6⟩ := s0; go_simp; try with_reducible rfl)
                      (try simp only [Act.put, List.setIfInBounds_toArray, List.set_cons_zero, List.set_cons_succ])
                      refine wpH_take (i := 29) (v := undef) rfl (by kernel_rfl) (by kernel_rfl) (by kernel_rfl) (some 128) rfl (fun _ _ _ h => h) (Or.inr ⟨by rfl, rfl⟩) HS ?_
                      (try simp only [Act.put, List.setIfInBounds_toArray, List.set_cons_zero, List.set_cons_succ])
                      refine wpH_take (i := 30) (v := undef) rfl (by kernel_rfl) (by kernel_rfl) (by kernel_rfl) (some 129) rfl (fun _ _ _ h => h) (Or.inr ⟨by rfl, rfl⟩) HS ?_
                      (try simp only [Act.put, List.setIfInBounds_toArray, List.set_cons_zero, List.set_cons_succ])
                      refine wpH_take (i := 31) (v := undef) rfl (by kernel_rfl) (by kernel_rfl) (by kernel_rfl) (some 130) rfl (fun _ _ _ h => h) (Or.inr ⟨by rfl, rfl⟩) HS ?_
                      (try simp only [Act.put, List.setIfInBounds_toArray, List.set_cons_zero, List.set_cons_succ])
                      refine wpH_take (i := 32) (v := undef) rfl (by kernel_rfl) (by kernel_rfl) (by kernel_rfl) (some 131) rfl (fun _ _ _ h => h) (Or.inr ⟨by rfl, rfl⟩) HS ?_
                      (try simp only [Act.put, List.setIfInBounds_toArray, List.set_cons_zero, List.set_cons_succ])
                      refine wpH_take (i := 33) (v := undef) rfl (by kernel_rfl) (by kernel_rfl) (by kernel_rfl) (some 132) rfl (fun _ _ _ h => h) (Or.inr ⟨by rfl, rfl⟩) HS ?_
                      (try simp only [Act.put, List.setIfInBounds_toArray, List.set_cons_zero, List.set_cons_succ])
                      refine wpH_take (i := 34) (v := ?vd34) rfl (by kernel_rfl) (by kernel_rfl) (by kernel_rfl) (some 133) rfl (fun _ _ _ h => h) (Or.inl ⟨by rfl, ?yd34⟩) HS ?td34
                      case yd34 => (intro w s0; obtain ⟨s1, s2, s3, s4, s5, s6⟩ := s0; go_simp; try with_reducible rfl)
                      (try simp only [Act.put, List.setIfInBounds_toArray, List.set_cons_zero, List.set_cons_succ])
                      refine wpH_take (i := 35) (v := ?vd35) rfl (by kernel_rfl) (by kernel_rfl) (by kernel_rfl) (some 134) rfl (fun _ _ _ h => h) (Or.inl ⟨by rfl, ?yd35⟩) HS ?td35
                      case yd35 => (intro w s0; obtain ⟨s1, s2, s3, s4, s5, s6⟩ := s0; go_simp; try with_reducible rfl)
                      (try simp only [Act.put, List.setIfInBounds_toArray, List.set_cons_zero, List.set_cons_succ])
                      refine wpAnyH_done (by kernel_rfl) ?_ _
                      go_wp2_with (fail)
                      go_meet
                      case rel => exact ⟨rfl, HS.2.2.2.2.2⟩
                    · have hS0 : (fun w' => w'.cell? ⟨lb, 0, none⟩ = some (.pointer (some ⟨r0, 0, none⟩)) ∧ w'.cell? ⟨lb, 2, none⟩ = some (.pointer (some ⟨r2, 0, none⟩)) ∧ w'.cell? ⟨lb, 3, none⟩ = some (.pointer (some ⟨r3, 0, none⟩)) ∧ w'.cell? ⟨sb, 0, none⟩ = some (.string str) ∧ w'.cell? ⟨sb, 1, none⟩ = some (.bool wide) ∧ Hid (Below w9.heap.size w9 w')) w9.drew := ⟨e0, e2, e3, d0, d1, Lib.hid (Below.refl _ _).drew⟩
                      refine wp_region_held_drew (S := (fun w' => w'.cell? ⟨lb, 0, none⟩ = some (.pointer (some ⟨r0, 0, none⟩)) ∧ w'.cell? ⟨lb, 2, none⟩ = some (.pointer (some ⟨r2, 0, none⟩)) ∧ w'.cell? ⟨lb, 3, none⟩ = some (.pointer (some ⟨r3, 0, none⟩)) ∧ w'.cell? ⟨sb, 0, none⟩ = some (.string str) ∧ w'.cell? ⟨sb, 1, none⟩ = some (.bool wide) ∧ Hid (Below w9.heap.size w9 w'))) (by kernel_rfl) hS0 (fun HS => ?_)
                      clear hS0
                      refine wpH_take (i := 0) (v := ?ve0) rfl (by kernel_rfl) (by kernel_rfl) (by kernel_rfl) (some 99) rfl (fun _ _ _ h => h) (Or.inl ⟨by rfl, ?ye0⟩) HS ?te0
                      case ye0 => (intro w s0; obtain ⟨s1, s2, s3, s4, s5, s6⟩ := s0; go_simp; try with_reducible rfl)
                      (try simp only [Act.put, List.setIfInBounds_toArray, List.set_cons_zero, List.set_cons_succ])
                      refine wpH_take (i := 1) (v := ?ve1) rfl (by kernel_rfl) (by kernel_rfl) (by kernel_rfl) (some 100) rfl (fun _ _ _ h => h) (Or.inl ⟨by rfl, ?ye1⟩) HS ?te1
                      case ye1 => (intro w s0; obtain ⟨s1, s2, s3, s4, s5, s6⟩ := s0; go_simp; try with_reducible rfl)
                      (try simp only [Act.put, List.setIfInBounds_toArray, List.set_cons_zero, List.set_cons_succ])
                      refine wpH_take (i := 2) (v := ?ve2) rfl (by kernel_rfl) (by kernel_rfl) (by kernel_rfl) (some 101) rfl (fun _ _ _ h => h) (Or.inl ⟨by rfl, ?ye2⟩) HS ?te2
                      case ye2 => (intro w s0; obtain ⟨s1, s2, s3, s4, s5, s6⟩ := s0; go_simp; try with_reducible rfl)
                      (try simp only [Act.put, List.setIfInBounds_toArray, List.set_cons_zero, List.set_cons_succ])
                      refine wpH_take (i := 4) (v := ?ve4) rfl (by kernel_rfl) (by kernel_rfl) (by kernel_rfl) (some 103) rfl (fun _ _ _ h => h) (Or.inl ⟨by rfl, ?ye4⟩) HS ?te4
                      case ye4 => (intro w s0; obtain ⟨s1, s2, s3, s4, s5, s6⟩ := s0; go_simp; try with_reducible rfl)
                      (try simp only [Act.put, List.setIfInBounds_toArray, List.set_cons_zero, List.set_cons_succ])
                      refine wpH_take (i := 5) (v := ?ve5) rfl (by kernel_rfl) (by kernel_rfl) (by kernel_rfl) (some 104) rfl (fun _ _ _ h => h) (Or.inl ⟨by rfl, ?ye5⟩) HS ?te5
                      case ye5 => (intro w s0; obtain ⟨s1, s2, s3, s4, s5, s6⟩ := s0; go_simp; try with_reducible rfl)
                      (try simp only [Act.put, List.setIfInBounds_toArray, List.set_cons_zero, List.set_cons_succ])
                      refine wpH_one (i := 3) (by kernel_rfl) rfl ?_
                      intro K hK
                      rw [if_pos (by rfl)]
                      go_simp
                      refine (H0 _ (Hid.out HS.2.2.2.2.2)).out.mono ?_
                      rintro e wn ⟨rfl, hb⟩
                      refine hK _ _ ⟨keep3 hb HS.1, keep3 hb HS.2.1, keep3 hb HS.2.2.1, keep3 hb HS.2.2.2.1, keep3 hb HS.2.2.2.2.1, Lib.hid (Below.stp (Hid.out HS.2.2.2.2.2) hb)⟩ ?_
                      replace HS : (fun w' => w'.cell? ⟨lb, 0, none⟩ = some (.pointer (some ⟨r0, 0, none⟩)) ∧ w'.cell? ⟨lb, 2, none⟩ = some (.pointer (some ⟨r2, 0, none⟩)) ∧ w'.cell? ⟨lb, 3, none⟩ = some (.pointer (some ⟨r3, 0, none⟩)) ∧ w'.cell? ⟨sb, 0, none⟩ = some (.string str) ∧ w'.cell? ⟨sb, 1, none⟩ = some (.bool wide) ∧ Hid (Below w9.heap.size w9 w')) wn := ⟨keep3 hb HS.1, keep3 hb HS.2.1, keep3 hb HS.2.2.1, keep3 hb HS.2.2.2.1, keep3 hb HS.2.2.2.2.1, Lib.hid (Below.stp (Hid.out HS.2.2.2.2.2) hb)⟩
                      clear hK K hb
                      (try simp only [Act.put, List.setIfInBounds_toArray, List.set_cons_zero, List.set_cons_succ])
                      refine wpH_one (i := 6) (by kernel_rfl) rfl ?_
                      intro K hK
                      rw [if_pos (by rfl)]
                      go_simp
                      refine (HA _ (Hid.out HS.2.2.2.2.2)).out.mono ?_
                      rintro e wn ⟨rfl, hb⟩
                      refine hK _ _ ⟨keep3 hb HS.1, keep3 hb HS.2.1, keep3 hb HS.2.2.1, keep3 hb HS.2.2.2.1, keep3 hb HS.2.2.2.2.1, Lib.hid (Below.stp (Hid.out HS.2.2.2.2.2) hb)⟩ ?_
                      replace HS : (fun w' => w'.cell? ⟨lb, 0, none⟩ = some (.pointer (some ⟨r0, 0, none⟩)) ∧ w'.cell? ⟨lb, 2, none⟩ = some (.pointer (some ⟨r2, 0, none⟩)) ∧ w'.cell? ⟨lb, 3, none⟩ = some (.pointer (some ⟨r3, 0, none⟩)) ∧ w'.cell? ⟨sb, 0, none⟩ = some (.string str) ∧ w'.cell? ⟨sb, 1, none⟩ = some (.bool wide) ∧ Hid (Below w9.heap.size w9 w')) wn := ⟨keep3 hb HS.1, keep3 hb HS.2.1, keep3 hb HS.2.2.1, keep3 hb HS.2.2.2.1, keep3 hb HS.2.2.2.2.1, Lib.hid (Below.stp (Hid.out HS.2.2.2.2.2) hb)⟩
                      clear hK K hb
                      (try simp only [Act.put, List.setIfInBounds_toArray, List.set_cons_zero, List.set_cons_succ])
                      refine wpH_take (i := 7) (v := ?ve7) rfl (by kernel_rfl) (by kernel_rfl) (by kernel_rfl) (some 106) rfl (fun _ _ _ h => h) (Or.inl ⟨by rfl, ?ye7⟩) HS ?te7
                      case ye7 => (intro w s0; obtain ⟨s1, s2, s3, s4, s5, s6⟩ := s0; go_simp; try with_reducible rfl)
                      (try simp only [Act.put, List.setIfInBounds_toArray, List.set_cons_zero, List.set_cons_succ])
                      refine wpH_take (i := 8) (v := ?ve8) rfl (by kernel_rfl) (by kernel_rfl) (by kernel_rfl) (some 107) rfl (fun _ _ _ h => h) (Or.inl ⟨by rfl, ?ye8⟩) HS ?te8
                      case ye8 => (intro w s0; obtain ⟨s1, s2, s3, s4, s5, s6⟩ := s0; go_simp; try with_reducible rfl)
                      (try simp only [Act.put, List.setIfInBounds_toArray, List.set_cons_zero, List.set_cons_succ])
                      refine wpH_take (i := 9) (v := ?ve9) rfl (by kernel_rfl) (by kernel_rfl) (by kernel_rfl) (some 108) rfl (fun _ _ _ h => h) (Or.inl ⟨by rfl, ?ye9⟩) HS ?te9
                      case ye9 => (intro w s0; obtain ⟨s1, s2, s3, s4, s5, s6⟩ := s0; go_simp; try with_reducible rfl)
                      (try simp only [Act.put, List.setIfInBounds_toArray, List.set_cons_zero, List.set_cons_succ])
                      refine wpH_one (i := 10) (by kernel_rfl) rfl ?_
                      intro K hK
                      rw [if_pos (by rfl)]
                      go_simp
                      refine (HB _ (Hid.out HS.2.2.2.2.2)).out.mono ?_
                      rintro e wn ⟨rfl, hb⟩
                      refine hK _ _ ⟨keep3 hb HS.1, keep3 hb HS.2.1, keep3 hb HS.2.2.1, keep3 hb HS.2.2.2.1, keep3 hb HS.2.2.2.2.1, Lib.hid (Below.stp (Hid.out HS.2.2.2.2.2) hb)⟩ ?_
                      replace HS : (fun w' => w'.cell? ⟨lb, 0, none⟩ = some (.pointer (some ⟨r0, 0, none⟩)) ∧ w'.cell? ⟨lb, 2, none⟩ = some (.pointer (some ⟨r2, 0, none⟩)) ∧ w'.cell? ⟨lb, 3, none⟩ = some (.pointer (some ⟨r3, 0, none⟩)) ∧ w'.cell? ⟨sb, 0, none⟩ = some (.string str) ∧ w'.cell? ⟨sb, 1, none⟩ = some (.bool wide) ∧ Hid (Below w9.heap.size w9 w')) wn := ⟨keep3 hb HS.1, keep3 hb HS.2.1, keep3 hb HS.2.2.1, keep3 hb HS.2.2.2.1, keep3 hb HS.2.2.2.2.1, Lib.hid (Below.stp (Hid.out HS.2.2.2.2.2) hb)⟩
                      clear hK K hb
                      (try simp only [Act.put, List.setIfInBounds_toArray, List.set_cons_zero, List.set_cons_succ])
                      refine wpH_take (i := 11) (v := ?ve11) rfl (by kernel_rfl) (by kernel_rfl) (by kernel_rfl) (some 110) rfl (fun _ _ _ h => h) (Or.inl ⟨by rfl, ?ye11⟩) HS ?te11
                      case ye11 => (intro w s0; obtain ⟨s1, s2, s3, s4, s5, s6⟩ := s0; go_simp; try with_reducible rfl)
                      (try simp only [Act.put, List.setIfInBounds_toArray, List.set_cons_zero, List.set_cons_succ])
                      refine wpH_take (i := 12) (v := ?ve12) rfl (by kernel_rfl) (by kernel_rfl) (by kernel_rfl) (some 111) rfl (fun _ _ _ h => h) (Or.inl ⟨by rfl, ?ye12⟩) HS ?te12
                      case ye12 => (intro w s0; obtain ⟨s1, s2, s3, s4, s5, s6⟩ := s0; go_simp; try with_reducible rfl)
                      (try simp only [Act.put, List.setIfInBounds_toArray, List.set_cons_zero, List.set_cons_succ])
                      refine wpH_take (i := 13) (v := ?ve13) rfl (by kernel_rfl) (by kernel_rfl) (by kernel_rfl) (some 112) rfl (fun _ _ _ h => h) (Or.inl ⟨by rfl, ?ye13⟩) HS ?te13
                      case ye13 => (intro w s0; obtain ⟨s1, s2, s3, s4, s5, s6⟩ := s0; go_simp; try with_reducible rfl)
                      (try simp only [Act.put, List.setIfInBounds_toArray, List.set_cons_zero, List.set_cons_succ])
                      refine wpH_take (i := 14) (v := ?ve14) rfl (by kernel_rfl) (by kernel_rfl) (by kernel_rfl) (some 113) rfl (fun _ _ _ h => h) (Or.inl ⟨by rfl, ?ye14⟩) HS ?te14
                      case ye14 => (intro w s0; obtain ⟨s1, s2, s3, s4, s5, s6⟩ := s0; go_simp; try with_reducible rfl)
                      (try simp only [Act.put, List.setIfInBounds_toArray, List.set_cons_zero, List.set_cons_succ])
                      refine wpH_take (i := 15) (v := ?ve15) rfl (by kernel_rfl) (by kernel_rfl) (by kernel_rfl) (some 114) rfl (fun _ _ _ h => h) (Or.inl ⟨by rfl, ?ye15⟩) HS ?te15
                      case ye15 => (intro w s0; obtain ⟨s1, s2, s3, s4, s5, s6⟩ := s0; go_simp; try with_reducible rfl)
                      (try simp only [Act.put, List.setIfInBounds_toArray, List.set_cons_zero, List.set_cons_succ])
                      refine wpH_take (i := 16) (v := ?ve16) rfl (by kernel_rfl) (by kernel_rfl) (by kernel_rfl) (some 115) rfl (fun _ _ _ h => h) (Or.inl ⟨by rfl, ?ye16⟩) HS ?te16
                      case ye16 => (intro w s0; obtain ⟨s1, s2, s3, s4, s5, s6⟩ := s0; go_simp; try with_reducible rfl)
                      (try simp only [Act.put, List.setIfInBounds_toArray, List.set_cons_zero, List.set_cons_succ])
                      refine wpH_take (i := 18) (v := ?ve18) rfl (by kernel_rfl) (by kernel_rfl) (by kernel_rfl) (some 117) rfl (fun _ _ _ h => h) (Or.inl ⟨by rfl, ?ye18⟩) HS ?te18
                      case ye18 => (intro w s0; obtain ⟨s1, s2, s3, s4, s5, s6⟩ := s0; go_simp; try with_reducible rfl)
                      (try simp only [Act.put, List.setIfInBounds_toArray, List.set_cons_zero, List.set_cons_succ])
                      refine wpH_take (i := 19) (v := ?ve19) rfl (by kernel_rfl) (by kernel_rfl) (by kernel_rfl) (some 118) rfl (fun _ _ _ h => h) (Or.inl ⟨by rfl, ?ye19⟩) HS ?te19
                      case ye19 => (intro w s0; obtain ⟨s1, s2, s3, s4, s5, s6⟩ := s0; go_simp; try with_reducible rfl)
                      (try simp only [Act.put, List.setIfInBounds_toArray, List.set_cons_zero, List.set_cons_succ])
                      refine wpH_take (i := 20) (v := ?ve20) rfl (by kernel_rfl) (by kernel_rfl) (by kernel_rfl) (some 119) rfl (fun _ _ _ h => h) (Or.inl ⟨by rfl, ?ye20⟩) HS ?te20
                      case ye20 => (intro w s0; obtain ⟨s1, s2, s3, s4, s5, s6⟩ := s0; go_simp; try with_reducible rfl)
                      (try simp only [Act.put, List.setIfInBounds_toArray, List.set_cons_zero, List.set_cons_succ])
                      refine wpH_one (i := 17) (by kernel_rfl) rfl ?_
                      intro K hK
                      rw [if_pos (by rfl)]
                      go_simp
                      refine (H2 _ (Hid.out HS.2.2.2.2.2)).out.mono ?_
                      rintro e wn ⟨rfl, hb⟩
                      refine hK _ _ ⟨keep3 hb HS.1, keep3 hb HS.2.1, keep3 hb HS.2.2.1, keep3 hb HS.2.2.2.1, keep3 hb HS.2.2.2.2.1, Lib.hid (Below.stp (Hid.out HS.2.2.2.2.2) hb)⟩ ?_
                      replace HS : (fun w' => w'.cell? ⟨lb, 0, none⟩ = some (.pointer (some ⟨r0, 0, none⟩)) ∧ w'.cell? ⟨lb, 2, none⟩ = some (.pointer (some ⟨r2, 0, none⟩)) ∧ w'.cell? ⟨lb, 3, none⟩ = some (.pointer (some ⟨r3, 0, none⟩)) ∧ w'.cell? ⟨sb, 0, none⟩ = some (.string str) ∧ w'.cell? ⟨sb, 1, none⟩ = some (.bool wide) ∧ Hid (Below w9.heap.size w9 w')) wn := ⟨keep3 hb HS.1, keep3 hb HS.2.1, keep3 hb HS.2.2.1, keep3 hb HS.2.2.2.1, keep3 hb HS.2.2.2.2.1, Lib.hid (Below.stp (Hid.out HS.2.2.2.2.2) hb)⟩
                      clear hK K hb
                      (try simp only [Act.put, List.setIfInBounds_toArray, List.set_cons_zero, List.set_cons_succ])
                      refine wpH_one (i := 21) (by kernel_rfl) rfl ?_
                      intro K hK
                      rw [if_pos (by rfl)]
                      go_simp
                      refine (H3 _ (Hid.out HS.2.2.2.2.2)).out.mono ?_
                      rintro e wn ⟨rfl, hb⟩
                      refine hK _ _ ⟨keep3 hb HS.1, keep3 hb HS.2.1, keep3 hb HS.2.2.1, keep3 hb HS.2.2.2.1, keep3 hb HS.2.2.2.2.1, Lib.hid (Below.stp (Hid.out HS.2.2.2.2.2) hb)⟩ ?_
                      replace HS : (fun w' => w'.cell? ⟨lb, 0, none⟩ = some (.pointer (some ⟨r0, 0, none⟩)) ∧ w'.cell? ⟨lb, 2, none⟩ = some (.pointer (some ⟨r2, 0, none⟩)) ∧ w'.cell? ⟨lb, 3, none⟩ = some (.pointer (some ⟨r3, 0, none⟩)) ∧ w'.cell? ⟨sb, 0, none⟩ = some (.string str) ∧ w'.cell? ⟨sb, 1, none⟩ = some (.bool wide) ∧ Hid (Below w9.heap.size w9 w')) wn := ⟨keep3 hb HS.1, keep3 hb HS.2.1, keep3 hb HS.2.2.1, keep3 hb HS.2.2.2.1, keep3 hb HS.2.2.2.2.1, Lib.hid (Below.stp (Hid.out HS.2.2.2.2.2) hb)⟩
                      clear hK K hb
                      (try simp only [Act.put, List.setIfInBounds_toArray, List.set_cons_zero, List.set_cons_succ])
                      refine wpH_take (i := 22) (v := ?ve22) rfl (by kernel_rfl) (by kernel_rfl) (by kernel_rfl) (some 121) rfl (fun _ _ _ h => h) (Or.inl ⟨by rfl, ?ye22⟩) HS ?te22
                      case ye22 => (intro w s0; obtain ⟨s1, s2, s3, s4, s5, s6⟩ := s0; go_simp; try with_reducible rfl)
                      (try simp only [Act.put, List.setIfInBounds_toArray, List.set_cons_zero, List.set_cons_succ])
                      refine wpH_take (i := 23) (v := ?ve23) rfl (by kernel_rfl) (by kernel_rfl) (by kernel_rfl) (some 122) rfl (fun _ _ _ h => h) (Or.inl ⟨by rfl, ?ye23⟩) HS ?te23
                      case ye23 => (intro w s0; obtain ⟨s1, s2, s3, s4, s5, s6⟩ := s0; go_simp; try with_reducible rfl)
                      (try simp only [Act.put, List.setIfInBounds_toArray, List.set_cons_zero, List.set_cons_succ])
                      refine wpH_take (i := 24) (v := ?ve24) rfl (by kernel_rfl) (by kernel_rfl) (by kernel_rfl) (some 123) rfl (fun _ _ _ h => h) (Or.inl ⟨by rfl, ?ye24⟩) HS ?te24
                      case ye24 => (intro w s0; obtain ⟨s1, s2, s3, s4, s5, s6⟩ := s0; go_simp; try with_reducible rfl)
                      (try simp only [Act.put, List.setIfInBounds_toArray, List.set_cons_zero, List.set_cons_succ])
                      refine wpH_take (i := 25) (v := ?ve25) rfl (by kernel_rfl) (by kernel_rfl) (by kernel_rfl) (some 124) rfl (fun _ _ _ h => h) (Or.inl ⟨by rfl, ?ye25⟩) HS ?te25
                      case ye25 => (intro w s0; obtain ⟨s1, s2, s3, s4, s5, s6⟩ := s0; go_simp; try with_reducible rfl)
                      (try simp only [Act.put, List.setIfInBounds_toArray, List.set_cons_zero, List.set_cons_succ])
                      refine wpH_take (i := 26) (v := ?ve26) rfl (by kernel_rfl) (by kernel_rfl) (by kernel_rfl) (some 125) rfl (fun _ _ _ h => h) (Or.inl ⟨by rfl, ?ye26⟩) HS ?te26
                      case ye26 => (intro w s0; obtain ⟨s1, s2, s3, s4, s5, s6⟩ := s0; go_simp; try with_reducible rfl)
                      (try simp only [Act.put, List.setIfInBounds_toArray, List.set_cons_zero, List.set_cons_succ])
                      refine wpH_one (i := 27) (by kernel_rfl) rfl ?_
                      intro K hK
                      rw [if_pos (by rfl)]
                      go_simp
                      refine (HA _ (Hid.out HS.2.2.2.2.2)).out.mono ?_
                      rintro e wn ⟨rfl, hb⟩
                      refine hK _ _ ⟨keep3 hb HS.1, keep3 hb HS.2.1, keep3 hb HS.2.2.1, keep3 hb HS.2.2.2.1, keep3 hb HS.2.2.2.2.1, Lib.hid (Below.stp (Hid.out HS.2.2.2.2.2) hb)⟩ ?_
                      replace HS : (fun w' => w'.cell? ⟨lb, 0, none⟩ = some (.pointer (some ⟨r0, 0, none⟩)) ∧ w'.cell? ⟨lb, 2, none⟩ = some (.pointer (some ⟨r2, 0, none⟩)) ∧ w'.cell? ⟨lb, 3, none⟩ = some (.pointer (some ⟨r3, 0, none⟩)) ∧ w'.cell? ⟨sb, 0, none⟩ = some (.string str) ∧ w'.cell? ⟨sb, 1, none⟩ = some (.bool wide) ∧ Hid (Below w9.heap.size w9 w')) wn := ⟨keep3 hb HS.1, keep3 hb HS.2.1, keep3 hb HS.2.2.1, keep3 hb HS.2.2.2.1, keep3 hb HS.2.2.2.2.1, Lib.hid (Below.stp (Hid.out HS.2.2.2.2.2) hb)⟩
                      clear hK K hb
                      (try simp only [Act.put, List.setIfInBounds_toArray, List.set_cons_zero, List.set_cons_succ])
                      refine wpH_take (i := 28) (v := ?ve28) rfl (by kernel_rfl) (by kernel_rfl) (by kernel_rfl) (some 127) rfl (fun _ _ _ h => h) (Or.inl ⟨by rfl, ?ye28⟩) HS ?te28
                      case ye28 => (intro w s0; obtain ⟨s1, s2, s3, s4, s5, s6⟩ := s0; go_simp; try with_reducible rfl)
                      (try simp only [Act.put, List.setIfInBounds_toArray, List.set_cons_zero, List.set_cons_succ])
                      refine wpH_take (i := 29) (v := undef) rfl (by kernel_rfl) (by kernel_rfl) (by kernel_rfl) (some 128) rfl (fun _ _ _ h => h) (Or.inr ⟨by rfl, rfl⟩) HS ?_
                      (try simp only [Act.put, List.setIfInBounds_toArray, List.set_cons_zero, List.set_cons_succ])
                      refine wpH_take (i := 30) (v := undef) rfl (by kernel_rfl) (by kernel_rfl) (by kernel_rfl) (some 129) rfl (fun _ _ _ h => h) (Or.inr ⟨by rfl, rfl⟩) HS ?_
                      (try simp only [Act.put, List.setIfInBounds_toArray, List.set_cons_zero, List.set_cons_succ])
                      refine wpH_take (i := 31) (v := undef) rfl (by kernel_rfl) (by kernel_rfl) (by kernel_rfl) (some 130) rfl (fun _ _ _ h => h) (Or.inr ⟨by rfl, rfl⟩) HS ?_
                      (try simp only [Act.put, List.setIfInBounds_toArray, List.set_cons_zero, List.set_cons_succ])
                      refine wpH_take (i := 32) (v := undef) rfl (by kernel_rfl) (by kernel_rfl) (by kernel_rfl) (some 131) rfl (fun _ _ _ h => h) (Or.inr ⟨by rfl, rfl⟩) HS ?_
                      (try simp only [Act.put, List.setIfInBounds_toArray, List.set_cons_zero, List.set_cons_succ])
                      refine wpH_take (i := 33) (v := undef) rfl (by kernel_rfl) (by kernel_rfl) (by kernel_rfl) (some 132) rfl (fun _ _ _ h => h) (Or.inr ⟨by rfl, rfl⟩) HS ?_
                      (try simp only [Act.put, List.setIfInBounds_toArray, List.set_cons_zero, List.set_cons_succ])
                      refine wpH_take (i := 34) (v := ?ve34) rfl (by kernel_rfl) (by kernel_rfl) (by kernel_rfl) (some 133) rfl (fun _ _ _ h => h) (Or.inl ⟨by rfl, ?ye34⟩) HS ?te34
                      case ye34 => (intro w s0; obtain ⟨s1, s2, s3, s4, s5, s6⟩ := s0; go_simp; try with_reducible rfl)
                      (try simp only [Act.put, List.setIfInBounds_toArray, List.set_cons_zero, List.set_cons_succ])
                      refine wpH_take (i := 35) (v := ?ve35) rfl (by kernel_rfl) (by kernel_rfl) (by kernel_rfl) (some 134) rfl (fun _ _ _ h => h) (Or.inl ⟨by rfl, ?ye35⟩) HS ?te35
                      case ye35 => (intro w s0; obtain ⟨s1, s2, s3, s4, s5, s6⟩ := s0; go_simp; try with_reducible rfl)
                      (try simp only [Act.put, List.setIfInBounds_toArray, List.set_cons_zero, List.set_cons_succ])
                      refine wpAnyH_done (by kernel_rfl) ?_ _
                      go_wp2_with (fail)
                      go_meet
                      case rel => exact ⟨rfl, HS.2.2.2.2.2⟩
                · obtain rfl : C = true := hst rfl
                  simp only [Bool.true_or] at H0
                  clear hst
                  have hS0 : (fun w' => w'.cell? ⟨lb, 0, none⟩ = some (.pointer (some ⟨r0, 0, none⟩)) ∧ w'.cell? ⟨lb, 2, none⟩ = some (.pointer (some ⟨r2, 0, none⟩)) ∧ w'.cell? ⟨lb, 3, none⟩ = some (.pointer (some ⟨r3, 0, none⟩)) ∧ w'.cell? ⟨sb, 0, none⟩ = some (.string str) ∧ w'.cell? ⟨sb, 1, none⟩ = some (.bool wide) ∧ Hid (Below w9.heap.size w9 w')) w9.drew := ⟨e0, e2, e3, d0, d1, Lib.hid (Below.refl _ _).drew⟩
                  refine wp_region_held_drew (S := (fun w' => w'.cell? ⟨lb, 0, none⟩ = some (.pointer (some ⟨r0, 0, none⟩)) ∧ w'.cell? ⟨lb, 2, none⟩ = some (.pointer (some ⟨r2, 0, none⟩)) ∧ w'.cell? ⟨lb, 3, none⟩ = some (.pointer (some ⟨r3, 0, none⟩)) ∧ w'.cell? ⟨sb, 0, none⟩ = some (.string str) ∧ w'.cell? ⟨sb, 1, none⟩ = some (.bool wide) ∧ Hid (Below w9.heap.size w9 w'))) (by kernel_rfl) hS0 (fun HS => ?_)
                  clear hS0
                  refine wpH_take (i := 0) (v := ?vf0) rfl (by kernel_rfl) (by kernel_rfl) (by kernel_rfl) (some 99) rfl (fun _ _ _ h => h) (Or.inl ⟨by rfl, ?yf0⟩) HS ?tf0
                  case yf0 => (intro w s0; obtain ⟨s1, s2, s3, s4, s5, s6⟩ := s0; go_simp; try with_reducible rfl)
                  (try simp only [Act.put, List.setIfInBounds_toArray, List.set_cons_zero, List.set_cons_succ])
                  refine wpH_take (i := 1) (v := ?vf1) rfl (by kernel_rfl) (by kernel_rfl) (by kernel_rfl) (some 100) rfl (fun _ _ _ h => h) (Or.inl ⟨by rfl, ?yf1⟩) HS ?tf1
                  case yf1 => (intro w s0; obtain ⟨s1, s2, s3, s4, s5, s6⟩ := s0; go_simp; try with_reducible rfl)
                  (try simp only [Act.put, List.setIfInBounds_toArray, List.set_cons_zero, List.set_cons_succ])
                  refine wpH_take (i := 2) (v := ?vf2) rfl (by kernel_rfl) (by kernel_rfl) (by kernel_rfl) (some 101) rfl (fun _ _ _ h => h) (Or.inl ⟨by rfl, ?yf2⟩) HS ?tf2
                  case yf2 => (intro w s0; obtain ⟨s1, s2, s3, s4, s5, s6⟩ := s0; go_simp; try with_reducible rfl)
                  (try simp only [Act.put, List.setIfInBounds_toArray, List.set_cons_zero, List.set_cons_succ])
                  refine wpH_take (i := 4) (v := ?vf4) rfl (by kernel_rfl) (by kernel_rfl) (by kernel_rfl) (some 103) rfl (fun _ _ _ h => h) (Or.inl ⟨by rfl, ?yf4⟩) HS ?tf4
                  case yf4 => (intro w s0; obtain ⟨s1, s2, s3, s4, s5, s6⟩ := s0; go_simp; try with_reducible rfl)
                  (try simp only [Act.put, List.setIfInBounds_toArray, List.set_cons_zero, List.set_cons_succ])
                  refine wpH_take (i := 5) (v := ?vf5) rfl (by kernel_rfl) (by kernel_rfl) (by kernel_rfl) (some 104) rfl (fun _ _ _ h => h) (Or.inl ⟨by rfl, ?yf5⟩) HS ?tf5
                  case yf5 => (intro w s0; obtain ⟨s1, s2, s3, s4, s5, s6⟩ := s0; go_simp; try with_reducible rfl)
                  (try simp only [Act.put, List.setIfInBounds_toArray, List.set_cons_zero, List.set_cons_succ])
                  refine wpH_one (i := 3) (by kernel_rfl) rfl ?_
                  intro K hK
                  rw [if_pos (by rfl)]
                  go_simp
                  refine (H0 _ (Hid.out HS.2.2.2.2.2)).out.mono ?_
                  rintro e wn ⟨rfl, hb⟩
                  refine hK _ _ ⟨keep3 hb HS.1, keep3 hb HS.2.1, keep3 hb HS.2.2.1, keep3 hb HS.2.2.2.1, keep3 hb HS.2.2.2.2.1, Lib.hid (Below.stp (Hid.out HS.2.2.2.2.2) hb)⟩ ?_
                  replace HS : (fun w' => w'.cell? ⟨lb, 0, none⟩ = some (.pointer (some ⟨r0, 0, none⟩)) ∧ w'.cell? ⟨lb, 2, none⟩ = some (.pointer (some ⟨r2, 0, none⟩)) ∧ w'.cell? ⟨lb, 3, none⟩ = some (.pointer (some ⟨r3, 0, none⟩)) ∧ w'.cell? ⟨sb, 0, none⟩ = some (.string str) ∧ w'.cell? ⟨sb, 1, none⟩ = some (.bool wide) ∧ Hid (Below w9.heap.size w9 w')) wn := ⟨keep3 hb HS.1, keep3 hb HS.2.1, keep3 hb HS.2.2.1, keep3 hb HS.2.2.2.1, keep3 hb HS.2.2.2.2.1, Lib.hid (Below.stp (Hid.out HS.2.2.2.2.2) hb)⟩
                  clear hK K hb
                  (try simp only [Act.put, List.setIfInBounds_toArray, List.set_cons_zero, List.set_cons_succ])
                  refine wpH_one (i := 6) (by kernel_rfl) rfl ?_
                  intro K hK
                  rw [if_pos (by rfl)]
                  go_simp
                  refine (HA _ (Hid.out HS.2.2.2.2.2)).out.mono ?_
                  rintro e wn ⟨rfl, hb⟩
                  refine hK _ _ ⟨keep3 hb HS.1, keep3 hb HS.2.1, keep3 hb HS.2.2.1, keep3 hb HS.2.2.2.1, keep3 hb HS.2.2.2.2.1, Lib.hid (Below.stp (Hid.out HS.2.2.2.2.2) hb)⟩ ?_
                  replace HS : (fun w' => w'.cell? ⟨lb, 0, none⟩ = some (.pointer (some ⟨r0, 0, none⟩)) ∧ w'.cell? ⟨lb, 2, none⟩ = some (.pointer (some ⟨r2, 0, none⟩)) ∧ w'.cell? ⟨lb, 3, none⟩ = some (.pointer (some ⟨r3, 0, none⟩)) ∧ w'.cell? ⟨sb, 0, none⟩ = some (.string str) ∧ w'.cell? ⟨sb, 1, none⟩ = some (.bool wide) ∧ Hid (Below w9.heap.size w9 w')) wn := ⟨keep3 hb HS.1, keep3 hb HS.2.1, keep3 hb HS.2.2.1, keep3 hb HS.2.2.2.1, keep3 hb HS.2.2.2.2.1, Lib.hid (Below.stp (Hid.out HS.2.2.2.2.2) hb)⟩
                  clear hK K hb
                  (try simp only [Act.put, List.setIfInBounds_toArray, List.set_cons_zero, List.set_cons_succ])
                  refine wpH_take (i := 7) (v := ?vf7) rfl (by kernel_rfl) (by kernel_rfl) (by kernel_rfl) (some 106) rfl (fun _ _ _ h => h) (Or.inl ⟨by rfl, ?yf7⟩) HS ?tf7
                  case yf7 => (intro w s0; obtain ⟨s1, s2, s3, s4, s5, s6⟩ := s0; go_simp; try with_reducible rfl)
                  (try simp only [Act.put, List.setIfInBounds_toArray, List.set_cons_zero, List.set_cons_succ])
                  refine wpH_take (i := 8) (v := undef) rfl (by kernel_rfl) (by kernel_rfl) (by kernel_rfl) (some 107) rfl (fun _ _ _ h => h) (Or.inr ⟨by rfl, rfl⟩) HS ?_
                  (try simp only [Act.put, List.setIfInBounds_toArray, List.set_cons_zero, List.set_cons_succ])
                  refine wpH_take (i := 9) (v := undef) rfl (by kernel_rfl) (by kernel_rfl) (by kernel_rfl) (some 108) rfl (fun _ _ _ h => h) (Or.inr ⟨by rfl, rfl⟩) HS ?_
                  (try simp only [Act.put, List.setIfInBounds_toArray, List.set_cons_zero, List.set_cons_succ])
                  refine wpH_take (i := 10) (v := undef) rfl (by kernel_rfl) (by kernel_rfl) (by kernel_rfl) (some 109) rfl (fun _ _ _ h => h) (Or.inr ⟨by rfl, rfl⟩) HS ?_
                  (try simp only [Act.put, List.setIfInBounds_toArray, List.set_cons_zero, List.set_cons_succ])
                  refine wpH_take (i := 11) (v := ?vf11) rfl (by kernel_rfl) (by kernel_rfl) (by kernel_rfl) (some 110) rfl (fun _ _ _ h => h) (Or.inl ⟨by rfl, ?yf11⟩) HS ?tf11
                  case yf11 => (intro w s0; obtain ⟨s1, s2, s3, s4, s5, s6⟩ := s0; go_simp; try with_reducible rfl)
                  (try simp only [Act.put, List.setIfInBounds_toArray, List.set_cons_zero, List.set_cons_succ])
                  refine wpH_take (i := 12) (v := ?vf12) rfl (by kernel_rfl) (by kernel_rfl) (by kernel_rfl) (some 111) rfl (fun _ _ _ h => h) (Or.inl ⟨by rfl, ?yf12⟩) HS ?tf12
                  case yf12 => (intro w s0; obtain ⟨s1, s2, s3, s4, s5, s6⟩ := s0; go_simp; try with_reducible rfl)
                  (try simp only [Act.put, List.setIfInBounds_toArray, List.set_cons_zero, List.set_cons_succ])
                  refine wpH_take (i := 13) (v := ?vf13) rfl (by kernel_rfl) (by kernel_rfl) (by kernel_rfl) (some 112) rfl (fun _ _ _ h => h) (Or.inl ⟨by rfl, ?yf13⟩) HS ?tf13
                  case yf13 => (intro w s0; obtain ⟨s1, s2, s3, s4, s5, s6⟩ := s0; go_simp; try with_reducible rfl)
                  (try simp only [Act.put, List.setIfInBounds_toArray, List.set_cons_zero, List.set_cons_succ])
                  refine wpH_take (i := 14) (v := ?vf14) rfl (by kernel_rfl) (by kernel_rfl) (by kernel_rfl) (some 113) rfl (fun _ _ _ h => h) (Or.inl ⟨by rfl, ?yf14⟩) HS ?tf14
                  case yf14 => (intro w s0; obtain ⟨s1, s2, s3, s4, s5, s6⟩ := s0; go_simp; try with_reducible rfl)
                  (try simp only [Act.put, List.setIfInBounds_toArray, List.set_cons_zero, List.set_cons_succ])
                  refine wpH_take (i := 15) (v := ?vf15) rfl (by kernel_rfl) (by kernel_rfl) (by kernel_rfl) (some 114) rfl (fun _ _ _ h => h) (Or.inl ⟨by rfl, ?yf15⟩) HS ?tf15
                  case yf15 => (intro w s0; obtain ⟨s1, s2, s3, s4, s5, s6⟩ := s0; go_simp; try with_reducible rfl)
                  (try simp only [Act.put, List.setIfInBounds_toArray, List.set_cons_zero, List.set_cons_succ])
                  refine wpH_take (i := 16) (v := ?vf16) rfl (by kernel_rfl) (by kernel_rfl) (by kernel_rfl) (some 115) rfl (fun _ _ _ h => h) (Or.inl ⟨by rfl, ?yf16⟩) HS ?tf16
                  case yf16 => (intro w s0; obtain ⟨s1, s2, s3, s4, s5, s6⟩ := s0; go_simp; try with_reducible rfl)
                  (try simp only [Act.put, List.setIfInBounds_toArray, List.set_cons_zero, List.set_cons_succ])
                  refine wpH_take (i := 18) (v := ?vf18) rfl (by kernel_rfl) (by kernel_rfl) (by kernel_rfl) (some 117) rfl (fun _ _ _ h => h) (Or.inl ⟨by rfl, ?yf18⟩) HS ?tf18
                  case yf18 => (intro w s0; obtain ⟨s1, s2, s3, s4, s5, s6⟩ := s0; go_simp; try with_reducible rfl)
                  (try simp only [Act.put, List.setIfInBounds_toArray, List.set_cons_zero, List.set_cons_succ])
                  refine wpH_take (i := 19) (v := ?vf19) rfl (by kernel_rfl) (by kernel_rfl) (by kernel_rfl) (some 118) rfl (fun _ _ _ h => h) (Or.inl ⟨by rfl, ?yf19⟩) HS ?tf19
                  case yf19 => (intro w s0; obtain ⟨s1, s2, s3, s4, s5, s6⟩ := s0; go_simp; try with_reducible rfl)
                  (try simp only [Act.put, List.setIfInBounds_toArray, List.set_cons_zero, List.set_cons_succ])
                  refine wpH_take (i := 20) (v := ?vf20) rfl (by kernel_rfl) (by kernel_rfl) (by kernel_rfl) (some 119) rfl (fun _ _ _ h => h) (Or.inl ⟨by rfl, ?yf20⟩) HS ?tf20
                  case yf20 => (intro w s0; obtain ⟨s1, s2, s3, s4, s5, s6⟩ := s0; go_simp; try with_reducible rfl)
                  (try simp only [Act.put, List.setIfInBounds_toArray, List.set_cons_zero, List.set_cons_succ])
                  refine wpH_one (i := 17) (by kernel_rfl) rfl ?_
                  intro K hK
                  rw [if_pos (by rfl)]
                  go_simp
                  refine (H2 _ (Hid.out HS.2.2.2.2.2)).out.mono ?_
                  rintro e wn ⟨rfl, hb⟩
                  refine hK _ _ ⟨keep3 hb HS.1, keep3 hb HS.2.1, keep3 hb HS.2.2.1, keep3 hb HS.2.2.2.1, keep3 hb HS.2.2.2.2.1, Lib.hid (Below.stp (Hid.out HS.2.2.2.2.2) hb)⟩ ?_
                  replace HS : (fun w' => w'.cell? ⟨lb, 0, none⟩ = some (.pointer (some ⟨r0, 0, none⟩)) ∧ w'.cell? ⟨lb, 2, none⟩ = some (.pointer (some ⟨r2, 0, none⟩)) ∧ w'.cell? ⟨lb, 3, none⟩ = some (.pointer (some ⟨r3, 0, none⟩)) ∧ w'.cell? ⟨sb, 0, none⟩ = some (.string str) ∧ w'.cell? ⟨sb, 1, none⟩ = some (.bool wide) ∧ Hid (Below w9.heap.size w9 w')) wn := ⟨keep3 hb HS.1, keep3 hb HS.2.1, keep3 hb HS.2.2.1, keep3 hb HS.2.2.2.1, keep3 hb HS.2.2.2.2.1, Lib.hid (Below.stp (Hid.out HS.2.2.2.2.2) hb)⟩
                  clear hK K hb
                  (try simp only [Act.put, List.setIfInBounds_toArray, List.set_cons_zero, List.set_cons_succ])
                  refine wpH_one (i := 21) (by kernel_rfl) rfl ?_
                  intro K hK
                  rw [if_pos (by rfl)]
                  go_simp
                  refine (H3 _ (Hid.out HS.2.2.2.2.2)).out.mono ?_
                  rintro e wn ⟨rfl, hb⟩
                  refine hK _ _ ⟨keep3 hb HS.1, keep3 hb HS.2.1, keep3 hb HS.2.2.1, keep3 hb HS.2.2.2.1, keep3 hb HS.2.2.2.2.1, Lib.hid (Below.stp (Hid.out HS.2.2.2.2.2) hb)⟩ ?_
                  replace HS : (fun w' => w'.cell? ⟨lb, 0, none⟩ = some (.pointer (some ⟨r0, 0, none⟩)) ∧ w'.cell? ⟨lb, 2, none⟩ = some (.pointer (some ⟨r2, 0, none⟩)) ∧ w'.cell? ⟨lb, 3, none⟩ = some (.pointer (some ⟨r3, 0, none⟩)) ∧ w'.cell? ⟨sb, 0, none⟩ = some (.string str) ∧ w'.cell? ⟨sb, 1, none⟩ = some (.bool wide) ∧ Hid (Below w9.heap.size w9 w')) wn := ⟨keep3 hb HS.1, keep3 hb HS.2.1, keep3 hb HS.2.2.1, keep3 hb HS.2.2.2.1, keep3 hb HS.2.2.2.2.1, Lib.hid (Below.stp (Hid.out HS.2.2.2.2.2) hb)⟩
                  clear hK K hb
                  (try simp only [Act.put, List.setIfInBounds_toArray, List.set_cons_zero, List.set_cons_succ])
                  refine wpH_take (i := 22) (v := ?vf22) rfl (by kernel_rfl) (by kernel_rfl) (by kernel_rfl) (some 121) rfl (fun _ _ _ h => h) (Or.inl ⟨by rfl, ?yf22⟩) HS ?tf22
                  case yf22 => (intro w s0; obtain ⟨s1, s2, s3, s4, s5, s6⟩ := s0; go_simp; try with_reducible rfl)
                  (try simp only [Act.put, List.setIfInBounds_toArray, List.set_cons_zero, List.set_cons_succ])
                  refine wpH_take (i := 23) (v := ?vf23) rfl (by kernel_rfl) (by kernel_rfl) (by kernel_rfl) (some 122) rfl (fun _ _ _ h => h) (Or.inl ⟨by rfl, ?yf23⟩) HS ?tf23
                  case yf23 => (intro w s0; obtain ⟨s1, s2, s3, s4, s5, s6⟩ := s0; go_simp; try with_reducible rfl)
                  (try simp only [Act.put, List.setIfInBounds_toArray, List.set_cons_zero, List.set_cons_succ])
                  refine wpH_take (i := 24) (v := ?vf24) rfl (by kernel_rfl) (by kernel_rfl) (by kernel_rfl) (some 123) rfl (fun _ _ _ h => h) (Or.inl ⟨by rfl, ?yf24⟩) HS ?tf24
                  case yf24 => (intro w s0; obtain ⟨s1, s2, s3, s4, s5, s6⟩ := s0; go_simp; try with_reducible rfl)
                  (try simp only [Act.put, List.setIfInBounds_toArray, List.set_cons_zero, List.set_cons_succ])
                  refine wpH_take (i := 25) (v := ?vf25) rfl (by kernel_rfl) (by kernel_rfl) (by kernel_rfl) (some 124) rfl (fun _ _ _ h => h) (Or.inl ⟨by rfl, ?yf25⟩) HS ?tf25
                  case yf25 => (intro w s0; obtain ⟨s1, s2, s3, s4, s5, s6⟩ := s0; go_simp; try with_reducible rfl)
                  (try simp only [Act.put, List.setIfInBounds_toArray, List.set_cons_zero, List.set_cons_succ])
                  refine wpH_take (i := 26) (v := ?vf26) rfl (by kernel_rfl) (by kernel_rfl) (by kernel_rfl) (some 125) rfl (fun _ _ _ h => h) (Or.inl ⟨by rfl, ?yf26⟩) HS ?tf26
                  case yf26 => (intro w s0; obtain ⟨s1, s2, s3, s4, s5, s6⟩ := s0; go_simp; try with_reducible rfl)
                  (try simp only [Act.put, List.setIfInBounds_toArray, List.set_cons_zero, List.set_cons_succ])
                  refine wpH_one (i := 27) (by kernel_rfl) rfl ?_
                  intro K hK
                  rw [if_pos (by rfl)]
                  go_simp
                  refine (HA _ (Hid.out HS.2.2.2.2.2)).out.mono ?_
                  rintro e wn ⟨rfl, hb⟩
                  refine hK _ _ ⟨keep3 hb HS.1, keep3 hb HS.2.1, keep3 hb HS.2.2.1, keep3 hb HS.2.2.2.1, keep3 hb HS.2.2.2.2.1, Lib.hid (Below.stp (Hid.out HS.2.2.2.2.2) hb)⟩ ?_
                  replace HS : (fun w' => w'.cell? ⟨lb, 0, none⟩ = some (.pointer (some ⟨r0, 0, none⟩)) ∧ w'.cell? ⟨lb, 2, none⟩ = some (.pointer (some ⟨r2, 0, none⟩)) ∧ w'.cell? ⟨lb, 3, none⟩ = some (.pointer (some ⟨r3, 0, none⟩)) ∧ w'.cell? ⟨sb, 0, none⟩ = some (.string str) ∧ w'.cell? ⟨sb, 1, none⟩ = some (.bool wide) ∧ Hid (Below w9.heap.size w9 w')) wn := ⟨keep3 hb HS.1, keep3 hb HS.2.1, keep3 hb HS.2.2.1, keep3 hb HS.2.2.2.1, keep3 hb HS.2.2.2.2.1, Lib.hid (Below.stp (Hid.out HS.2.2.2.2.2) hb)⟩
                  clear hK K hb
                  (try simp only [Act.put, List.setIfInBounds_toArray, List.set_cons_zero, List.set_cons_succ])
                  refine wpH_take (i := 28) (v := ?vf28) rfl (by kernel_rfl) (by kernel_rfl) (by kernel_rfl) (some 127) rfl (fun _ _ _ h => h) (Or.inl ⟨by rfl, ?yf28⟩) HS ?tf28
                  case yf28 => (intro w s0; obtain ⟨s1, s2, s3, s4, s5, s6⟩ := s0; go_simp; try with_reducible rfl)
                  (try simp only [Act.put, List.setIfInBounds_toArray, List.set_cons_zero, List.set_cons_succ])
                  refine wpH_take (i := 29) (v := ?vf29) rfl (by kernel_rfl) (by kernel_rfl) (by kernel_rfl) (some 128) rfl (fun _ _ _ h => h) (Or.inl ⟨by rfl, ?yf29⟩) HS ?tf29
                  case yf29 => (intro w s0; obtain ⟨s1, s2, s3, s4, s5, s6⟩ := s0; go_simp; try with_reducible rfl)
                  (try simp only [Act.put, List.setIfInBounds_toArray, List.set_cons_zero, List.set_cons_succ])
                  refine wpH_take (i := 30) (v := ?vf30) rfl (by kernel_rfl) (by kernel_rfl) (by kernel_rfl) (some 129) rfl (fun _ _ _ h => h) (Or.inl ⟨by rfl, ?yf30⟩) HS ?tf30
                  case yf30 => (intro w s0; obtain ⟨s1, s2, s3, s4, s5, s6⟩ := s0; go_simp; try with_reducible rfl)
                  (try simp only [Act.put, List.setIfInBounds_toArray, List.set_cons_zero, List.set_cons_succ])
                  refine wpH_take (i := 31) (v := ?vf31) rfl (by kernel_rfl) (by kernel_rfl) (by kernel_rfl) (some 130) rfl (fun _ _ _ h => h) (Or.inl ⟨by rfl, ?yf31⟩) HS ?tf31
                  case yf31 => (intro w s0; obtain ⟨s1, s2, s3, s4, s5, s6⟩ := s0; go_simp; try with_reducible rfl)
                  (try simp only [Act.put, List.setIfInBounds_toArray, List.set_cons_zero, List.set_cons_succ])
                  refine wpH_one (i := 32) (by kernel_rfl) rfl ?_
                  intro K hK
                  rw [if_pos (by rfl)]
                  go_simp
                  refine (H2 _ (Hid.out HS.2.2.2.2.2)).out.mono ?_
                  rintro e wn ⟨rfl, hb⟩
                  refine hK _ _ ⟨keep3 hb HS.1, keep3 hb HS.2.1, keep3 hb HS.2.2.1, keep3 hb HS.2.2.2.1, keep3 hb HS.2.2.2.2.1, Lib.hid (Below.stp (Hid.out HS.2.2.2.2.2) hb)⟩ ?_
                  replace HS : (fun w' => w'.cell? ⟨lb, 0, none⟩ = some (.pointer (some ⟨r0, 0, none⟩)) ∧ w'.cell? ⟨lb, 2, none⟩ = some (.pointer (some ⟨r2, 0, none⟩)) ∧ w'.cell? ⟨lb, 3, none⟩ = some (.pointer (some ⟨r3, 0, none⟩)) ∧ w'.cell? ⟨sb, 0, none⟩ = some (.string str) ∧ w'.cell? ⟨sb, 1, none⟩ = some (.bool wide) ∧ Hid (Below w9.heap.size w9 w')) wn := ⟨keep3 hb HS.1, keep3 hb HS.2.1, keep3 hb HS.2.2.1, keep3 hb HS.2.2.2.1, keep3 hb HS.2.2.2.2.1, Lib.hid (Below.stp (Hid.out HS.2.2.2.2.2) hb)⟩
                  clear hK K hb
                  (try simp only [Act.put, List.setIfInBounds_toArray, List.set_cons_zero, List.set_cons_succ])
                  refine wpH_take (i := 33) (v := ?vf33) rfl (by kernel_rfl) (by kernel_rfl) (by kernel_rfl) (some 132) rfl (fun _ _ _ h => h) (Or.inl ⟨by rfl, ?yf33⟩) HS ?tf33
                  case yf33 => (intro w s0; obtain ⟨s1, s2, s3, s4, s5, s6⟩ := s0; go_simp; try with_reducible rfl)
                  (try simp only [Act.put, List.setIfInBounds_toArray, List.set_cons_zero, List.set_cons_succ])
                  refine wpH_take (i := 34) (v := ?vf34) rfl (by kernel_rfl) (by kernel_rfl) (by kernel_rfl) (some 133) rfl (fun _ _ _ h => h) (Or.inl ⟨by rfl, ?yf34⟩) HS ?tf34
                  case yf34 => (intro w s0; obtain ⟨s1, s2, s3, s4, s5, s6⟩ := s0; go_simp; try with_reducible rfl)
                  (try simp only [Act.put, List.setIfInBounds_toArray, List.set_cons_zero, List.set_cons_succ])
                  refine wpH_take (i := 35) (v := ?vf35) rfl (by kernel_rfl) (by kernel_rfl) (by kernel_rfl) (some 134) rfl (fun _ _ _ h => h) (Or.inl ⟨by rfl, ?yf35⟩) HS ?tf35
                  case yf35 => (intro w s0; obtain ⟨s1, s2, s3, s4, s5, s6⟩ := s0; go_simp; try with_reducible rfl)
                  (try simp only [Act.put, List.setIfInBounds_toArray, List.set_cons_zero, List.set_cons_succ])
                  refine wpAnyH_done (by kernel_rfl) ?_ _
                  go_wp2_with (fail)
                  go_meet
                  case rel => exact ⟨rfl, HS.2.2.2.2.2⟩
              case rest =>
                obtain ⟨rfl, HBC⟩ := hcut
                have HTC := Lib.hid (HTW.out.below HBC.out)
                clear HTW HBR HA HB H0 H2 H3 hst e0 e1 e2 e3 d0 d1 HBC
                have HAN := fun W => Lib.hid (anchored_is (p ++ q) W)
                have n1 : ¬ 9223372036854775807 < p.size + q.size := by have := HSZ.out; omega
                by_cases han : (hasB (p ++ q) 94 || hasB (p ++ q) 36) = true
                · rw [han] at HAN
                  clear han
                  go_wp2_with (first
                    | (go_at_call 31; refine (HAN _).out.mono ?_; rintro e w2 ⟨rfl, rfl⟩))
                  go_ret
                  exact ⟨rfl, HTC.out.bel⟩
                · have hn : (hasB (p ++ q) 94 || hasB (p ++ q) 36) = false := by simpa using han
                  rw [hn] at HAN
                  have HU := Lib.hid (HUN.out (by
                    rw [hasB_app, hasB_app, Bool.or_eq_false_iff, Bool.or_eq_false_iff, Bool.or_eq_false_iff] at hn
                    exact ⟨hn.1.1, hn.2.1, hn.1.2, hn.2.2⟩))
                  clear han hn HUN
                  have d0 := cell_of_heap (v := .string str) HTC.out.x (j := 0) rfl
                  have d1 := cell_of_heap (v := .bool wide) HTC.out.x (j := 1) rfl
                  have q0 : l.length ≤ 60 := hll
                  go_wp2_with (first
                    | (go_at_call 31; refine (HAN _).out.mono ?_; rintro e w2 ⟨rfl, rfl⟩)
                    | (go_at_call 32; refine (HLEN _).out.mono ?_; rintro e w10 ⟨rfl, hb⟩
                       have HT10 := Lib.hid (HTC.out.below hb)
                       clear hb d0 d1))
                  clear HTC
                  go_loopw [17, 142] (fun s17 s142 wr => ∃ (sm : Bool) (i : Nat), i ≤ l.length + 1 ∧ s17 = .bool sm ∧ s142 = .int .i64 (i : Nat) ∧ Hid (TW w wr ra rb (.alt L) (.alt M) lb r0 r1 r2 r3 sb (.alt [.cat [.alt L], .cat [.alt M]]) (.alt [.cat [.alt L, .alt M]]) (.alt [.cat [.star (.alt L)]]) (.alt [.cat [.plus (.alt L)], .cat []]) str wide) ∧ Hid (sm = true ↔ ∃ k, k < i ∧ Mt l (.alt L) 0 k ∧ Mt l (.alt M) k l.length)) (fun _ p _ => l.length + 1 - (intOf p).toNat)
                  case atStart => exact ⟨false, 0, by omega, rfl, rfl, HT10, Lib.hid ⟨fun h => (by cases h), fun ⟨k, h, _⟩ => absurd h (Nat.not_lt_zero _)⟩⟩
                  case round =>
                    clear HT10
                    obtain ⟨sm, i, hi, rfl, rfl, HT, HS⟩ := hrel
                    by_cases hlt : i < l.length + 1
                    · have hil : i ≤ l.length := by omega
                      have q1 : (i : Int) < (l.length : Int) + 1 := by omega
                      have q2 : i ≤ 60 := by omega
                      have d0 := cell_of_heap (v := .string str) HT.out.x (j := 0) rfl
                      have d1 := cell_of_heap (v := .bool wide) HT.out.x (j := 1) rfl
                      have HS1 : ∀ W, Hid (Calls Try.prog 33 #[.agg #[.string str, .bool wide], .int .i64 0, .int .i64 (i : Nat)] W fun e w' => e = .returned (.tuple #[.agg #[.string (packV (partL l 0 i)).1, .bool (packV (partL l 0 i)).2], .int .i64 0]) ∧ Below W.heap.size W w') := fun W => HSL 0 i (Nat.zero_le _) hil W
                      have HS2 := fun W => HSL i l.length hil (Nat.le_refl _) W
                      have HW1 : ∀ W, TW w W ra rb (.alt L) (.alt M) lb r0 r1 r2 r3 sb (.alt [.cat [.alt L], .cat [.alt M]]) (.alt [.cat [.alt L, .alt M]]) (.alt [.cat [.star (.alt L)]]) (.alt [.cat [.plus (.alt L)], .cat []]) str wide → Hid (Calls Try.prog 15 #[.pointer (some ⟨ra, 0, none⟩), .agg #[.string (packV (partL l 0 i)).1, .bool (packV (partL l 0 i)).2]] W fun e w' => e = .returned (.bool (mB l (.alt L) 0 i)) ∧ Below W.heap.size W w') := fun W h => by obtain ⟨s, t, h⟩ := h.a; exact HWP W _ s _ t 0 i HU.out.1 (Nat.zero_le _) hil h
                      have HW2 : ∀ W, TW w W ra rb (.alt L) (.alt M) lb r0 r1 r2 r3 sb (.alt [.cat [.alt L], .cat [.alt M]]) (.alt [.cat [.alt L, .alt M]]) (.alt [.cat [.star (.alt L)]]) (.alt [.cat [.plus (.alt L)], .cat []]) str wide → Hid (Calls Try.prog 15 #[.pointer (some ⟨rb, 0, none⟩), .agg #[.string (packV (partL l i l.length)).1, .bool (packV (partL l i l.length)).2]] W fun e w' => e = .returned (.bool (mB l (.alt M) i l.length)) ∧ Below W.heap.size W w') := fun W h => by obtain ⟨s, t, h⟩ := h.b; exact HWP W _ s _ t i l.length HU.out.2 hil (Nat.le_refl _) h
                      have HS' : Hid ((sm || (mB l (.alt L) 0 i && mB l (.alt M) i l.length)) = true ↔ ∃ k, k < i + 1 ∧ Mt l (.alt L) 0 k ∧ Mt l (.alt M) k l.length) := Lib.hid (by
                        rw [Bool.or_eq_true, Bool.and_eq_true, mB_iff, mB_iff, HS.out]
                        constructor
                        · rintro (⟨k, h1, h2⟩ | h)
                          · exact ⟨k, by omega, h2⟩
                          · exact ⟨i, by omega, h⟩
                        · rintro ⟨k, h1, h2⟩
                          by_cases hk : k = i
                          · subst hk; exact .inr h2
                          · exact .inl ⟨k, by omega, h2⟩)
                      generalize mB l (.alt L) 0 i = A at *
                      generalize mB l (.alt M) i l.length = B at *
                      generalize (packV (partL l 0 i)).1 = u1 at *
                      generalize (packV (partL l 0 i)).2 = u2 at *
                      generalize (packV (partL l i l.length)).1 = v1 at *
                      generalize (packV (partL l i l.length)).2 = v2 at *
                      go_upto_region 30 with (first
                        | (go_at_call 33; refine (HS1 _).out.mono ?_; rintro e w11 ⟨rfl, hb⟩
                           have HT11 := Lib.hid (HT.out.below hb)
                           clear hb d0 d1))
                      have HT12 : Hid (TW w (w11.alloc (.cells #[.string u1, .bool u2] 39)) ra rb (.alt L) (.alt M) lb r0 r1 r2 r3 sb (.alt [.cat [.alt L], .cat [.alt M]]) (.alt [.cat [.alt L, .alt M]]) (.alt [.cat [.star (.alt L)]]) (.alt [.cat [.plus (.alt L)], .cat []]) str wide ∧ (w11.alloc (.cells #[.string u1, .bool u2] 39)).heap[w11.heap.size]? = some (.cells #[.string u1, .bool u2] 39 (0, 0))) := Lib.hid ⟨HT11.out.below ((Below.refl _ _).alloc (Nat.le_refl _) _), heap_alloc_new _ _⟩
                      generalize (w11.alloc (.cells #[.string u1, .bool u2] 39)) = w12 at *
                      generalize w11.heap.size = ub at *
                      clear HT11
                      have d0 := cell_of_heap (v := .string str) HT12.out.1.x (j := 0) rfl
                      have d1 := cell_of_heap (v := .bool wide) HT12.out.1.x (j := 1) rfl
                      go_cut [21, 22] from 151 to 158 (fun s21 s22 wx => ∃ vb : Nat, s21 = .pointer (some ⟨vb, 0, none⟩) ∧ s22 = .int .i64 0 ∧ Hid (Below w12.heap.size w12 wx ∧ wx.heap[vb]? = some (.cells #[.string v1, .bool v2] 39 (0, 0))))
                      case first =>
                        have HBR : Hid (Below w12.heap.size w12 w12) := Lib.hid (Below.refl _ _)
                        have HB12 : Hid (Below w12.heap.size w12 w12) := Lib.hid (Below.refl _ _)
                        go_region_held3 (fun w' => w'.cell? ⟨sb, 0, none⟩ = some (.string str) ∧ w'.cell? ⟨sb, 1, none⟩ = some (.bool wide) ∧ Hid (Below w12.heap.size w12 w'))
                          (((try go_split_ands); (repeat' apply And.intro) <;> (first | refine keep3 (W := w12) ?_ d0 | refine keep3 (W := w12) ?_ d1 | refine Lib.hid ?_) <;> first | exact Hid.out (by assumption) | exact Below.stp (Hid.out (by assumption)) hb | exact Below.drew (Hid.out (by assumption)) | exact allB (Hid.out HBX) _ | exact allB (Hid.out HBL) _ | exact allB (Hid.out HB12) _ | exact allB (Hid.out HB12).drew _ | exact setB (Hid.out (by assumption)) (Nat.le_refl _) _ _ | exact setB (Hid.out (by assumption)) (Below.size (Hid.out HBL)) _ _))
                          (first
                            | (go_at_call 32; (try go_split_ands); with_reducible refine (HLEN _).out.mono ?_; rintro e w1 ⟨rfl, hb⟩; have HBL : Hid (Below w12.heap.size w12 w1) := Lib.hid (Below.stp (Hid.out (by assumption)) hb); (try have hv := (hb.block _ (lt_of_heap (heap_alloc_new _ _))).trans (heap_alloc_new _ (.cells #[.string { data := #[] }, .bool false] 39))))
                            | (go_at_call 33; (try go_split_ands); with_reducible refine (HS2 _).out.mono ?_; rintro e w1 ⟨rfl, hb⟩; have HBX : Hid (Below w12.heap.size w12 w1) := Lib.hid (Below.stp (Hid.out (by assumption)) hb); (try have hv := (hb.block _ (lt_of_heap (heap_alloc_new _ _))).trans (heap_alloc_new _ (.cells #[.string { data := #[] }, .bool false] 39))); (try have hv := (hb.block _ (lt_of_heap hv)).trans hv); (try have k0 := cell_of_heap (v := .string { data := #[] }) hv (j := 0) rfl); (try have k1 := cell_of_heap (v := .bool false) hv (j := 1) rfl); (try have kf := frozen_of_heap hv)))
                        all_goals go_wp2_with (fail)
                        all_goals go_meet
                        all_goals (case rel =>
                          (try go_split_ands)
                          first
                            | exact ⟨_, rfl, rfl, Lib.hid ⟨Hid.out (by assumption), heap_alloc_new _ _⟩⟩
                            | exact ⟨_, rfl, rfl, Lib.hid ⟨Hid.out (by assumption), heap_setCell_same _ _ 1 _ _ _ (heap_setCell_same _ _ 0 _ _ _ hv)⟩⟩)
                      case rest =>
                        obtain ⟨vb, rfl, rfl, HX⟩ := hcut
                        have HT13 : Hid (TW w wc ra rb (.alt L) (.alt M) lb r0 r1 r2 r3 sb (.alt [.cat [.alt L], .cat [.alt M]]) (.alt [.cat [.alt L, .alt M]]) (.alt [.cat [.star (.alt L)]]) (.alt [.cat [.plus (.alt L)], .cat []]) str wide ∧ wc.heap[ub]? = some (.cells #[.string u1, .bool u2] 39 (0, 0)) ∧ wc.heap[vb]? = some (.cells #[.string v1, .bool v2] 39 (0, 0))) := Lib.hid ⟨HT12.out.1.below HX.out.1, (HX.out.1.block _ (lt_of_heap HT12.out.2)).trans HT12.out.2, HX.out.2⟩
                        clear HT12 HX d0 d1
                        have f0 := cell_of_heap (v := .string u1) HT13.out.2.1 (j := 0) rfl
                        have f1 := cell_of_heap (v := .bool u2) HT13.out.2.1 (j := 1) rfl
                        have g0 := cell_of_heap (v := .string v1) HT13.out.2.2 (j := 0) rfl
                        have g1 := cell_of_heap (v := .bool v2) HT13.out.2.2 (j := 1) rfl
                        have HLT := Lib.hid hlt
                        clear hlt
                        cases sm
                        · cases A
                          · go_wp2_with (first
                              | (go_at_call 15; with_reducible refine (HW1 _ HT13.out.1).out.mono ?_; rintro e w14 ⟨rfl, hb⟩
                                 have HT14 : Hid (TW w w14 ra rb (.alt L) (.alt M) lb r0 r1 r2 r3 sb (.alt [.cat [.alt L], .cat [.alt M]]) (.alt [.cat [.alt L, .alt M]]) (.alt [.cat [.star (.alt L)]]) (.alt [.cat [.plus (.alt L)], .cat []]) str wide) := Lib.hid (HT13.out.1.below hb)
                                 have hk := (hb.block _ (lt_of_heap HT13.out.2.2)).trans HT13.out.2.2
                                 have g0 := cell_of_heap (v := .string v1) hk (j := 0) rfl
                                 have g1 := cell_of_heap (v := .bool v2) hk (j := 1) rfl
                                 clear hb hk)
                              | (go_at_call 15; with_reducible refine (HW2 _ HT14.out).out.mono ?_; rintro e w15 ⟨rfl, hb⟩
                                 have HT15 : Hid (TW w w15 ra rb (.alt L) (.alt M) lb r0 r1 r2 r3 sb (.alt [.cat [.alt L], .cat [.alt M]]) (.alt [.cat [.alt L, .alt M]]) (.alt [.cat [.star (.alt L)]]) (.alt [.cat [.plus (.alt L)], .cat []]) str wide) := Lib.hid (HT14.out.below hb)
                                 clear hb))
                            go_roundw
                            case rel => exact ⟨_, i + 1, by have := HLT.out; omega, rfl, by go_num, HT14, by simpa using HS'⟩
                            case measure => have := HLT.out; simp [intOf]; omega
                          · go_wp2_with (first
                              | (go_at_call 15; with_reducible refine (HW1 _ HT13.out.1).out.mono ?_; rintro e w14 ⟨rfl, hb⟩
                                 have HT14 : Hid (TW w w14 ra rb (.alt L) (.alt M) lb r0 r1 r2 r3 sb (.alt [.cat [.alt L], .cat [.alt M]]) (.alt [.cat [.alt L, .alt M]]) (.alt [.cat [.star (.alt L)]]) (.alt [.cat [.plus (.alt L)], .cat []]) str wide) := Lib.hid (HT13.out.1.below hb)
                                 have hk := (hb.block _ (lt_of_heap HT13.out.2.2)).trans HT13.out.2.2
                                 have g0 := cell_of_heap (v := .string v1) hk (j := 0) rfl
                                 have g1 := cell_of_heap (v := .bool v2) hk (j := 1) rfl
                                 clear hb hk)
                              | (go_at_call 15; with_reducible refine (HW2 _ HT14.out).out.mono ?_; rintro e w15 ⟨rfl, hb⟩
                                 have HT15 : Hid (TW w w15 ra rb (.alt L) (.alt M) lb r0 r1 r2 r3 sb (.alt [.cat [.alt L], .cat [.alt M]]) (.alt [.cat [.alt L, .alt M]]) (.alt [.cat [.star (.alt L)]]) (.alt [.cat [.plus (.alt L)], .cat []]) str wide) := Lib.hid (HT14.out.below hb)
                                 clear hb))
                            go_roundw
                            case rel => exact ⟨_, i + 1, by have := HLT.out; omega, rfl, by go_num, HT15, by simpa using HS'⟩
                            case measure => have := HLT.out; simp [intOf]; omega
                        · go_wp2_with (first
                            | (go_at_call 15; with_reducible refine (HW1 _ HT13.out.1).out.mono ?_; rintro e w14 ⟨rfl, hb⟩
                               have HT14 : Hid (TW w w14 ra rb (.alt L) (.alt M) lb r0 r1 r2 r3 sb (.alt [.cat [.alt L], .cat [.alt M]]) (.alt [.cat [.alt L, .alt M]]) (.alt [.cat [.star (.alt L)]]) (.alt [.cat [.plus (.alt L)], .cat []]) str wide) := Lib.hid (HT13.out.1.below hb)
                               have hk := (hb.block _ (lt_of_heap HT13.out.2.2)).trans HT13.out.2.2
                               have g0 := cell_of_heap (v := .string v1) hk (j := 0) rfl
                               have g1 := cell_of_heap (v := .bool v2) hk (j := 1) rfl
                               clear hb hk)
                            | (go_at_call 15; with_reducible refine (HW2 _ HT14.out).out.mono ?_; rintro e w15 ⟨rfl, hb⟩
                               have HT15 : Hid (TW w w15 ra rb (.alt L) (.alt M) lb r0 r1 r2 r3 sb (.alt [.cat [.alt L], .cat [.alt M]]) (.alt [.cat [.alt L, .alt M]]) (.alt [.cat [.star (.alt L)]]) (.alt [.cat [.plus (.alt L)], .cat []]) str wide) := Lib.hid (HT14.out.below hb)
                               clear hb))
                          go_roundw
                          case rel => exact ⟨_, i + 1, by have := HLT.out; omega, rfl, by go_num, Lib.hid HT13.out.1, by simpa using HS'⟩
                          case measure => have := HLT.out; simp [intOf]; omega
                    · obtain rfl : i = l.length + 1 := by omega
                      clear hlt hi
                      have d0 := cell_of_heap (v := .string str) HT.out.x (j := 0) rfl
                      have d1 := cell_of_heap (v := .bool wide) HT.out.x (j := 1) rfl
                      have e1 := cell_of_heap (v := .pointer (some ⟨r1, 0, none⟩)) HT.out.l (j := 1) rfl
                      have HW : Hid (Calls Try.prog 15 #[.pointer (some ⟨r1, 0, none⟩), .agg #[.string str, .bool wide]] wr fun e w' => e = .returned (.bool sm) ∧ Below wr.heap.size wr w') := by
                        obtain ⟨s, t, h⟩ := HT.out.g1
                        have h1 := HWH wr _ s _ t h
                        have e : wB l (.alt [.cat [.alt L, .alt M]]) = sm := by
                          rw [Bool.eq_iff_iff, wB_iff, cat_match, HS.out]
                          exact ⟨fun ⟨k, h2, h3⟩ => ⟨k, by have := h2.le; omega, h2, h3⟩, fun ⟨k, _, h2, h3⟩ => ⟨k, h2, h3⟩⟩
                        rw [e] at h1
                        exact h1
                      have q1 : ((l.length + 1 : Nat) : Int) = (l.length : Int) + 1 := by omega
                      rw [q1]
                      cases sm
                      · go_wp2_with (first
                          | (go_at_call 15; with_reducible refine HW.out.mono ?_; rintro e w14 ⟨rfl, hb⟩; have HB14 := Lib.hid (HT.out.bel.trans (hb.mono HT.out.bel.size)); clear hb))
                        go_ret
                        exact ⟨rfl, HB14.out⟩
                      · go_wp2_with (first
                          | (go_at_call 15; with_reducible refine HW.out.mono ?_; rintro e w14 ⟨rfl, hb⟩; have HB14 := Lib.hid (HT.out.bel.trans (hb.mono HT.out.bel.size)); clear hb))
                        go_ret
                        exact ⟨rfl, HB14.out⟩
    · have hn : (decide (q.size ≤ 200) && decide (s.size ≤ 60)) = false := by simpa using hsq
      rw [hn] at HSQ
      clear hsp hsq hn
      go_enter Try.func7, Try.ntmps7
      go_wp2_with (first
        | (go_at_call 10; refine (HAW _).out.mono ?_; rintro e w1 ⟨rfl, hb⟩; have HB1 := Lib.hid hb; clear hb)
        | (go_at_call 11; have _t := t1; clear _t; refine (HSP _).out.mono ?_; rintro e w2 ⟨rfl, rfl⟩; clear t1)
        | (go_at_call 11; refine (HSQ _).out.mono ?_; rintro e w2 ⟨rfl, rfl⟩))
      go_ret
      exact ⟨rfl, HB1.out⟩
  · have hn : (decide (p.size ≤ 200) && decide (s.size ≤ 60)) = false := by simpa using hsp
    rw [hn] at HSP
    clear hsp hn
    go_enter Try.func7, Try.ntmps7
    go_wp2_with (first
      | (go_at_call 10; refine (HAW _).out.mono ?_; rintro e w1 ⟨rfl, hb⟩; have HB1 := Lib.hid hb; clear hb)
      | (go_at_call 11; have _t := t1; clear _t; refine (HSP _).out.mono ?_; rintro e w2 ⟨rfl, rfl⟩; clear t1))
    go_ret
    exact ⟨rfl, HB1.out⟩
end Go.Proofs.Ytcajnmhbkjngbaa

