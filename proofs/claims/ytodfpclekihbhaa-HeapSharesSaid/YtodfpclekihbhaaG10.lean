/- Texts on the heap, merged: W29, W30, W31. -/
import Derived.Test.YtodfpclekihbhaaG09
/- Part. -/
namespace Go.Proofs.Ytodfpclekihbhaa
open Go.RowKit Go.Shelf

variable {w : World} {hb : Nat} {A : HA} {H : Hp} {S : Nat → Prop}
theorem part_none (h : HpAt w hb A H S) {r : Int} (ho : Mp.get H.objs r = none) (f t : Int) : Calls Try.prog 14 #[.pointer (some ⟨hb, 0, none⟩), .int .i64 r, .int .i64 f, .int .i64 t] w (MkPost w hb S (H, 0, 4)) := by
  have HF := Lib.hid (find_none h ho)
  have HH := Lib.hid h
  clear h ho
  go_enter Try.func14, Try.ntmps14
  go_wp2_with (go_at_call 57; refine HF.out.mono ?_; rintro e w1 ⟨rfl, rfl⟩)
  all_goals go_ret2
  all_goals exact MkPost.err HH.out 4 (Below.refl _ _)
theorem part_kind (h : HpAt w hb A H S) {r : Int} {o : Ob} (ho : Mp.get H.objs r = some o) (hk : o.kind ≠ 2) (f t : Int) : Calls Try.prog 14 #[.pointer (some ⟨hb, 0, none⟩), .int .i64 r, .int .i64 f, .int .i64 t] w (MkPost w hb S (H, 0, 13)) := by
  have HF := Lib.hid (find_some h ho)
  have HH := Lib.hid h
  obtain ⟨d0, _⟩ := h.ocells ho
  have k1 : (o.kind != 2) = !false := by simpa using hk
  clear h ho hk
  go_enter Try.func14, Try.ntmps14
  go_wp2_with (go_at_call 57; refine HF.out.mono ?_; rintro e w1 ⟨rfl, rfl⟩)
  all_goals go_ret2
  all_goals exact MkPost.err HH.out 13 (Below.refl _ _)
theorem part_neg (h : HpAt w hb A H S) {r : Int} {o : Ob} (ho : Mp.get H.objs r = some o) (hk : o.kind = 2) (f t : Int) (hf : f < 0) : Calls Try.prog 14 #[.pointer (some ⟨hb, 0, none⟩), .int .i64 r, .int .i64 f, .int .i64 t] w (MkPost w hb S (H, 0, 11)) := by
  have HF := Lib.hid (find_some h ho)
  have HH := Lib.hid h
  obtain ⟨d0, d1, d2, d3, d4, d5, d6, d7, d8, d9, _⟩ := h.ocells ho
  rw [hk] at d0
  have g1 : decide (f < 0) = true := by simpa using hf
  clear h ho hk hf
  go_enter Try.func14, Try.ntmps14
  go_wp2_with (go_at_call 57; refine HF.out.mono ?_; rintro e w1 ⟨rfl, rfl⟩)
  go_quiet (fail)
  go_wp2
  all_goals go_ret2
  all_goals exact MkPost.err HH.out 11 ((Below.refl _ _).dn _)
theorem part_turn (h : HpAt w hb A H S) {r : Int} {o : Ob} (ho : Mp.get H.objs r = some o) (hk : o.kind = 2) (f t : Int) (hf : 0 ≤ f) (ht : t < f) : Calls Try.prog 14 #[.pointer (some ⟨hb, 0, none⟩), .int .i64 r, .int .i64 f, .int .i64 t] w (MkPost w hb S (H, 0, 11)) := by
  have HF := Lib.hid (find_some h ho)
  have HH := Lib.hid h
  obtain ⟨d0, d1, d2, d3, d4, d5, d6, d7, d8, d9, _⟩ := h.ocells ho
  rw [hk] at d0
  have g1 : decide (f < 0) = false := by simp; omega
  have g2 : decide (t < f) = true := by simpa using ht
  clear h ho hk hf ht
  go_enter Try.func14, Try.ntmps14
  go_wp2_with (go_at_call 57; refine HF.out.mono ?_; rintro e w1 ⟨rfl, rfl⟩)
  go_quiet (fail)
  go_wp2
  all_goals go_ret2
  all_goals exact MkPost.err HH.out 11 ((Below.refl _ _).dn _)
theorem part_far (h : HpAt w hb A H S) {r : Int} {o : Ob} (ho : Mp.get H.objs r = some o) (hk : o.kind = 2) (f t : Int) (hf : 0 ≤ f) (ht : f ≤ t) (hlh : o.lo ≤ o.hi) (hhi : o.hi ≤ 100000000) (hd : (o.hi : Int) - o.lo < t) : Calls Try.prog 14 #[.pointer (some ⟨hb, 0, none⟩), .int .i64 r, .int .i64 f, .int .i64 t] w (MkPost w hb S (H, 0, 11)) := by
  have HF := Lib.hid (find_some h ho)
  have HH := Lib.hid h
  obtain ⟨d0, d1, d2, d3, d4, d5, d6, d7, d8, d9, _⟩ := h.ocells ho
  rw [hk] at d0
  have g1 : decide (f < 0) = false := by simp; omega
  have g2 : decide (t < f) = false := by simp; omega
  obtain ⟨D, hD⟩ : ∃ D : Nat, D = o.hi - o.lo := ⟨_, rfl⟩
  have s1 : IntKind.i64.wrap ((o.hi : Int) - (o.lo : Int)) = (D : Int) := by rw [IntWalk.i64_in _ (by omega)]; omega
  have g3 : decide ((D : Int) < t) = true := by simp; omega
  clear h ho hk hf ht hlh hhi hd hD
  go_enter Try.func14, Try.ntmps14
  go_wp2_with (go_at_call 57; refine HF.out.mono ?_; rintro e w1 ⟨rfl, rfl⟩)
  go_quiet (fail)
  go_wp2
  all_goals go_ret2
  all_goals exact MkPost.err HH.out 11 ((Below.refl _ _).dn _)
theorem HpAt.inc2 (h : HpAt w hb A H S) {k : Int} {x : Rw} (hx : Mp.get H.rows k = some x) (hi : x.isA = true) : HpAt (w.setCell ⟨A.st k, 2, none⟩ (.int .i64 (x.arr + 1))) hb A (H.updR k Rw.inc) S := h.setArr k x hx hi (x.arr + 1) Rw.inc rfl (fun _ => rfl) fun _ => rfl
theorem HpAt.shpAt (h : HpAt w hb A H S) {r : Int} {o : Ob} (ho : Mp.get H.objs r = some o) : ShpAt w (A.sA r) o.refs := ⟨h.shp r o ho, fun he a ha => (h.Sp r o a ho he ha).2⟩
theorem get_addH {H : Hp} {r : Int} {o : Ob} (ho : Mp.get H.objs r = some o) (hr : r ≠ (H.last : Int) + 1) (o1 : Ob) : Mp.get (addH H o1).objs r = some o := by
  unfold addH
  rw [seeH_objs]
  show Mp.get (Mp.put H.objs _ _) r = _
  rw [Mp.get_put, if_neg hr]
  exact ho
theorem HpAt.added {r : Int} {o o1 : Ob} {nb sc : Nat} {sa : Option Addr} (h : HpAt w hb (A.addO ((H.last : Int) + 1) nb sa sc) (addH H o1) S) (ho : Mp.get H.objs r = some o) (hr : r ≠ (H.last : Int) + 1) : ∃ n, w.heap[A.ob r]? = some (.cells (obC A r o n) 104 (0, 0)) := by
  have h1 := h.obj r o (get_addH ho hr o1)
  rw [show (A.addO ((H.last : Int) + 1) nb sa sc).ob r = A.ob r from if_neg hr] at h1
  refine ⟨((addH H o1).rowOf o.row).length, h1.trans ?_⟩
  unfold obC
  rw [show (A.addO ((H.last : Int) + 1) nb sa sc).sA r = A.sA r from if_neg hr, show (A.addO ((H.last : Int) + 1) nb sa sc).sC r = A.sC r from if_neg hr]
  rfl
theorem obC0_add (A : HA) (r : Int) (o : Ob) (nb : Nat) (sa : Option Addr) (sc n : Nat) : obC0 (A.addO r nb sa sc) r o n = #[.int .i64 o.kind, .int .i64 o.cls, .slice sa o.refs.length sc, A.wF o n, .string o.chars, .bool o.wide, .int .i64 o.tail, A.pF o, .int .i64 (o.lo : Int), .int .i64 (o.hi : Int), .int .i64 0, .int .i64 o.rc] := by
  unfold obC0 obC
  rw [show (A.addO r nb sa sc).sA r = sa from if_pos rfl, show (A.addO r nb sa sc).sC r = sc from if_pos rfl]
  rfl
set_option maxHeartbeats 4000000 in
theorem part_ok (h : HpAt w hb A H S) (hi : Inv H []) (hn : H.last ≤ 1000000) {r : Int} {o : Ob} (ho : Mp.get H.objs r = some o) (hk : o.kind = 2) {x : Rw} (hx : Mp.get H.rows o.row = some x) (hxA : x.isA = true) (hxa : x.arr ≤ 1000000000) (hxa0 : 0 ≤ x.arr) (f t : Nat) (hft : f ≤ t) (hlh : o.lo ≤ o.hi) (hhi : o.hi ≤ 100000000) (ht : t ≤ o.hi - o.lo) :
    Calls Try.prog 14 #[.pointer (some ⟨hb, 0, none⟩), .int .i64 r, .int .i64 (f : Int), .int .i64 (t : Int)] w (MkPost w hb S (addH (H.updR o.row Rw.inc) (partOb o f t), (H.last : Int) + 1, 0)) := by
  have HF := Lib.hid (find_some h ho)
  have HH := Lib.hid h
  have HO := Lib.hid ho
  have HX := Lib.hid hx
  have HXA := Lib.hid hxA
  have hrn : r ≠ (H.last : Int) + 1 := by have := hi.rng r o ho; omega
  have HRN := Lib.hid hrn
  have HFr := Lib.hid (fresh_of hi).1
  obtain ⟨d0, d1, d2, d3, d4, d5, d6, d7, d8, d9, _⟩ := h.ocells ho
  rw [hk] at d0
  rw [show A.pF o = .pointer (some ⟨A.st o.row, 0, none⟩) from by unfold HA.pF; rw [if_pos hk]] at d7
  have e2 := cell_of_heap (v := .int .i64 x.arr) (h.sto _ _ hx hxA) (j := 2) rfl
  have ef := frozen_of_heap (h.sto _ _ hx hxA) 2
  have g1 : decide ((f : Int) < 0) = false := by simp
  have g2 : decide (t < f) = false := decide_eq_false (by omega)
  have g2' : decide ((t : Int) < (f : Int)) = false := decide_eq_false (by omega)
  obtain ⟨D, hD⟩ : ∃ D : Nat, D = o.hi - o.lo := ⟨_, rfl⟩
  have s1 : IntKind.i64.wrap ((o.hi : Int) - (o.lo : Int)) = (D : Int) := by rw [IntWalk.i64_in _ (by omega)]; omega
  have g3 : decide (D < t) = false := decide_eq_false (by omega)
  have g3' : decide ((D : Int) < (t : Int)) = false := decide_eq_false (by omega)
  obtain ⟨F, hF⟩ : ∃ F : Nat, F = o.lo + f := ⟨_, rfl⟩
  obtain ⟨T, hT⟩ : ∃ T : Nat, T = o.lo + t := ⟨_, rfl⟩
  have s2 : IntKind.i64.wrap ((o.lo : Int) + (f : Int)) = (F : Int) := by rw [IntWalk.i64_in _ (by omega)]; omega
  have s3 : IntKind.i64.wrap ((o.lo : Int) + (t : Int)) = (T : Int) := by rw [IntWalk.i64_in _ (by omega)]; omega
  have HPO : Hid (partOb o f t = ⟨2, o.cls, o.refs, emptyB, false, 0, o.row, F, T, 0, 0⟩) := Lib.hid (by unfold partOb; rw [Int.toNat_natCast, Int.toNat_natCast, hF, hT])
  have HK := Lib.hid hk
  rw [HPO.out]
  clear h ho hk hx hxA hi hD hF hT hft hlh hhi ht hrn d3 d4 d5 d6
  go_enter Try.func14, Try.ntmps14
  go_wp2_with (go_at_call 57; refine HF.out.mono ?_; rintro e w1 ⟨rfl, rfl⟩)
  go_quiet (fail)
  go_wp2
  have HB0 : Hid (Below w.heap.size w (w.drewN nq)) := Lib.hid ((Below.refl _ _).dn _)
  have hp1 := (HH.out.below HB0.out).inc2 HX.out HXA.out
  have hm1 : Mut S w ((w.drewN nq).setCell ⟨A.st o.row, 2, none⟩ (.int .i64 (x.arr + 1))) := (Mut.of_below HB0.out).then (Mut.setCell _ _ _ _ (HH.out.St _ _ HX.out HXA.out))
  have ho1 : Mp.get (H.updR o.row Rw.inc).objs r = some o := HO.out
  obtain ⟨n0, n1, n2, n3, n4, n5, n6, n7, n8, n9, _⟩ := hp1.ocells ho1
  rw [show A.pF o = .pointer (some ⟨A.st o.row, 0, none⟩) from by unfold HA.pF; rw [if_pos HK.out]] at n7
  have HP1 := Lib.hid hp1
  have HM1 := Lib.hid hm1
  have HO1 := Lib.hid ho1
  generalize hW : (w.drewN nq).setCell ⟨A.st o.row, 2, none⟩ (.int .i64 (x.arr + 1)) = W at *
  clear hp1 hm1 ho1 hW n0 n3 n4 n5 n6 n9 d0 d1 d2 d7 d8 d9 e2 ef
  go_region_held3 (fun w' => w'.cell? ⟨A.ob r, 1, none⟩ = some (.int .i64 o.cls) ∧ w'.cell? ⟨A.ob r, 2, none⟩ = some (.slice (A.sA r) o.refs.length (A.sC r)) ∧ w'.cell? ⟨A.ob r, 7, none⟩ = some (.pointer (some ⟨A.st o.row, 0, none⟩)) ∧ w'.cell? ⟨A.ob r, 8, none⟩ = some (.int .i64 (o.lo : Int)))
    (((try go_split_ands); (repeat' apply And.intro) <;> first | assumption | go_keep))
    ((go_at_call 55; (try go_split_ands)
      refine (add_calls (HP1.out.below ?c1) HFr.out ⟨2, o.cls, o.refs, emptyB, false, 0, o.row, F, T, 0, 0⟩ W.heap.size (A.sA r) (A.sC r) ?c2 (get_updR HX.out Rw.inc) hn ?c3 ?c4).mono ?_
      case c1 => first | exact (Below.refl _ _).drew.alloc (Nat.le_refl _) _ | exact ((Below.refl _ _).alloc (Nat.le_refl _) _).drew
      case c2 => exact fun hS => Nat.lt_irrefl _ (HP1.out.Slt _ hS)
      case c3 =>
        rw [obC0_add]
        first | exact heap_alloc_new W _ | exact heap_alloc_new W.drew _
      case c4 => exact HpAt.shpAt (o := o) (HP1.out.below (by first | exact (Below.refl _ _).drew.alloc (Nat.le_refl _) _ | exact ((Below.refl _ _).alloc (Nat.le_refl _) _).drew)) HO1.out
      rintro e w3 ⟨rfl, hp3, hm3⟩
      obtain ⟨nn, q⟩ := hp3.added HO1.out HRN.out
      have q1 := cell_of_heap (v := .int .i64 o.cls) q (j := 1) rfl
      have q2 := cell_of_heap (v := .slice (A.sA r) o.refs.length (A.sC r)) q (j := 2) rfl
      have q7 := cell_of_heap (v := A.pF o) q (j := 7) rfl
      rw [show A.pF o = .pointer (some ⟨A.st o.row, 0, none⟩) from by unfold HA.pF; rw [if_pos HK.out]] at q7
      have q8 := cell_of_heap (v := .int .i64 (o.lo : Int)) q (j := 8) rfl
      have HP3 := Lib.hid hp3
      have HM3 := Lib.hid hm3
      clear hp3 hm3 q)
      )
  go_wp2
  all_goals go_ret2
  all_goals
    refine ⟨rfl, _, _, HP3.out, HM1.out.trans (Mut.trans (S := S) (Mut.of_below (by first | exact (Below.refl _ _).drew.alloc (Nat.le_refl _) _ | exact ((Below.refl _ _).alloc (Nat.le_refl _) _).drew)) HM3.out fun k hk => hk.imp id fun e => by rw [e]; exact Nat.le_refl _) fun _ => .inl, ?_⟩
    intro k hk
    rcases hk with hk | hk | ⟨he, a, ha, hk⟩
    · exact .inl hk
    · rw [hk]; exact .inr HM1.out.size
    · rw [← hk]; exact .inl (HP1.out.Sp _ _ _ HO1.out he ha).1
/-- Part. -/
theorem part_calls (h : HpAt w hb A H S) (hi : Inv H []) (hl : LenOk H) (hn : H.last ≤ 1000000) (r f t : Int) : Calls Try.prog 14 #[.pointer (some ⟨hb, 0, none⟩), .int .i64 r, .int .i64 f, .int .i64 t] w (MkPost w hb S (partH H r f t)) := by
  cases ho : Mp.get H.objs r with
  | none => unfold partH; simp only [ho]; exact part_none h ho f t
  | some o =>
    unfold partH
    simp only [ho]
    by_cases hk : o.kind ≠ 2
    · rw [if_pos hk]; exact part_kind h ho hk f t
    · rw [if_neg hk]
      have hk : o.kind = 2 := Classical.not_not.1 hk
      obtain ⟨x, hx, hxA, _⟩ := hi.row r o ho
      obtain ⟨l1, _, l3⟩ := (hl r o x ho hx).2.1 hk
      obtain ⟨a1, a2, _⟩ := hi.arr _ _ hx
      have a3 : arrC H.objs o.row ≤ H.objs.length := List.length_filter_le _ _
      have a4 := length_le_of_keys hi.ndO hi.rng
      by_cases hb : f < 0 ∨ t < f ∨ (o.hi : Int) - o.lo < t
      · rw [if_pos hb]
        by_cases h1 : f < 0
        · exact part_neg h ho hk f t h1
        · by_cases h2 : t < f
          · exact part_turn h ho hk f t (by omega) h2
          · exact part_far h ho hk f t (by omega) (by omega) l1 (by omega) (by omega)
      · rw [if_neg hb]
        obtain ⟨F, rfl⟩ : ∃ F : Nat, f = (F : Int) := ⟨f.toNat, by omega⟩
        obtain ⟨T, rfl⟩ : ∃ T : Nat, t = (T : Int) := ⟨t.toNat, by omega⟩
        exact part_ok h hi hn ho hk hx (hxA.2 hk) (by omega) (by omega) F T (by omega) l1 (by omega) (by omega)
end Go.Proofs.Ytodfpclekihbhaa

/- Copy: the model's loop; errors. -/
namespace Go.Proofs.Ytodfpclekihbhaa
open Go.RowKit Go.Shelf
set_option maxRecDepth 8000

variable {w : World} {hb : Nat} {A : HA} {H : Hp} {S : Nat → Prop}
theorem get_referH_ne {G : Hp} {x : Int} (r : Int) (h : Mp.get G.objs x ≠ none) : Mp.get (referH G r).objs x ≠ none := by
  unfold referH
  split
  · exact h
  · rw [get_upd]
    split
    · intro e
      rw [Option.map_eq_none_iff] at e
      exact h e
    · exact h
/-- Where a copying stands. -/
structure CpI (H : Hp) (k : Int) (i0 : Nat) (l : List Wd) (n : Nat) (R : Hp × List Int) (G : Hp) (old : List Int) (j : Nat) : Prop where
  inv : Inv G old.reverse
  mu : muH G = muH H
  hl : HoldsLe G 1000000000
  row : ∃ y, Mp.get G.rows k = some y ∧ y.words.length = n
  mem : ∀ x ∈ l, x.ref = 0 ∨ Mp.get G.objs x.ref ≠ none
  fin : (copyW G k (i0 + j) (l.drop j)).1 = R.1
  fol : old ++ (copyW G k (i0 + j) (l.drop j)).2 = R.2
  len : old.length = j
theorem CpI.start {H : Hp} {k : Int} (i0 : Nat) {l : List Wd} {y : Rw} (hi : Inv H []) (hl : HoldsLe H 1000000000) (hy : Mp.get H.rows k = some y) (hm : ∀ x ∈ l, x.ref = 0 ∨ Mp.get H.objs x.ref ≠ none) : CpI H k i0 l y.words.length (copyW H k i0 l) H [] 0 :=
  ⟨hi, rfl, hl, ⟨y, hy, rfl⟩, hm, rfl, rfl, rfl⟩
theorem CpI.step {H : Hp} {k : Int} {i0 : Nat} {l : List Wd} {n : Nat} {R : Hp × List Int} {G : Hp} {old : List Int} {j : Nat} (h : CpI H k i0 l n R G old j) (hj : j < l.length) (hi : i0 + l.length ≤ n) :
    CpI H k i0 l n R (setW (seeH (seeH (referH G (l[j]'hj).ref) (l[j]'hj).ref) (refAt G k (i0 + j))) k (i0 + j) (l[j]'hj)) (old ++ [refAt G k (i0 + j)]) (j + 1) := by
  obtain ⟨y, hy, hyn⟩ := h.row
  have hx := h.mem _ (List.getElem_mem hj)
  have hd := List.drop_eq_getElem_cons hj
  have hfin := h.fin
  have hfol := h.fol
  rw [hd] at hfin hfol
  generalize l[j]'hj = x at *
  have hy4 : Mp.get (seeH (seeH (referH G x.ref) x.ref) (refAt G k (i0 + j))).rows k = some y := by rw [seeH_rows, seeH_rows, referH_rows]; exact hy
  have hr : refAt (seeH (seeH (referH G x.ref) x.ref) (refAt G k (i0 + j))) k (i0 + j) = refAt G k (i0 + j) := refAt_rows (by rw [seeH_rows, seeH_rows, referH_rows]) _ _
  refine ⟨?_, ?_, ?_, ⟨_, rows_setW _ k (i0 + j) x hy4, by simpa using hyn⟩, ?_, hfin, ?_, by rw [List.length_append, h.len]; rfl⟩
  · have := Inv.setW (w := x) (((h.inv.referH hx).see x.ref).see (refAt G k (i0 + j))) hy4 (i := i0 + j) (by omega)
    rw [hr] at this
    simpa using this
  · rw [mu_setW, mu_see, mu_see, mu_refer]; exact h.mu
  · exact ((h.hl.refer _).see _).see _
  · intro z hz
    refine (h.mem z hz).imp id fun e => ?_
    show Mp.get (seeH (seeH (referH G x.ref) x.ref) (refAt G k (i0 + j))).objs z.ref ≠ none
    rw [seeH_objs, seeH_objs]
    exact get_referH_ne _ e
  · rw [← hfol, List.append_assoc]; rfl
theorem CpI.done {H : Hp} {k : Int} {i0 : Nat} {l : List Wd} {n : Nat} {R : Hp × List Int} {G : Hp} {old : List Int} (h : CpI H k i0 l n R G old l.length) : G = R.1 ∧ old = R.2 := by
  have h1 := h.fin
  have h2 := h.fol
  rw [List.drop_length] at h1 h2
  exact ⟨h1, by simpa [copyW] using h2⟩
theorem find_any (h : HpAt w hb A H S) (r : Int) : ∃ v, Calls Try.prog 57 #[.pointer (some ⟨hb, 0, none⟩), .int .i64 r] w fun e w' => e = .returned v ∧ w = w' := by
  cases ho : Mp.get H.objs r with
  | none => exact ⟨_, find_none h ho⟩
  | some o => exact ⟨_, find_some h ho⟩
set_option maxHeartbeats 1000000 in
theorem copy_none1 (h : HpAt w hb A H S) {r : Int} (ho : Mp.get H.objs r = none) (k x : Int) : Calls Try.prog 15 #[.pointer (some ⟨hb, 0, none⟩), .int .i64 r, .int .i64 k, .int .i64 x] w (ChPost w hb A S (H, 4)) := by
  obtain ⟨v, hv⟩ := find_any h x
  have HF := Lib.hid (find_none h ho)
  have HV := Lib.hid hv
  have HH := Lib.hid h
  clear h ho hv
  have t1 : True := trivial
  go_enter Try.func15, Try.ntmps15
  go_wp2_with (first
    | (go_at_call 57; have _t := t1; refine HF.out.mono ?_; rintro e w1 ⟨rfl, rfl⟩; clear t1 _t)
    | (go_at_call 57; refine HV.out.mono ?_; rintro e w1 ⟨rfl, rfl⟩))
  all_goals go_ret
  all_goals exact ChPost.err HH.out 4 _ _ ⟨rfl, Below.refl _ _⟩
set_option maxHeartbeats 1000000 in
theorem copy_none2 (h : HpAt w hb A H S) {r x : Int} {o : Ob} (ho : Mp.get H.objs r = some o) (hx : Mp.get H.objs x = none) (k : Int) : Calls Try.prog 15 #[.pointer (some ⟨hb, 0, none⟩), .int .i64 r, .int .i64 k, .int .i64 x] w (ChPost w hb A S (H, 4)) := by
  have HF := Lib.hid (find_some h ho)
  have HV := Lib.hid (find_none h hx)
  have HH := Lib.hid h
  clear h ho hx
  have t1 : True := trivial
  go_enter Try.func15, Try.ntmps15
  go_wp2_with (first
    | (go_at_call 57; have _t := t1; refine HF.out.mono ?_; rintro e w1 ⟨rfl, rfl⟩; clear t1 _t)
    | (go_at_call 57; refine HV.out.mono ?_; rintro e w1 ⟨rfl, rfl⟩))
  all_goals go_ret
  all_goals exact ChPost.err HH.out 4 _ _ ⟨rfl, Below.refl _ _⟩
set_option maxHeartbeats 1000000 in
theorem copy_kind1 (h : HpAt w hb A H S) {r x : Int} {o p : Ob} (ho : Mp.get H.objs r = some o) (hx : Mp.get H.objs x = some p) (hk : o.kind ≠ 2) (k : Int) : Calls Try.prog 15 #[.pointer (some ⟨hb, 0, none⟩), .int .i64 r, .int .i64 k, .int .i64 x] w (ChPost w hb A S (H, 13)) := by
  have HF := Lib.hid (find_some h ho)
  have HV := Lib.hid (find_some h hx)
  have HH := Lib.hid h
  obtain ⟨d0, _⟩ := h.ocells ho
  have k1 : (o.kind != 2) = !false := by simpa using hk
  clear h ho hx hk
  have t1 : True := trivial
  go_enter Try.func15, Try.ntmps15
  go_wp2_with (first
    | (go_at_call 57; have _t := t1; refine HF.out.mono ?_; rintro e w1 ⟨rfl, rfl⟩; clear t1 _t)
    | (go_at_call 57; refine HV.out.mono ?_; rintro e w1 ⟨rfl, rfl⟩))
  all_goals go_ret
  all_goals exact ChPost.err HH.out 13 _ _ ⟨rfl, Below.refl _ _⟩
set_option maxHeartbeats 1000000 in
theorem copy_kind2 (h : HpAt w hb A H S) {r x : Int} {o p : Ob} (ho : Mp.get H.objs r = some o) (hx : Mp.get H.objs x = some p) (hk : o.kind = 2) (hk2 : p.kind ≠ 2) (k : Int) : Calls Try.prog 15 #[.pointer (some ⟨hb, 0, none⟩), .int .i64 r, .int .i64 k, .int .i64 x] w (ChPost w hb A S (H, 13)) := by
  have HF := Lib.hid (find_some h ho)
  have HV := Lib.hid (find_some h hx)
  have HH := Lib.hid h
  obtain ⟨d0, _⟩ := h.ocells ho
  obtain ⟨e0, _⟩ := h.ocells hx
  rw [hk] at d0
  have k1 : (p.kind != 2) = !false := by simpa using hk2
  clear h ho hx hk hk2
  have t1 : True := trivial
  go_enter Try.func15, Try.ntmps15
  go_wp2_with (first
    | (go_at_call 57; have _t := t1; refine HF.out.mono ?_; rintro e w1 ⟨rfl, rfl⟩; clear t1 _t)
    | (go_at_call 57; refine HV.out.mono ?_; rintro e w1 ⟨rfl, rfl⟩))
  all_goals go_ret
  all_goals exact ChPost.err HH.out 13 _ _ ⟨rfl, Below.refl _ _⟩
set_option maxHeartbeats 1000000 in
theorem copy_shape (h : HpAt w hb A H S) {r x : Int} {o p : Ob} (ho : Mp.get H.objs r = some o) (hx : Mp.get H.objs x = some p) (hk : o.kind = 2) (hk2 : p.kind = 2) (hl : o.refs.length ≤ 100000000) (hl2 : p.refs.length ≤ 100000000) (hne : o.refs ≠ p.refs) (k : Int) : Calls Try.prog 15 #[.pointer (some ⟨hb, 0, none⟩), .int .i64 r, .int .i64 k, .int .i64 x] w (ChPost w hb A S (H, 14)) := by
  have HF := Lib.hid (find_some h ho)
  have HV := Lib.hid (find_some h hx)
  have HH := Lib.hid h
  obtain ⟨d0, d1, d2, _⟩ := h.ocells ho
  obtain ⟨e0, e1, e2, _⟩ := h.ocells hx
  rw [hk] at d0
  rw [hk2] at e0
  have HO := Lib.hid ho
  have HX := Lib.hid hx
  have HL := Lib.hid hl
  have HL2 := Lib.hid hl2
  have HE : Hid (decide (o.refs = p.refs) = false) := Lib.hid (decide_eq_false hne)
  have HB0 : Hid (Below w.heap.size w w) := Lib.hid (Below.refl _ _)
  clear h ho hx hk hk2 hl hl2 hne d1 e1
  have t1 : True := trivial
  go_enter Try.func15, Try.ntmps15
  go_wp2_with (first
    | (go_at_call 57; have _t := t1; refine HF.out.mono ?_; rintro e w1 ⟨rfl, rfl⟩; clear t1 _t)
    | (go_at_call 57; refine HV.out.mono ?_; rintro e w1 ⟨rfl, rfl⟩))
  go_region_held3 (fun w' => w'.cell? ⟨A.ob r, 2, none⟩ = some (.slice (A.sA r) o.refs.length (A.sC r)) ∧ w'.cell? ⟨A.ob x, 2, none⟩ = some (.slice (A.sA x) p.refs.length (A.sC x)) ∧ Hid (Below w.heap.size w w'))
    (((try go_split_ands); (repeat' apply And.intro) <;> first | exact keep3 hb (by assumption) | assumption | exact Lib.hid (Below.trans (Hid.out (by assumption)) (Below.mono hb (Below.size (Hid.out (by assumption))))) | exact Lib.hid (Below.drew (Hid.out (by assumption))) | go_keep))
    ((go_at_call 58; (try go_split_ands); refine (equal_bools (A.sC r) (A.sC x) ((HH.out.below (Hid.out (by assumption))).shp r o HO.out) ((HH.out.below (Hid.out (by assumption))).shp x p HX.out) HL.out HL2.out).mono ?_; rintro e w2 ⟨rfl, hb⟩; rw [HE.out]))
  all_goals have HB2 : Hid (Below w.heap.size w w2) := by (try go_split_ands); assumption
  all_goals (try go_split_ands)
  all_goals go_wp2
  all_goals go_ret
  all_goals exact ChPost.err HH.out 14 _ _ ⟨rfl, HB2.out⟩
end Go.Proofs.Ytodfpclekihbhaa

/- Copy: the places. -/
namespace Go.Proofs.Ytodfpclekihbhaa
open Go.RowKit Go.Shelf
set_option maxRecDepth 8000

variable {w : World} {hb : Nat} {A : HA} {H : Hp} {S : Nat → Prop}
set_option maxHeartbeats 1000000 in
theorem copy_neg (h : HpAt w hb A H S) {r x : Int} {o p : Ob} (ho : Mp.get H.objs r = some o) (hx : Mp.get H.objs x = some p) (hk : o.kind = 2) (hk2 : p.kind = 2) (hl : o.refs.length ≤ 100000000) (heq : o.refs = p.refs) (k : Int) (hkn : k < 0) : Calls Try.prog 15 #[.pointer (some ⟨hb, 0, none⟩), .int .i64 r, .int .i64 k, .int .i64 x] w (ChPost w hb A S (H, 11)) := by
  have HF := Lib.hid (find_some h ho)
  have HV := Lib.hid (find_some h hx)
  have HH := Lib.hid h
  obtain ⟨d0, d1, d2, _⟩ := h.ocells ho
  obtain ⟨e0, e1, e2, _⟩ := h.ocells hx
  rw [hk] at d0
  rw [hk2] at e0
  have HO := Lib.hid ho
  have HX := Lib.hid hx
  have HL := Lib.hid hl
  have HE : Hid (decide (o.refs = p.refs) = true) := Lib.hid (decide_eq_true heq)
  have HQ := Lib.hid heq
  have HK := Lib.hid hk
  have HK2 := Lib.hid hk2
  have HB0 : Hid (Below w.heap.size w w) := Lib.hid (Below.refl _ _)
  have g1 : decide (k < 0) = true := by simpa using hkn
  clear h ho hx hk hk2 hl heq d1 e1 hkn
  have t1 : True := trivial
  go_enter Try.func15, Try.ntmps15
  go_wp2_with (first
    | (go_at_call 57; have _t := t1; refine HF.out.mono ?_; rintro e w1 ⟨rfl, rfl⟩; clear t1 _t)
    | (go_at_call 57; refine HV.out.mono ?_; rintro e w1 ⟨rfl, rfl⟩))
  go_region_held3 (fun w' => w'.cell? ⟨A.ob r, 2, none⟩ = some (.slice (A.sA r) o.refs.length (A.sC r)) ∧ w'.cell? ⟨A.ob x, 2, none⟩ = some (.slice (A.sA x) p.refs.length (A.sC x)) ∧ Hid (Below w.heap.size w w'))
    (((try go_split_ands); (repeat' apply And.intro) <;> first | exact keep3 hbq (by assumption) | assumption | exact Lib.hid (Below.trans (Hid.out (by assumption)) (Below.mono hbq (Below.size (Hid.out (by assumption))))) | exact Lib.hid (Below.drew (Hid.out (by assumption))) | go_keep))
    ((go_at_call 58; (try go_split_ands); refine (equal_bools (A.sC r) (A.sC x) ((HH.out.below (Hid.out (by assumption))).shp r o HO.out) ((HH.out.below (Hid.out (by assumption))).shp x p HX.out) HL.out (by rw [← HQ.out]; exact HL.out)).mono ?_; rintro e w2 ⟨rfl, hbq⟩; rw [HE.out]))
  have HB2 : Hid (Below w.heap.size w w2) := by (try go_split_ands); assumption
  (try go_split_ands)
  obtain ⟨_, _, _, _, _, _, _, d7, d8, d9, _⟩ := (HH.out.below HB2.out).ocells HO.out
  obtain ⟨_, _, _, _, _, _, _, e7, e8, e9, _⟩ := (HH.out.below HB2.out).ocells HX.out
  rw [show A.pF o = .pointer (some ⟨A.st o.row, 0, none⟩) from by unfold HA.pF; rw [if_pos HK.out]] at d7
  rw [show A.pF p = .pointer (some ⟨A.st p.row, 0, none⟩) from by unfold HA.pF; rw [if_pos HK2.out]] at e7
  go_wp2
  go_quiet (fail)
  all_goals go_wp2
  all_goals go_ret
  all_goals exact ChPost.err HH.out 11 _ _ ⟨rfl, HB2.out.dn _⟩
set_option maxHeartbeats 1000000 in
theorem copy_far (h : HpAt w hb A H S) {r x : Int} {o p : Ob} (ho : Mp.get H.objs r = some o) (hx : Mp.get H.objs x = some p) (hk : o.kind = 2) (hk2 : p.kind = 2) (hl : o.refs.length ≤ 100000000) (heq : o.refs = p.refs) (l1 : o.lo ≤ o.hi) (l2 : o.hi ≤ 100000) (m1 : p.lo ≤ p.hi) (m2 : p.hi ≤ 100000) (k : Int) (hkn : 0 ≤ k) (hf : (o.hi : Int) - o.lo - (p.hi - p.lo) < k) : Calls Try.prog 15 #[.pointer (some ⟨hb, 0, none⟩), .int .i64 r, .int .i64 k, .int .i64 x] w (ChPost w hb A S (H, 11)) := by
  have HF := Lib.hid (find_some h ho)
  have HV := Lib.hid (find_some h hx)
  have HH := Lib.hid h
  obtain ⟨d0, d1, d2, _⟩ := h.ocells ho
  obtain ⟨e0, e1, e2, _⟩ := h.ocells hx
  rw [hk] at d0
  rw [hk2] at e0
  have HO := Lib.hid ho
  have HX := Lib.hid hx
  have HL := Lib.hid hl
  have HE : Hid (decide (o.refs = p.refs) = true) := Lib.hid (decide_eq_true heq)
  have HQ := Lib.hid heq
  have HK := Lib.hid hk
  have HK2 := Lib.hid hk2
  have HB0 : Hid (Below w.heap.size w w) := Lib.hid (Below.refl _ _)
  have g1 : decide (k < 0) = false := by simpa using hkn
  obtain ⟨D, hD⟩ : ∃ D : Nat, D = o.hi - o.lo := ⟨_, rfl⟩
  obtain ⟨M, hM⟩ : ∃ M : Nat, M = p.hi - p.lo := ⟨_, rfl⟩
  obtain ⟨V, hV⟩ : ∃ V : Int, V = (D : Int) - (M : Int) := ⟨_, rfl⟩
  have s1 : IntKind.i64.wrap ((o.hi : Int) - (o.lo : Int)) = (D : Int) := by rw [IntWalk.i64_in _ (by omega)]; omega
  have s2 : IntKind.i64.wrap ((p.hi : Int) - (p.lo : Int)) = (M : Int) := by rw [IntWalk.i64_in _ (by omega)]; omega
  have s3 : IntKind.i64.wrap ((D : Int) - (M : Int)) = V := by rw [IntWalk.i64_in _ (by omega)]; omega
  have g2 : decide (V < k) = true := by simp; omega
  clear h ho hx hk hk2 hl heq d1 e1 hkn hf l1 l2 m1 m2 hD hM hV
  have t1 : True := trivial
  go_enter Try.func15, Try.ntmps15
  go_wp2_with (first
    | (go_at_call 57; have _t := t1; refine HF.out.mono ?_; rintro e w1 ⟨rfl, rfl⟩; clear t1 _t)
    | (go_at_call 57; refine HV.out.mono ?_; rintro e w1 ⟨rfl, rfl⟩))
  go_region_held3 (fun w' => w'.cell? ⟨A.ob r, 2, none⟩ = some (.slice (A.sA r) o.refs.length (A.sC r)) ∧ w'.cell? ⟨A.ob x, 2, none⟩ = some (.slice (A.sA x) p.refs.length (A.sC x)) ∧ Hid (Below w.heap.size w w'))
    (((try go_split_ands); (repeat' apply And.intro) <;> first | exact keep3 hbq (by assumption) | assumption | exact Lib.hid (Below.trans (Hid.out (by assumption)) (Below.mono hbq (Below.size (Hid.out (by assumption))))) | exact Lib.hid (Below.drew (Hid.out (by assumption))) | go_keep))
    ((go_at_call 58; (try go_split_ands); refine (equal_bools (A.sC r) (A.sC x) ((HH.out.below (Hid.out (by assumption))).shp r o HO.out) ((HH.out.below (Hid.out (by assumption))).shp x p HX.out) HL.out (by rw [← HQ.out]; exact HL.out)).mono ?_; rintro e w2 ⟨rfl, hbq⟩; rw [HE.out]))
  have HB2 : Hid (Below w.heap.size w w2) := by (try go_split_ands); assumption
  (try go_split_ands)
  obtain ⟨_, _, _, _, _, _, _, d7, d8, d9, _⟩ := (HH.out.below HB2.out).ocells HO.out
  obtain ⟨_, _, _, _, _, _, _, e7, e8, e9, _⟩ := (HH.out.below HB2.out).ocells HX.out
  rw [show A.pF o = .pointer (some ⟨A.st o.row, 0, none⟩) from by unfold HA.pF; rw [if_pos HK.out]] at d7
  rw [show A.pF p = .pointer (some ⟨A.st p.row, 0, none⟩) from by unfold HA.pF; rw [if_pos HK2.out]] at e7
  go_wp2
  go_quiet (fail)
  all_goals go_wp2
  all_goals go_ret
  all_goals exact ChPost.err HH.out 11 _ _ ⟨rfl, HB2.out.dn _⟩
end Go.Proofs.Ytodfpclekihbhaa

