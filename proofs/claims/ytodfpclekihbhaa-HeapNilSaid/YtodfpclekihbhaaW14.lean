/- replace: a word is replaced by one that fits. -/
import Derived.Test.YtodfpclekihbhaaW13
import Derived.Test.YtodfpclekihbhaaL6
namespace Go.Proofs.Ytodfpclekihbhaa
open Go.RowKit Go.Shelf

variable {w : World} {hb : Nat} {A : HA} {H : Hp} {S : Nat → Prop}
theorem mcell {T : Nat → Prop} {w w' : World} {b i : Nat} {v : Value} (hm : Mut T w w') (h : w.cell? ⟨b, i, none⟩ = some v) (hn : ¬ T b) : w'.cell? ⟨b, i, none⟩ = some v := (hm.cell (lt_of_cell h) hn).trans h
theorem HpAt.keeps (h : HpAt w hb A H S) {T : Nat → Prop} {w0 : World} (hm : Mut T w0 w) (hT : ∀ k, T k → S k) (hlt : ∀ k, S k → k < w0.heap.size) : Mut S w0 w := hm.mono fun k hk => .inl (hT k hk)
theorem refer_calls (h : HpAt w hb A H S) (hi : Inv H []) (hmu : muH H ≤ 100000000) {r : Int} (hr : r = 0 ∨ Mp.get H.objs r ≠ none) : Calls Try.prog 61 #[.pointer (some ⟨hb, 0, none⟩), .int .i64 r] w fun e w' => e = .returned (.tuple #[]) ∧ HpAt w' hb A (referH H r) S ∧ Mut S w w' := by
  unfold referH
  by_cases h0 : r = 0
  · subst h0
    rw [if_pos rfl]
    exact (refer_zero h).mono fun e w' ⟨h1, h2⟩ => ⟨h1, h2 ▸ h, h2 ▸ Mut.refl _ _⟩
  · rw [if_neg h0]
    cases ho : Mp.get H.objs r with
    | none => exact absurd ho (hr.resolve_left h0)
    | some o =>
      have h1 := hi.cnt r o ho
      have h2 := inH_le H r
      have e0 : muH H = wsum H.rows + 2 * H.objs.length := rfl
      rw [List.count_nil] at h1
      exact (refer_some h h0 ho (by omega) (by omega)).mono fun e w' ⟨h3, h4, h5⟩ => ⟨h3, h4, h5.mono fun k hk => .inl (by rw [hk]; exact h.So r o ho)⟩
theorem see_S (h : HpAt w hb A H S) (r : Int) : Calls Try.prog 62 #[.pointer (some ⟨hb, 0, none⟩), .int .i64 r] w fun e w' => e = .returned (.tuple #[]) ∧ HpAt w' hb A (seeH H r) S ∧ Mut S w w' :=
  (see_calls h r).mono fun _ _ ⟨h1, h2, h3⟩ => ⟨h1, h2, h3.mono fun k hk => .inl (h.Ss k hk)⟩
theorem set_modify (l : List Wd) (i : Nat) (n r : Int) : (l.modify i fun x => { x with num := n }).modify i (fun x => { x with ref := r }) = l.set i ⟨n, r⟩ := by
  apply List.ext_getElem?
  intro j
  rw [List.getElem?_modify, List.getElem?_modify, List.getElem?_set]
  by_cases e : i = j
  · subst e
    rw [if_pos rfl]
    cases h : l[i]? with
    | none => rw [if_neg (by have := List.getElem?_eq_none_iff.1 h; omega)]; rfl
    | some x => rw [if_pos (by have := (List.getElem?_eq_some_iff.1 h).1; omega)]; simp
  · simp [e]
theorem get_updR {H : Hp} {k : Int} {y : Rw} (hy : Mp.get H.rows k = some y) (f : Rw → Rw) : Mp.get (H.updR k f).rows k = some (f y) := by
  unfold Hp.updR
  simp only
  rw [get_mapAt, if_pos rfl, hy]; rfl
theorem rows_setW (H : Hp) (k : Int) (i : Nat) (v : Wd) {y : Rw} (hy : Mp.get H.rows k = some y) : Mp.get (setW H k i v).rows k = some { y with words := y.words.set i v } := by
  exact get_updR hy _
theorem HpAt.setWord (h : HpAt w hb A H S) {k : Int} {y : Rw} (hy : Mp.get H.rows k = some y) {g : Nat} (hA : A.wA k = some ⟨g, 0, none⟩) (i : Nat) (n r : Int) :
    HpAt ((w.setCell ⟨g, i * 2, none⟩ (.int .i64 n)).setCell ⟨g, i * 2 + 1, none⟩ (.int .i64 r)) hb A (setW H k i ⟨n, r⟩) S := by
  have h1 := h.setWd k y hy g (i * 2) hA (.int .i64 n) (y.words.modify i fun x => { x with num := n }) (by simp) (wcs_set0 _ _ _) (fun x => { x with words := x.words.modify i fun x => { x with num := n } }) rfl
  have hy1 : Mp.get (H.updR k (fun x => { x with words := x.words.modify i fun x => { x with num := n } })).rows k = some { y with words := y.words.modify i fun x => { x with num := n } } := get_updR hy _
  have h2 := h1.setWd k _ hy1 g (i * 2 + 1) hA (.int .i64 r) ((y.words.modify i fun x => { x with num := n }).modify i fun x => { x with ref := r }) (by simp) (wcs_set1 _ _ _) (fun x => { x with words := x.words.modify i fun x => { x with ref := r } }) rfl
  have e : (H.updR k (fun x => { x with words := x.words.modify i fun x => { x with num := n } })).updR k (fun x => { x with words := x.words.modify i fun x => { x with ref := r } }) = setW H k i ⟨n, r⟩ := by
    unfold setW Hp.updR
    simp only [mapAt_mapAt]
    congr 2
    funext x
    simp only [Function.comp, set_modify]
  rw [e] at h2
  exact h2
theorem referH_rows (H : Hp) (r : Int) : (referH H r).rows = H.rows := by unfold referH; split <;> rfl
theorem referH_last (H : Hp) (r : Int) : (referH H r).last = H.last := by unfold referH; split <;> rfl
theorem mu_refer (H : Hp) (r : Int) : muH (referH H r) = muH H := by
  unfold referH
  split
  · rfl
  · exact mu_upd H r _
theorem mu_setW (H : Hp) (k : Int) (i : Nat) (v : Wd) : muH (setW H k i v) = muH H := by
  unfold muH setW Hp.updR
  rw [wsum_mapAt _ _ _ (fun x => by simp)]
theorem HoldsLe.see {H : Hp} {n : Int} (h : HoldsLe H n) (r : Int) : HoldsLe (seeH H r) n := by unfold HoldsLe; rw [seeH_objs]; exact h
theorem HoldsLe.upd {H : Hp} {n : Int} (h : HoldsLe H n) (r : Int) (f : Ob → Ob) (hf : ∀ o, (f o).holds = o.holds) : HoldsLe (H.upd r f) n := fun x y hy => by
  rw [get_upd] at hy
  by_cases e : x = r
  · rw [if_pos e] at hy
    cases hz : Mp.get H.objs x with
    | none => rw [hz] at hy; cases hy
    | some z =>
      rw [hz] at hy
      injection hy with hy
      rw [← hy, hf]
      exact h x z hz
  · rw [if_neg e] at hy; exact h x y hy
theorem HoldsLe.refer {H : Hp} {n : Int} (h : HoldsLe H n) (r : Int) : HoldsLe (referH H r) n := by
  unfold referH
  split
  · exact h
  · exact h.upd r _ fun _ => rfl
theorem refAt_rows {H G : Hp} (h : G.rows = H.rows) (k : Int) (i : Nat) : refAt G k i = refAt H k i := by unfold refAt Hp.rowOf; rw [h]
theorem Lst.one {w : World} {S : Nat → Prop} (r : Int) {p : Nat} (hp : p = w.heap.size) (h : ∀ k, S k → k < w.heap.size) : Lst (w.alloc (.cells #[.int .i64 r] 26)) S (some ⟨p, 0, none⟩) 1 [r] := by
  subst hp
  exact ⟨⟨rfl, .inr ⟨w.heap.size, 1, #[.int .i64 r], rfl, Nat.zero_le _, heap_alloc_new w _, Nat.le_refl _, by unfold maxLen; omega, rfl, rfl⟩⟩, fun a ha hS => by injection ha with ha; subst ha; exact Nat.lt_irrefl _ (h _ hS)⟩
set_option maxHeartbeats 2000000 in
theorem replace_calls (h : HpAt w hb A H S) (hi : Inv H []) (hmu : muH H ≤ 90000000) (hbd : HoldsLe H 1000000000) {k : Int} {y : Rw} (hy : Mp.get H.rows k = some y) {g : Nat} (hA : A.wA k = some ⟨g, 0, none⟩) (i : Nat) (hil : i < y.words.length) (num ref : Int) (hr : ref = 0 ∨ Mp.get H.objs ref ≠ none) :
    Calls Try.prog 66 #[.pointer (some ⟨hb, 0, none⟩), .pointer (some ⟨g, i * 2, none⟩), .agg #[.int .i64 num, .int .i64 ref]] w fun e w' => e = .returned (.tuple #[]) ∧ HpAt w' hb A (replaceH H k i ⟨num, ref⟩) S ∧ Mut S w w' := by
  have HH := Lib.hid h
  have HSL := Lib.hid h.Slt
  have hB1 : Below w.heap.size w (w.alloc (.cells #[.int .i64 num, .int .i64 ref] 42)) := (Below.refl _ _).alloc (Nat.le_refl _) _
  have HREF := Lib.hid (refer_calls (h.below hB1) hi (by omega) hr)
  have HB1 := Lib.hid hB1
  have HNS : Hid (¬ S w.heap.size) := Lib.hid fun hk => Nat.lt_irrefl _ (h.Slt _ hk)
  have HK0 := Lib.hid (heap_alloc_new w (.cells #[.int .i64 num, .int .i64 ref] 42))
  obtain ⟨g', hg1, hg2, _, hgf, hw0, hw1⟩ := (h.row k y hy).cell i hil
  rw [hA] at hg1
  injection hg1 with hg1
  injection hg1 with hg1
  subst hg1
  have HOLD : Hid (refAt H k i = (y.words[i]'hil).ref) := Lib.hid (refAt_eq hy i hil)
  have HY := Lib.hid hy
  have HAA := Lib.hid hA
  have HIL := Lib.hid hil
  have HI := Lib.hid (((hi.referH hr).see ref).see (refAt H k i))
  have HMU := Lib.hid hmu
  have HBD := Lib.hid hbd
  rw [← HOLD.out] at hw1
  generalize hnu : (y.words[i]'hil).num = nu at hw0
  generalize hol : refAt H k i = old at *
  have HOL := Lib.hid hol
  have HINV : Hid (Inv (setW (seeH (seeH (referH H ref) ref) old) k i ⟨num, ref⟩) [old]) := Lib.hid (by
    have hy4 : Mp.get (seeH (seeH (referH H ref) ref) old).rows k = some y := by rw [seeH_rows, seeH_rows, referH_rows]; exact hy
    have := Inv.setW (w := ⟨num, ref⟩) HI.out hy4 hil
    rw [refAt_rows (H := H) (by rw [seeH_rows, seeH_rows, referH_rows]), hol] at this
    exact this)
  have HHB : Hid (HoldsLe (setW (seeH (seeH (referH H ref) ref) old) k i ⟨num, ref⟩) 1000000000) := Lib.hid (((hbd.refer ref).see ref).see old)
  have HGS : Hid (S g) := Lib.hid (h.Sw k y _ hy hA)
  have HRE : Hid (replaceH H k i ⟨num, ref⟩ = relH (setW (seeH (seeH (referH H ref) ref) old) k i ⟨num, ref⟩) [old]) := Lib.hid (by unfold replaceH; simp only [hol])
  clear HOLD h hi hmu hbd hy hA hil hr hB1 hnu hol
  have t1 : True := trivial
  go_enter Try.func66, Try.ntmps66
  go_wp2_with (first
    | (go_at_call 61; refine HREF.out.mono ?_; rintro e w2 ⟨rfl, h2, m2⟩
       have H2 := Lib.hid h2
       have M2 := Lib.hid m2
       have b1 := mcell m2 (cell_of_heap (v := .int .i64 ref) HK0.out (j := 1) rfl) HNS.out
       clear h2 m2)
    | (go_at_call 62; have _t := t1; refine (see_S H2.out ref).mono ?_; rintro e w3 ⟨rfl, h3, m3⟩
       have H3 := Lib.hid h3
       have M3 := Lib.hid (M2.out.then m3)
       clear h3 m3 t1)
    | (go_at_call 62; refine (see_S H3.out old).mono ?_; rintro e w4 ⟨rfl, h4, m4⟩
       have M4 := Lib.hid (M3.out.then m4)
       have H4 := Lib.hid h4
       have f0 := mcell M4.out (cell_of_heap (v := .int .i64 num) HK0.out (j := 0) rfl) HNS.out
       have f1 := mcell M4.out (cell_of_heap (v := .int .i64 ref) HK0.out (j := 1) rfl) HNS.out
       have HY4 : Hid (Mp.get (seeH (seeH (referH H ref) ref) old).rows k = some y) := Lib.hid (by rw [seeH_rows, seeH_rows, referH_rows]; exact HY.out)
       obtain ⟨g', hg1, hg5, _, hgf4, hw04, hw14⟩ := (h4.row k y HY4.out).cell i HIL.out
       rw [HAA.out] at hg1
       injection hg1 with hg1
       injection hg1 with hg1
       subst hg1
       have hz4 : w.heap.size < w4.heap.size := by have := M4.out.size; simp at this; omega
       clear h4 m4)
    | (go_at_call 63; go_loud (refine (release_calls (l := [old]) (H := setW (seeH (seeH (referH H ref) ref) old) k i ⟨num, ref⟩) (A := A) (S := S) ?c1 ?c2 ?c3 ?c4 ?c5).mono ?_)
       case c1 => exact (H4.out.setWord HY4.out HAA.out i num ref).below ((Below.refl _ _).alloc (Nat.le_refl _) _)
       case c2 => exact HINV.out
       case c3 => rw [mu_setW, mu_see, mu_see, mu_refer]; have := HMU.out; simp; omega
       case c4 => exact HHB.out
       case c5 => exact Lst.one old (by simp) fun k hk => by have := HSL.out k hk; have := M4.out.size; simp at this ⊢; omega
       rintro e w7 ⟨rfl, h7, m7⟩
       have H7 := Lib.hid h7
       have M7 : Hid (Mut S w4 w7) := Lib.hid ((((Mut.setCell (S := S) w4 g (i * 2) (.int .i64 num) (HGS.out)).then (Mut.setCell (S := S) _ g (i * 2 + 1) (.int .i64 ref) HGS.out)).then (Mut.of_below ((Below.refl _ _).alloc (Nat.le_refl _) _))).trans m7 fun k hk => by
         rcases hk with hk | ⟨a, ha, rfl⟩
         · exact .inl hk
         · injection ha with ha; subst ha; exact .inr (by simp))
       clear h7 m7))
  go_end0
  refine ⟨rfl, ?_, ((Mut.of_below HB1.out).then M4.out).then M7.out⟩
  rw [HRE.out]
  exact H7.out
end Go.Proofs.Ytodfpclekihbhaa
