/- Set and Put. -/
import Derived.Test.YtodfpclekihbhaaW14
namespace Go.Proofs.Ytodfpclekihbhaa
open Go.RowKit Go.Shelf

variable {w : World} {hb : Nat} {A : HA} {H : Hp} {S : Nat → Prop}
theorem set_err (p : Option Addr) (r i num ref n : Int) (hn : n ≠ 0) (hw : ∀ W, Below w.heap.size w W → Calls Try.prog 73 #[.pointer p, .int .i64 r, .int .i64 i, .bool false] W (WdErr W n)) :
    Calls Try.prog 32 #[.pointer p, .int .i64 r, .int .i64 i, .agg #[.int .i64 num, .int .i64 ref]] w fun e w' => e = .returned (.int .i64 n) ∧ Below w.heap.size w w' := by
  have hB : Below w.heap.size w (w.alloc (.cells #[.int .i64 num, .int .i64 ref] 42)) := (Below.refl _ _).alloc (Nat.le_refl _) _
  have HB := Lib.hid hB
  have HW := Lib.hid (hw _ hB)
  have k1 : (n == 0) = false := by simpa using hn
  clear hB hw hn
  go_enter Try.func32, Try.ntmps32
  go_wp2_with (go_at_call 73; refine HW.out.mono ?_; rintro e w1 ⟨rfl, hb1⟩; have HB1 := Lib.hid (HB.out.trans (hb1.mono HB.out.size)); clear hb1)
  go_ret
  exact ⟨rfl, HB1.out⟩
set_option maxHeartbeats 2000000 in
theorem set_ok (h : HpAt w hb A H S) (hi : Inv H []) (hmu : muH H ≤ 90000000) (hbd : HoldsLe H 1000000000) {r : Int} {i : Nat} {o : Ob} (ho : Mp.get H.objs r = some o) (hir : i < o.refs.length) (num ref : Int) {k : Int} {y : Rw} (hy : Mp.get H.rows k = some y) {g : Nat} (hA : A.wA k = some ⟨g, 0, none⟩) (j : Nat) (hj : j < y.words.length)
    (hw : ∀ W, Below w.heap.size w W → Calls Try.prog 73 #[.pointer (some ⟨hb, 0, none⟩), .int .i64 r, .int .i64 (i : Int), .bool false] W fun e w' => e = .returned (.tuple #[.pointer (some ⟨A.ob r, 0, none⟩), .pointer (some ⟨g, j * 2, none⟩), .int .i64 0]) ∧ Below W.heap.size W w') :
    Calls Try.prog 32 #[.pointer (some ⟨hb, 0, none⟩), .int .i64 r, .int .i64 (i : Int), .agg #[.int .i64 num, .int .i64 ref]] w fun e w' => e = .returned (.int .i64 (storeH H r i ⟨num, ref⟩ (some (k, j), 0)).2) ∧ HpAt w' hb A (storeH H r i ⟨num, ref⟩ (some (k, j), 0)).1 S ∧ Mut S w w' := by
  have hB : Below w.heap.size w (w.alloc (.cells #[.int .i64 num, .int .i64 ref] 42)) := (Below.refl _ _).alloc (Nat.le_refl _) _
  have HB := Lib.hid hB
  have HW := Lib.hid (hw _ hB)
  have HK0 := Lib.hid (heap_alloc_new w (.cells #[.int .i64 num, .int .i64 ref] 42))
  have hisr : isRef H r (i : Int) = o.refs[i]'hir := by simp [isRef, ho, hir]
  have HH := Lib.hid h
  have HO := Lib.hid ho
  have HIR := Lib.hid hir
  generalize hf : fitsH H (o.refs[i]'hir) ⟨num, ref⟩ = f at *
  by_cases hz : f = 0
  · subst hz
    have HE : Hid (storeH H r i ⟨num, ref⟩ (some (k, j), 0) = (replaceH H k j ⟨num, ref⟩, 0)) := Lib.hid (by unfold storeH; simp only [hisr, hf]; rfl)
    have hre : ref = 0 ∨ Mp.get H.objs ref ≠ none := by
      unfold fitsH at hf
      by_cases h0 : ref = 0
      · exact .inl h0
      · refine .inr fun hn => ?_
        split at hf
        · cases hf
        · rw [if_pos ⟨h0, hn⟩] at hf; cases hf
    have HR := Lib.hid fun (W : World) (hW : Below w.heap.size w W) => replace_calls (h.below hW) hi hmu hbd hy hA j hj num ref hre
    have HF := Lib.hid hf
    clear h hi hmu hbd ho hy hA hj hw hf hre hisr hB
    go_enter Try.func32, Try.ntmps32
    go_wp2_with (go_at_call 73; refine HW.out.mono ?_; rintro e w1 ⟨rfl, hb1⟩
                 have HB1 := Lib.hid (HB.out.trans (hb1.mono HB.out.size))
                 have b0 := keep3 hb1 (cell_of_heap (v := .int .i64 num) HK0.out (j := 0) rfl)
                 have b1 := keep3 hb1 (cell_of_heap (v := .int .i64 ref) HK0.out (j := 1) rfl)
                 obtain ⟨d0, d1, d2, _⟩ := (HH.out.below HB1.out).ocells HO.out
                 clear hb1 d0)
    go_region_held3 (fun w' => w'.cell? ⟨A.ob r, 1, none⟩ = some (.int .i64 o.cls) ∧ w'.cell? ⟨A.ob r, 2, none⟩ = some (.slice (A.sA r) o.refs.length (A.sC r)) ∧ w'.cell? ⟨w.heap.size, 0, none⟩ = some (.int .i64 num) ∧ w'.cell? ⟨w.heap.size, 1, none⟩ = some (.int .i64 ref) ∧ Hid (Below w.heap.size w w'))
      (((try go_split_ands); (repeat' apply And.intro) <;> first | exact keep3 hb (by assumption) | assumption | exact Lib.hid (Below.trans (Hid.out (by assumption)) (Below.mono hb (Below.size (Hid.out (by assumption))))) | exact Lib.hid (Below.drew (Hid.out (by assumption))) | go_keep))
      ((go_at_call 65; (try go_split_ands); refine (fits_calls (HH.out.below (Hid.out (by assumption))) o.cls (A.sC r) ((HH.out.below (Hid.out (by assumption))).shp r o HO.out) i HIR.out num ref).mono ?_; rintro e w2 ⟨rfl, hb⟩; rw [HF.out]))
    have HB2 : Hid (Below w.heap.size w w2) := by (try go_split_ands); assumption
    (try go_split_ands)
    go_wp2_with (go_at_call 66; refine (HR.out _ HB2.out).mono ?_; rintro e w3 ⟨rfl, h3, m3⟩; have H3 := Lib.hid h3; have M3 := Lib.hid m3; clear h3 m3)
    go_ret
    exact ⟨by rw [HE.out]; rfl, by rw [HE.out]; exact H3.out, (Mut.of_below HB2.out).then M3.out⟩
  · have HE : Hid (storeH H r i ⟨num, ref⟩ (some (k, j), 0) = (H, f)) := Lib.hid (by unfold storeH; simp only [hisr, hf]; rw [if_pos hz])
    have HF := Lib.hid hf
    have k1 : (f == 0) = false := by simpa using hz
    clear h hi hmu hbd ho hy hA hj hw hf hisr hB hz
    go_enter Try.func32, Try.ntmps32
    go_wp2_with (go_at_call 73; refine HW.out.mono ?_; rintro e w1 ⟨rfl, hb1⟩
                 have HB1 := Lib.hid (HB.out.trans (hb1.mono HB.out.size))
                 have b0 := keep3 hb1 (cell_of_heap (v := .int .i64 num) HK0.out (j := 0) rfl)
                 have b1 := keep3 hb1 (cell_of_heap (v := .int .i64 ref) HK0.out (j := 1) rfl)
                 obtain ⟨d0, d1, d2, _⟩ := (HH.out.below HB1.out).ocells HO.out
                 clear hb1 d0)
    go_region_held3 (fun w' => w'.cell? ⟨A.ob r, 1, none⟩ = some (.int .i64 o.cls) ∧ w'.cell? ⟨A.ob r, 2, none⟩ = some (.slice (A.sA r) o.refs.length (A.sC r)) ∧ w'.cell? ⟨w.heap.size, 0, none⟩ = some (.int .i64 num) ∧ w'.cell? ⟨w.heap.size, 1, none⟩ = some (.int .i64 ref) ∧ Hid (Below w.heap.size w w'))
      (((try go_split_ands); (repeat' apply And.intro) <;> first | exact keep3 hb (by assumption) | assumption | exact Lib.hid (Below.trans (Hid.out (by assumption)) (Below.mono hb (Below.size (Hid.out (by assumption))))) | exact Lib.hid (Below.drew (Hid.out (by assumption))) | go_keep))
      ((go_at_call 65; (try go_split_ands); refine (fits_calls (HH.out.below (Hid.out (by assumption))) o.cls (A.sC r) ((HH.out.below (Hid.out (by assumption))).shp r o HO.out) i HIR.out num ref).mono ?_; rintro e w2 ⟨rfl, hb⟩; rw [HF.out]))
    have HB2 : Hid (Below w.heap.size w w2) := by (try go_split_ands); assumption
    (try go_split_ands)
    go_wp2
    go_ret
    exact ⟨by rw [HE.out]; rfl, by rw [HE.out]; exact HH.out.below HB2.out, Mut.of_below HB2.out⟩
theorem put_err (p : Option Addr) (r el i num ref n : Int) (hn : n ≠ 0) (hw : ∀ W, Below w.heap.size w W → Calls Try.prog 64 #[.pointer p, .int .i64 r, .int .i64 el, .int .i64 i] W (WdErr W n)) :
    Calls Try.prog 16 #[.pointer p, .int .i64 r, .int .i64 el, .int .i64 i, .agg #[.int .i64 num, .int .i64 ref]] w fun e w' => e = .returned (.int .i64 n) ∧ Below w.heap.size w w' := by
  have hB : Below w.heap.size w (w.alloc (.cells #[.int .i64 num, .int .i64 ref] 42)) := (Below.refl _ _).alloc (Nat.le_refl _) _
  have HB := Lib.hid hB
  have HW := Lib.hid (hw _ hB)
  have k1 : (n == 0) = false := by simpa using hn
  clear hB hw hn
  go_enter Try.func16, Try.ntmps16
  go_wp2_with (go_at_call 64; refine HW.out.mono ?_; rintro e w1 ⟨rfl, hb1⟩; have HB1 := Lib.hid (HB.out.trans (hb1.mono HB.out.size)); clear hb1)
  go_ret
  exact ⟨rfl, HB1.out⟩
set_option maxHeartbeats 2000000 in
theorem put_ok (h : HpAt w hb A H S) (hi : Inv H []) (hmu : muH H ≤ 90000000) (hbd : HoldsLe H 1000000000) {r : Int} (el : Int) {i : Nat} {o : Ob} (ho : Mp.get H.objs r = some o) (hir : i < o.refs.length) (num ref : Int) {k : Int} {y : Rw} (hy : Mp.get H.rows k = some y) {g : Nat} (hA : A.wA k = some ⟨g, 0, none⟩) (j : Nat) (hj : j < y.words.length)
    (hw : ∀ W, Below w.heap.size w W → Calls Try.prog 64 #[.pointer (some ⟨hb, 0, none⟩), .int .i64 r, .int .i64 el, .int .i64 (i : Int)] W fun e w' => e = .returned (.tuple #[.pointer (some ⟨A.ob r, 0, none⟩), .pointer (some ⟨g, j * 2, none⟩), .int .i64 0]) ∧ Below W.heap.size W w') :
    Calls Try.prog 16 #[.pointer (some ⟨hb, 0, none⟩), .int .i64 r, .int .i64 el, .int .i64 (i : Int), .agg #[.int .i64 num, .int .i64 ref]] w fun e w' => e = .returned (.int .i64 (storeH H r i ⟨num, ref⟩ (some (k, j), 0)).2) ∧ HpAt w' hb A (storeH H r i ⟨num, ref⟩ (some (k, j), 0)).1 S ∧ Mut S w w' := by
  have hB : Below w.heap.size w (w.alloc (.cells #[.int .i64 num, .int .i64 ref] 42)) := (Below.refl _ _).alloc (Nat.le_refl _) _
  have HB := Lib.hid hB
  have HW := Lib.hid (hw _ hB)
  have HK0 := Lib.hid (heap_alloc_new w (.cells #[.int .i64 num, .int .i64 ref] 42))
  have hisr : isRef H r (i : Int) = o.refs[i]'hir := by simp [isRef, ho, hir]
  have HH := Lib.hid h
  have HO := Lib.hid ho
  have HIR := Lib.hid hir
  generalize hf : fitsH H (o.refs[i]'hir) ⟨num, ref⟩ = f at *
  by_cases hz : f = 0
  · subst hz
    have HE : Hid (storeH H r i ⟨num, ref⟩ (some (k, j), 0) = (replaceH H k j ⟨num, ref⟩, 0)) := Lib.hid (by unfold storeH; simp only [hisr, hf]; rfl)
    have hre : ref = 0 ∨ Mp.get H.objs ref ≠ none := by
      unfold fitsH at hf
      by_cases h0 : ref = 0
      · exact .inl h0
      · refine .inr fun hn => ?_
        split at hf
        · cases hf
        · rw [if_pos ⟨h0, hn⟩] at hf; cases hf
    have HR := Lib.hid fun (W : World) (hW : Below w.heap.size w W) => replace_calls (h.below hW) hi hmu hbd hy hA j hj num ref hre
    have HF := Lib.hid hf
    clear h hi hmu hbd ho hy hA hj hw hf hre hisr hB
    go_enter Try.func16, Try.ntmps16
    go_wp2_with (go_at_call 64; refine HW.out.mono ?_; rintro e w1 ⟨rfl, hb1⟩
                 have HB1 := Lib.hid (HB.out.trans (hb1.mono HB.out.size))
                 have b0 := keep3 hb1 (cell_of_heap (v := .int .i64 num) HK0.out (j := 0) rfl)
                 have b1 := keep3 hb1 (cell_of_heap (v := .int .i64 ref) HK0.out (j := 1) rfl)
                 obtain ⟨d0, d1, d2, _⟩ := (HH.out.below HB1.out).ocells HO.out
                 clear hb1 d0)
    go_region_held3 (fun w' => w'.cell? ⟨A.ob r, 1, none⟩ = some (.int .i64 o.cls) ∧ w'.cell? ⟨A.ob r, 2, none⟩ = some (.slice (A.sA r) o.refs.length (A.sC r)) ∧ w'.cell? ⟨w.heap.size, 0, none⟩ = some (.int .i64 num) ∧ w'.cell? ⟨w.heap.size, 1, none⟩ = some (.int .i64 ref) ∧ Hid (Below w.heap.size w w'))
      (((try go_split_ands); (repeat' apply And.intro) <;> first | exact keep3 hb (by assumption) | assumption | exact Lib.hid (Below.trans (Hid.out (by assumption)) (Below.mono hb (Below.size (Hid.out (by assumption))))) | exact Lib.hid (Below.drew (Hid.out (by assumption))) | go_keep))
      ((go_at_call 65; (try go_split_ands); refine (fits_calls (HH.out.below (Hid.out (by assumption))) o.cls (A.sC r) ((HH.out.below (Hid.out (by assumption))).shp r o HO.out) i HIR.out num ref).mono ?_; rintro e w2 ⟨rfl, hb⟩; rw [HF.out]))
    have HB2 : Hid (Below w.heap.size w w2) := by (try go_split_ands); assumption
    (try go_split_ands)
    go_wp2_with (go_at_call 66; refine (HR.out _ HB2.out).mono ?_; rintro e w3 ⟨rfl, h3, m3⟩; have H3 := Lib.hid h3; have M3 := Lib.hid m3; clear h3 m3)
    go_ret
    exact ⟨by rw [HE.out]; rfl, by rw [HE.out]; exact H3.out, (Mut.of_below HB2.out).then M3.out⟩
  · have HE : Hid (storeH H r i ⟨num, ref⟩ (some (k, j), 0) = (H, f)) := Lib.hid (by unfold storeH; simp only [hisr, hf]; rw [if_pos hz])
    have HF := Lib.hid hf
    have k1 : (f == 0) = false := by simpa using hz
    clear h hi hmu hbd ho hy hA hj hw hf hisr hB hz
    go_enter Try.func16, Try.ntmps16
    go_wp2_with (go_at_call 64; refine HW.out.mono ?_; rintro e w1 ⟨rfl, hb1⟩
                 have HB1 := Lib.hid (HB.out.trans (hb1.mono HB.out.size))
                 have b0 := keep3 hb1 (cell_of_heap (v := .int .i64 num) HK0.out (j := 0) rfl)
                 have b1 := keep3 hb1 (cell_of_heap (v := .int .i64 ref) HK0.out (j := 1) rfl)
                 obtain ⟨d0, d1, d2, _⟩ := (HH.out.below HB1.out).ocells HO.out
                 clear hb1 d0)
    go_region_held3 (fun w' => w'.cell? ⟨A.ob r, 1, none⟩ = some (.int .i64 o.cls) ∧ w'.cell? ⟨A.ob r, 2, none⟩ = some (.slice (A.sA r) o.refs.length (A.sC r)) ∧ w'.cell? ⟨w.heap.size, 0, none⟩ = some (.int .i64 num) ∧ w'.cell? ⟨w.heap.size, 1, none⟩ = some (.int .i64 ref) ∧ Hid (Below w.heap.size w w'))
      (((try go_split_ands); (repeat' apply And.intro) <;> first | exact keep3 hb (by assumption) | assumption | exact Lib.hid (Below.trans (Hid.out (by assumption)) (Below.mono hb (Below.size (Hid.out (by assumption))))) | exact Lib.hid (Below.drew (Hid.out (by assumption))) | go_keep))
      ((go_at_call 65; (try go_split_ands); refine (fits_calls (HH.out.below (Hid.out (by assumption))) o.cls (A.sC r) ((HH.out.below (Hid.out (by assumption))).shp r o HO.out) i HIR.out num ref).mono ?_; rintro e w2 ⟨rfl, hb⟩; rw [HF.out]))
    have HB2 : Hid (Below w.heap.size w w2) := by (try go_split_ands); assumption
    (try go_split_ands)
    go_wp2
    go_ret
    exact ⟨by rw [HE.out]; rfl, by rw [HE.out]; exact HH.out.below HB2.out, Mut.of_below HB2.out⟩
end Go.Proofs.Ytodfpclekihbhaa
