/- slices.Equal, Index, Contains, IsSorted. -/
import Derived.Test.YtodfpclekihbhaaW21
namespace Go.Proofs.Ytodfpclekihbhaa
open Go.RowKit Go.Shelf

/-- A slice of references that can be read. -/
def RdI (w : World) (A : Option Addr) (l : List Int) : Prop := ∀ j (h : j < l.length), ∃ g o, A = some ⟨g, o, none⟩ ∧ g < w.heap.size ∧ w.cell? ⟨g, o + j, none⟩ = some (.int .i64 (l[j]'h))
theorem RdI.mut {T : Nat → Prop} {w w' : World} {A : Option Addr} {l : List Int} (h : RdI w A l) (hm : Mut T w w') (hn : ∀ a, A = some a → ¬ T a.block) : RdI w' A l := fun j hj => by
  obtain ⟨g, o, h1, h2, h3⟩ := h j hj
  exact ⟨g, o, h1, Nat.lt_of_lt_of_le h2 hm.size, (hm.cell h2 (hn _ h1)).trans h3⟩
theorem RdI.below {w w' : World} {A : Option Addr} {l : List Int} (h : RdI w A l) (hb : Below w.heap.size w w') : RdI w' A l := h.mut (T := fun _ => False) (Mut.of_below hb) fun _ _ h => h
theorem RdI.of_own {w : World} {B n C : Nat} {A : Option Addr} {l : List Int} (h : w.ownsRow B 26 1 (.slice A n C) n (ints l)) : RdI w A l := fun j hj => by
  have hn : n = l.length := by have := h.1; simp [ints] at this; omega
  subst hn
  obtain ⟨g, h1, h2, h3, h4⟩ := ints_get hj h
  exact ⟨g, 0, h1, h2, by rw [Nat.zero_add]; exact h4⟩
theorem BoolsAt.below {w w' : World} {A : Option Addr} {l : List Bool} (h : BoolsAt w A l) (hb : Below w.heap.size w w') : BoolsAt w' A l := h.mut (S := fun _ => False) (Mut.of_below hb) fun _ _ _ h => h
theorem eqlen_ints {w : World} {A A' : Option Addr} {l l' : List Int} (C C' : Nat) (hl : l.length ≤ 100000000) (hl2 : l'.length ≤ 100000000) (hne : l.length ≠ l'.length) :
    Calls Try.prog 49 #[.slice A l.length C, .slice A' l'.length C'] w fun e w' => e = .returned (.bool (decide (l = l'))) ∧ Below w.heap.size w w' := by
  have HE : Hid (decide (l = l') = false) := Lib.hid (decide_eq_false fun e => hne (by rw [e]))
  generalize l.length = n at *
  generalize l'.length = m at *
  have k1 : (n != m) = !false := by simpa using hne
  have k2 : ((n : Int) != (m : Int)) = !false := (bne_iff_ne (a := (n : Int)) (b := (m : Int))).2 (by omega)
  clear hne
  go_enter Try.func49, Try.ntmps49
  go_wp2
  all_goals go_ret
  all_goals exact ⟨by rw [HE.out]; rfl, Below.refl _ _⟩
set_option maxHeartbeats 1000000 in
theorem equal_ints {w : World} {A A' : Option Addr} {l l' : List Int} (C C' : Nat) (h : RdI w A l) (h' : RdI w A' l') (hl : l.length ≤ 100000000) (hl2 : l'.length ≤ 100000000) :
    Calls Try.prog 49 #[.slice A l.length C, .slice A' l'.length C'] w fun e w' => e = .returned (.bool (decide (l = l'))) ∧ Below w.heap.size w w' := by
  by_cases hlen : l.length ≠ l'.length
  · exact eqlen_ints C C' hl hl2 hlen
  · have hlen : l.length = l'.length := Classical.not_not.1 hlen
    have HL := Lib.hid hlen
    have H := Lib.hid h
    have H' := Lib.hid h'
    rw [← hlen]
    clear h h' hlen hl2
    go_enter Try.func49, Try.ntmps49
    go_wp2
    go_loopw [13] (fun p wr => ∃ j : Nat, j ≤ l.length ∧ p = .int .i64 j ∧ Hid (l.take j = l'.take j) ∧ Hid (Below w.heap.size w wr)) (fun i _ => l.length - (intOf i).toNat)
    case atStart => exact ⟨0, Nat.zero_le _, rfl, Lib.hid rfl, Lib.hid (Below.refl _ _)⟩
    case round =>
      obtain ⟨j, hj, rfl, HT, HB⟩ := hrel
      by_cases hlt : j < l.length
      · have hlt' : j < l'.length := by rw [← HL.out]; exact hlt
        obtain ⟨g, o, hA, hg, c1⟩ := (H.out.below HB.out) j hlt
        obtain ⟨g', o', hA', hg', c2⟩ := (H'.out.below HB.out) j hlt'
        have q0 : (0 : Int) ≤ (j : Int) := by omega
        have q1 : (j : Int) < (l.length : Int) := by omega
        have HX : Hid (l.take (j + 1) = l.take j ++ [l[j]'hlt] ∧ l'.take (j + 1) = l'.take j ++ [l'[j]'hlt']) := Lib.hid ⟨List.take_succ_eq_append_getElem hlt, List.take_succ_eq_append_getElem hlt'⟩
        by_cases he : l[j]'hlt = l'[j]'hlt'
        · have HX2 : Hid (l.take (j + 1) = l'.take (j + 1)) := Lib.hid (by rw [HX.out.1, HX.out.2, HT.out, he])
          rw [hA, hA']
          rw [he] at c1
          clear hA hA' he HX
          generalize l'[j]'hlt' = y at *
          clear hlt'
          go_wp2
          go_quiet (fail)
          go_wp2
          go_roundw
          case rel => exact ⟨j + 1, by omega, by go_num, HX2, Lib.hid (HB.out.dn _)⟩
          case measure => simp [intOf]; omega
        · have HE : Hid (decide (l = l') = false) := Lib.hid (decide_eq_false fun e => he (by simp only [e]))
          rw [hA, hA']
          clear hA hA' HX
          generalize l'[j]'hlt' = y at *
          generalize l[j]'hlt = x at *
          have k1 : (x != y) = !false := by simpa using he
          clear hlt' he
          go_wp2
          go_quiet (fail)
          go_wp2
          go_ret
          exact ⟨by rw [HE.out]; rfl, HB.out.dn _⟩
      · obtain rfl : j = l.length := by omega
        have HE : Hid (decide (l = l') = true) := Lib.hid (decide_eq_true (by have := HT.out; rwa [List.take_length, HL.out, List.take_length] at this))
        clear hlt
        go_wp2
        go_ret
        exact ⟨by rw [HE.out]; rfl, HB.out⟩
theorem eqlen_bools {w : World} {A A' : Option Addr} {l l' : List Bool} (C C' : Nat) (hl : l.length ≤ 100000000) (hl2 : l'.length ≤ 100000000) (hne : l.length ≠ l'.length) :
    Calls Try.prog 58 #[.slice A l.length C, .slice A' l'.length C'] w fun e w' => e = .returned (.bool (decide (l = l'))) ∧ Below w.heap.size w w' := by
  have HE : Hid (decide (l = l') = false) := Lib.hid (decide_eq_false fun e => hne (by rw [e]))
  generalize l.length = n at *
  generalize l'.length = m at *
  have k1 : (n != m) = !false := by simpa using hne
  have k2 : ((n : Int) != (m : Int)) = !false := (bne_iff_ne (a := (n : Int)) (b := (m : Int))).2 (by omega)
  clear hne
  go_enter Try.func58, Try.ntmps58
  go_wp2
  all_goals go_ret
  all_goals exact ⟨by rw [HE.out]; rfl, Below.refl _ _⟩
set_option maxHeartbeats 1000000 in
theorem equal_bools {w : World} {A A' : Option Addr} {l l' : List Bool} (C C' : Nat) (h : BoolsAt w A l) (h' : BoolsAt w A' l') (hl : l.length ≤ 100000000) (hl2 : l'.length ≤ 100000000) :
    Calls Try.prog 58 #[.slice A l.length C, .slice A' l'.length C'] w fun e w' => e = .returned (.bool (decide (l = l'))) ∧ Below w.heap.size w w' := by
  by_cases hlen : l.length ≠ l'.length
  · exact eqlen_bools C C' hl hl2 hlen
  · have hlen : l.length = l'.length := Classical.not_not.1 hlen
    have HL := Lib.hid hlen
    have H := Lib.hid h
    have H' := Lib.hid h'
    rw [← hlen]
    clear h h' hlen hl2
    go_enter Try.func58, Try.ntmps58
    go_wp2
    go_loopw [13] (fun p wr => ∃ j : Nat, j ≤ l.length ∧ p = .int .i64 j ∧ Hid (l.take j = l'.take j) ∧ Hid (Below w.heap.size w wr)) (fun i _ => l.length - (intOf i).toNat)
    case atStart => exact ⟨0, Nat.zero_le _, rfl, Lib.hid rfl, Lib.hid (Below.refl _ _)⟩
    case round =>
      obtain ⟨j, hj, rfl, HT, HB⟩ := hrel
      by_cases hlt : j < l.length
      · have hlt' : j < l'.length := by rw [← HL.out]; exact hlt
        obtain ⟨g, o, hA, hg, c1⟩ := (H.out.below HB.out) j hlt
        obtain ⟨g', o', hA', hg', c2⟩ := (H'.out.below HB.out) j hlt'
        have q0 : (0 : Int) ≤ (j : Int) := by omega
        have q1 : (j : Int) < (l.length : Int) := by omega
        have HX : Hid (l.take (j + 1) = l.take j ++ [l[j]'hlt] ∧ l'.take (j + 1) = l'.take j ++ [l'[j]'hlt']) := Lib.hid ⟨List.take_succ_eq_append_getElem hlt, List.take_succ_eq_append_getElem hlt'⟩
        by_cases he : l[j]'hlt = l'[j]'hlt'
        · have HX2 : Hid (l.take (j + 1) = l'.take (j + 1)) := Lib.hid (by rw [HX.out.1, HX.out.2, HT.out, he])
          rw [hA, hA']
          rw [he] at c1
          clear hA hA' he HX
          generalize l'[j]'hlt' = y at *
          clear hlt'
          cases y
          all_goals
            go_wp2
            go_quiet (fail)
            go_wp2
            go_roundw
            case rel => exact ⟨j + 1, by omega, by go_num, HX2, Lib.hid (HB.out.dn _)⟩
            case measure => simp [intOf]; omega
        · have HE : Hid (decide (l = l') = false) := Lib.hid (decide_eq_false fun e => he (by simp only [e]))
          rw [hA, hA']
          clear hA hA' HX
          generalize l'[j]'hlt' = y at *
          generalize l[j]'hlt = x at *
          clear hlt'
          cases x <;> cases y
          · exact absurd rfl he
          · clear he
            go_wp2
            go_quiet (fail)
            go_wp2
            go_ret
            exact ⟨by rw [HE.out]; rfl, HB.out.dn _⟩
          · clear he
            go_wp2
            go_quiet (fail)
            go_wp2
            go_ret
            exact ⟨by rw [HE.out]; rfl, HB.out.dn _⟩
          · exact absurd rfl he
      · obtain rfl : j = l.length := by omega
        have HE : Hid (decide (l = l') = true) := Lib.hid (decide_eq_true (by have := HT.out; rwa [List.take_length, HL.out, List.take_length] at this))
        clear hlt
        go_wp2
        go_ret
        exact ⟨by rw [HE.out]; rfl, HB.out⟩
end Go.Proofs.Ytodfpclekihbhaa
