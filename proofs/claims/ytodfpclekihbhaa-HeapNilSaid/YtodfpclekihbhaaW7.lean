/- slices.Clone of booleans, words and references. -/
import Derived.Test.YtodfpclekihbhaaW6
import Derived.WalkSpells
namespace Go.Proofs.Ytodfpclekihbhaa
open Go.RowKit Go.Shelf

theorem own_slice {w : World} {b n size : Nat} {e : TypeId} {v : Value} {xs : List Value} (h : w.ownsRow b e size v n xs) : ∃ A C, v = .slice A n C := by
  rcases h.2 with ⟨h1, h2⟩ | ⟨g, cap, cur, h1, _⟩
  · exact ⟨none, 0, by rw [h1, h2]⟩
  · exact ⟨_, _, h1⟩
theorem lt_of_cell {w : World} {a : Addr} {v : Value} (h : w.cell? a = some v) : a.block < w.heap.size := by
  unfold World.cell? at h
  rcases Nat.lt_or_ge a.block w.heap.size with h1 | h1
  · exact h1
  · rw [Array.getElem?_eq_none h1] at h
    cases h
theorem Try.infoBool : (Try.prog.info? 4).map (fun i => (i.zero, i.size, i.bytes)) = some (some (.bool false), 1, 1) := by kernel_rfl
set_option maxHeartbeats 1000000 in
theorem cloneBool (ad : Option Addr) (n C : Nat) (vs : List Value) (w : World) (hv : vs.length = n * 1) (hcell : ∀ a, ad = some a → ∀ j u, vs[j]? = some u → w.cell? (a.add j) = some u) (h1 : ∀ u ∈ vs, u.oneCell' = true) (hnil : ad = none → n = 0 ∧ C = 0) (hn : n ≤ 100000000) :
    Calls Try.prog 86 #[.slice ad n C] w fun e w' => ∃ A' C', e = .returned (.slice A' n C') ∧ w'.ownsRow w.heap.size 4 1 (.slice A' n C') n vs ∧ Below w.heap.size w w' ∧ (ad = none → A' = none) := by
  cases ad with
  | none =>
    obtain ⟨rfl, rfl⟩ := hnil rfl
    have hvs : vs = [] := List.eq_nil_of_length_eq_zero (by omega)
    have HV := Lib.hid hvs
    clear hcell h1 hnil hvs hv
    have hneq : ∀ w : World, (binOp .eql 30 (.slice none 0 0) (.slice none 0 0)).run Try.prog w = .ok (.bool true) w := fun w => Lib.run_eql_slice_nil w 30 4 none 0 0 0 0 Try.underlying30
    go_enter Try.func86, Try.ntmps86
    go_wp2
    all_goals go_ret
    all_goals exact ⟨none, 0, rfl, by rw [HV.out]; exact World.ownsRow_nil _ _ _ _, Below.refl _ _, fun _ => rfl⟩
  | some a =>
    obtain ⟨i0, hi, hz0, hz1, hz2⟩ := info_parts Try.infoBool
    have HV := Lib.hid hv
    have HC := Lib.hid (hcell a rfl)
    have H1 := Lib.hid h1
    have HI := Lib.hid hi
    have HZ0 := Lib.hid hz0
    have HZ1 := Lib.hid hz1
    have HZ2 := Lib.hid hz2
    have hneq : ∀ w : World, (binOp .eql 30 (.slice (some a) n C) (.slice none 0 0)).run Try.prog w = .ok (.bool false) w := fun w => Lib.run_eql_slice_nil w 30 4 (some a) n C 0 0 Try.underlying30
    have hb0 : Below w.heap.size w (w.alloc (.cells #[] 4)) := (Below.refl _ _).alloc (Nat.le_refl _) _
    have HB := Lib.hid hb0
    have HO : Hid ((w.alloc (.cells #[] 4)).ownsRow w.heap.size 4 1 (.slice (some ⟨w.heap.size, 0, none⟩) 0 0) 0 []) := Lib.hid (World.ownsRow_made w #[] 0 (Nat.le_refl _) (by decide) rfl)
    clear hv hcell h1 hnil hi hz0 hz1 hz2 hb0
    go_enter Try.func86, Try.ntmps86
    go_wp2_with (at_builtin; refine wpList_append_own _ rfl _ _ 30 rfl w.heap.size 4 i0 (.bool false) 1 1 Try.underlying30 HI.out HZ0.out HZ1.out HZ2.out rfl (by decide) (.slice (some ⟨w.heap.size, 0, none⟩) 0 0) 0 [] rfl HO.out a n C vs rfl HV.out ?c1 H1.out ?c3 ?c4 ?c5 ?_
                 case c1 => exact fun j u hj => (HB.out.cell (lt_of_cell (HC.out j u hj))).trans (HC.out j u hj)
                 case c3 => simp only [maxLen]; omega
                 case c4 => omega
                 case c5 => simp
                 intro v1 w1 hown1 hgrow _)
    go_ret
    simp only [Nat.zero_add, List.nil_append] at hown1
    obtain ⟨A1, C1, rfl⟩ := own_slice hown1
    exact ⟨A1, C1, rfl, hown1, HB.out.grown hgrow (by simp) (fun k hk => by simp [Value.ownBlock] at hk; omega), fun h => by cases h⟩
theorem Try.infoWord : (Try.prog.info? 42).map (fun i => (i.zero, i.size, i.bytes)) = some (some (.agg #[.int .i64 0, .int .i64 0]), 2, 16) := by kernel_rfl
set_option maxHeartbeats 1000000 in
theorem cloneWord (ad : Option Addr) (n C : Nat) (vs : List Value) (w : World) (hv : vs.length = n * 2) (hcell : ∀ a, ad = some a → ∀ j u, vs[j]? = some u → w.cell? (a.add j) = some u) (h1 : ∀ u ∈ vs, u.oneCell' = true) (hnil : ad = none → n = 0 ∧ C = 0) (hn : n ≤ 100000000) :
    Calls Try.prog 60 #[.slice ad n C] w fun e w' => ∃ A' C', e = .returned (.slice A' n C') ∧ w'.ownsRow w.heap.size 42 2 (.slice A' n C') n vs ∧ Below w.heap.size w w' ∧ (ad = none → A' = none) := by
  cases ad with
  | none =>
    obtain ⟨rfl, rfl⟩ := hnil rfl
    have hvs : vs = [] := List.eq_nil_of_length_eq_zero (by omega)
    have HV := Lib.hid hvs
    clear hcell h1 hnil hvs hv
    have hneq : ∀ w : World, (binOp .eql 97 (.slice none 0 0) (.slice none 0 0)).run Try.prog w = .ok (.bool true) w := fun w => Lib.run_eql_slice_nil w 97 42 none 0 0 0 0 Try.underlying97
    go_enter Try.func60, Try.ntmps60
    go_wp2
    all_goals go_ret
    all_goals exact ⟨none, 0, rfl, by rw [HV.out]; exact World.ownsRow_nil _ _ _ _, Below.refl _ _, fun _ => rfl⟩
  | some a =>
    obtain ⟨i0, hi, hz0, hz1, hz2⟩ := info_parts Try.infoWord
    have HV := Lib.hid hv
    have HC := Lib.hid (hcell a rfl)
    have H1 := Lib.hid h1
    have HI := Lib.hid hi
    have HZ0 := Lib.hid hz0
    have HZ1 := Lib.hid hz1
    have HZ2 := Lib.hid hz2
    have hneq : ∀ w : World, (binOp .eql 97 (.slice (some a) n C) (.slice none 0 0)).run Try.prog w = .ok (.bool false) w := fun w => Lib.run_eql_slice_nil w 97 42 (some a) n C 0 0 Try.underlying97
    have hb0 : Below w.heap.size w (w.alloc (.cells #[] 42)) := (Below.refl _ _).alloc (Nat.le_refl _) _
    have HB := Lib.hid hb0
    have HO : Hid ((w.alloc (.cells #[] 42)).ownsRow w.heap.size 42 2 (.slice (some ⟨w.heap.size, 0, none⟩) 0 0) 0 []) := Lib.hid (World.ownsRow_made w #[] 0 (Nat.le_refl _) (by decide) rfl)
    clear hv hcell h1 hnil hi hz0 hz1 hz2 hb0
    go_enter Try.func60, Try.ntmps60
    go_wp2_with (at_builtin; refine wpList_append_own _ rfl _ _ 97 rfl w.heap.size 42 i0 (.agg #[.int .i64 0, .int .i64 0]) 2 16 Try.underlying97 HI.out HZ0.out HZ1.out HZ2.out rfl (by decide) (.slice (some ⟨w.heap.size, 0, none⟩) 0 0) 0 [] rfl HO.out a n C vs rfl HV.out ?c1 H1.out ?c3 ?c4 ?c5 ?_
                 case c1 => exact fun j u hj => (HB.out.cell (lt_of_cell (HC.out j u hj))).trans (HC.out j u hj)
                 case c3 => simp only [maxLen]; omega
                 case c4 => omega
                 case c5 => simp
                 intro v1 w1 hown1 hgrow _)
    go_ret
    simp only [Nat.zero_add, List.nil_append] at hown1
    obtain ⟨A1, C1, rfl⟩ := own_slice hown1
    exact ⟨A1, C1, rfl, hown1, HB.out.grown hgrow (by simp) (fun k hk => by simp [Value.ownBlock] at hk; omega), fun h => by cases h⟩
set_option maxHeartbeats 1000000 in
theorem cloneRef (ad : Option Addr) (n C : Nat) (vs : List Value) (w : World) (hv : vs.length = n * 1) (hcell : ∀ a, ad = some a → ∀ j u, vs[j]? = some u → w.cell? (a.add j) = some u) (h1 : ∀ u ∈ vs, u.oneCell' = true) (hnil : ad = none → n = 0 ∧ C = 0) (hn : n ≤ 100000000) :
    Calls Try.prog 51 #[.slice ad n C] w fun e w' => ∃ A' C', e = .returned (.slice A' n C') ∧ w'.ownsRow w.heap.size 26 1 (.slice A' n C') n vs ∧ Below w.heap.size w w' ∧ (ad = none → A' = none) := by
  cases ad with
  | none =>
    obtain ⟨rfl, rfl⟩ := hnil rfl
    have hvs : vs = [] := List.eq_nil_of_length_eq_zero (by omega)
    have HV := Lib.hid hvs
    clear hcell h1 hnil hvs hv
    have hneq : ∀ w : World, (binOp .eql 35 (.slice none 0 0) (.slice none 0 0)).run Try.prog w = .ok (.bool true) w := fun w => Lib.run_eql_slice_nil w 35 26 none 0 0 0 0 Try.underlying35
    go_enter Try.func51, Try.ntmps51
    go_wp2
    all_goals go_ret
    all_goals exact ⟨none, 0, rfl, by rw [HV.out]; exact World.ownsRow_nil _ _ _ _, Below.refl _ _, fun _ => rfl⟩
  | some a =>
    obtain ⟨i0, hi, hz0, hz1, hz2⟩ := info_parts Try.infoRef
    have HV := Lib.hid hv
    have HC := Lib.hid (hcell a rfl)
    have H1 := Lib.hid h1
    have HI := Lib.hid hi
    have HZ0 := Lib.hid hz0
    have HZ1 := Lib.hid hz1
    have HZ2 := Lib.hid hz2
    have hneq : ∀ w : World, (binOp .eql 35 (.slice (some a) n C) (.slice none 0 0)).run Try.prog w = .ok (.bool false) w := fun w => Lib.run_eql_slice_nil w 35 26 (some a) n C 0 0 Try.underlying35
    have hb0 : Below w.heap.size w (w.alloc (.cells #[] 26)) := (Below.refl _ _).alloc (Nat.le_refl _) _
    have HB := Lib.hid hb0
    have HO : Hid ((w.alloc (.cells #[] 26)).ownsRow w.heap.size 26 1 (.slice (some ⟨w.heap.size, 0, none⟩) 0 0) 0 []) := Lib.hid (World.ownsRow_made w #[] 0 (Nat.le_refl _) (by decide) rfl)
    clear hv hcell h1 hnil hi hz0 hz1 hz2 hb0
    go_enter Try.func51, Try.ntmps51
    go_wp2_with (at_builtin; refine wpList_append_own _ rfl _ _ 35 rfl w.heap.size 26 i0 (.int .i64 0) 1 8 Try.underlying35 HI.out HZ0.out HZ1.out HZ2.out rfl (by decide) (.slice (some ⟨w.heap.size, 0, none⟩) 0 0) 0 [] rfl HO.out a n C vs rfl HV.out ?c1 H1.out ?c3 ?c4 ?c5 ?_
                 case c1 => exact fun j u hj => (HB.out.cell (lt_of_cell (HC.out j u hj))).trans (HC.out j u hj)
                 case c3 => simp only [maxLen]; omega
                 case c4 => omega
                 case c5 => simp
                 intro v1 w1 hown1 hgrow _)
    go_ret
    simp only [Nat.zero_add, List.nil_append] at hown1
    obtain ⟨A1, C1, rfl⟩ := own_slice hown1
    exact ⟨A1, C1, rfl, hown1, HB.out.grown hgrow (by simp) (fun k hk => by simp [Value.ownBlock] at hk; omega), fun h => by cases h⟩
end Go.Proofs.Ytodfpclekihbhaa
