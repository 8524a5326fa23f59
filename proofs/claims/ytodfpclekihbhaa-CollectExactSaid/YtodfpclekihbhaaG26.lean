/- Texts on the heap, merged: W55, L10. -/
import Derived.Test.YtodfpclekihbhaaG25
import Derived.Test.YtodfpclekihbhaaG20
/- slices.Contains, slices.IsSorted of references. -/
namespace Go.Proofs.Ytodfpclekihbhaa
open Go.RowKit Go.Shelf

def idxL (x : Int) (l : List Int) : Int := if x ∈ l then (l.idxOf x : Nat) else -1
theorem index_refs {w : World} {A : Option Addr} {l : List Int} (C : Nat) (h : RdI w A l) (hl : l.length ≤ 100000000) (x : Int) :
    Calls Try.prog 84 #[.slice A l.length C, .int .i64 x] w fun e w' => (∃ i : Int, e = .returned (.int .i64 i) ∧ (x ∈ l ↔ 0 ≤ i)) ∧ Below w.heap.size w w' := by
  have H := Lib.hid h
  clear h
  go_enter Try.func84, Try.ntmps84
  go_wp2
  go_loopw [8] (fun p wr => ∃ j : Nat, j ≤ l.length ∧ p = .int .i64 j ∧ Hid (x ∉ l.take j) ∧ Hid (Below w.heap.size w wr)) (fun i _ => l.length - (intOf i).toNat)
  case atStart => exact ⟨0, Nat.zero_le _, rfl, Lib.hid (by simp), Lib.hid (Below.refl _ _)⟩
  case round =>
    obtain ⟨j, hj, rfl, HT, HB⟩ := hrel
    by_cases hlt : j < l.length
    · obtain ⟨g, o, hA, hg, c1⟩ := (H.out.below HB.out) j hlt
      have q0 : (0 : Int) ≤ (j : Int) := by omega
      have q1 : (j : Int) < (l.length : Int) := by omega
      have HX : Hid (l.take (j + 1) = l.take j ++ [l[j]'hlt] ∧ l[j]'hlt ∈ l) := Lib.hid ⟨List.take_succ_eq_append_getElem hlt, List.getElem_mem _⟩
      rw [hA]
      clear hA
      generalize l[j]'hlt = y at *
      by_cases he : x = y
      · subst he
        go_wp2
        go_ret
        exact ⟨⟨_, rfl, fun _ => q0, fun _ => HX.out.2⟩, HB.out⟩
      · have HE : Hid (x ∉ l.take (j + 1)) := Lib.hid (by rw [HX.out.1, List.mem_append]; rintro (h1 | h1); exact HT.out h1; exact he (by simpa using h1))
        have k1 : (x == y) = false := by simpa using he
        clear he
        go_wp2
        go_roundw
        case rel => exact ⟨j + 1, by omega, by go_num, HE, HB⟩
        case measure => simp [intOf]; omega
    · obtain rfl : j = l.length := by omega
      rw [List.take_length] at HT
      clear hlt hj
      go_wp2
      go_ret
      exact ⟨⟨_, rfl, fun h => absurd h HT.out, fun h => absurd h (by decide)⟩, HB.out⟩
theorem contains_refs {w : World} {A : Option Addr} {l : List Int} (C : Nat) (h : RdI w A l) (hl : l.length ≤ 100000000) {x : Int} (hx : x ∈ l) :
    Calls Try.prog 47 #[.slice A l.length C, .int .i64 x] w fun e w' => e = .returned (.bool true) ∧ Below w.heap.size w w' := by
  have HC := Lib.hid (index_refs C h hl x)
  have HX := Lib.hid hx
  clear h hx
  go_enter Try.func47, Try.ntmps47
  go_wp2_with (go_at_call 84; refine HC.out.mono ?_; rintro e w1 ⟨⟨i, rfl, hi⟩, hb⟩
               have h0 := hi.1 HX.out
               have HB := Lib.hid hb
               clear hi hb)
  go_ret
  exact ⟨rfl, HB.out⟩
theorem isnan_ref (x : Int) (w : World) : Calls Try.prog 95 #[.int .i64 x] w fun e w' => e = .returned (.bool false) ∧ w' = w := by
  have k1 : (x != x) = false := by simp
  go_enter Try.func95, Try.ntmps95
  go_wp2
  go_ret
  exact ⟨rfl, rfl⟩
theorem less_refs (x y : Int) (w : World) : Calls Try.prog 85 #[.int .i64 x, .int .i64 y] w fun e w' => e = .returned (.bool (decide (x < y))) ∧ w' = w := by
  go_enter Try.func85, Try.ntmps85
  go_wp2_with (go_at_call 95; refine (isnan_ref x w).mono ?_; rintro e w1 ⟨rfl, rfl⟩)
  all_goals go_ret
  all_goals exact ⟨rfl, rfl⟩
theorem not_less (x y : Int) (h : ¬ x < y) (w : World) : Calls Try.prog 85 #[.int .i64 x, .int .i64 y] w fun e w' => e = .returned (.bool false) ∧ w' = w := by
  have := less_refs x y w
  rw [decide_eq_false h] at this
  exact this
theorem sorted_refs {w : World} {A : Option Addr} {l : List Int} (C : Nat) (h : RdI w A l) (hl : l.length ≤ 100000000) (hs : l.Pairwise (· ≤ ·)) :
    Calls Try.prog 48 #[.slice A l.length C] w fun e w' => e = .returned (.bool true) ∧ Below w.heap.size w w' := by
  have H := Lib.hid h
  have HS : Hid (∀ j (h1 : j + 1 < l.length), ¬ (l[j + 1]'h1) < (l[j]'(by omega))) := Lib.hid fun j h1 h2 => by
    have := List.pairwise_iff_getElem.1 hs j (j + 1) (by omega) h1 (by omega)
    omega
  clear h hs
  go_enter Try.func48, Try.ntmps48
  go_wp2
  go_loopw [3] (fun p wr => ∃ j : Int, -1 ≤ j ∧ j < l.length ∧ p = .int .i64 j ∧ Hid (Below w.heap.size w wr)) (fun i _ => (intOf i + 1).toNat)
  case atStart => exact ⟨(l.length : Int) - 1, by omega, by omega, by go_num, Lib.hid (Below.refl _ _)⟩
  case round =>
    obtain ⟨j, hj1, hj2, rfl, HB⟩ := hrel
    by_cases hp : 0 < j
    · obtain ⟨i, rfl⟩ : ∃ i : Nat, j = (i : Int) + 1 := ⟨(j - 1).toNat, by omega⟩
      have hlt : i + 1 < l.length := by omega
      obtain ⟨g, o, hA, hg, c1⟩ := (H.out.below HB.out) (i + 1) hlt
      obtain ⟨g', o', hA', hg', c2⟩ := (H.out.below HB.out) i (by omega)
      rw [hA] at hA'
      cases hA'
      have hx := HS.out i hlt
      rw [hA]
      have HAE := Lib.hid hA
      clear hA hg' hg
      generalize l[i + 1]'hlt = x at *
      generalize l[i] = y at *
      have hxy : ¬ x < y := by omega
      have HLS := Lib.hid (not_less x y hxy)
      obtain ⟨iN, hiN⟩ : ∃ q, q = i + 1 := ⟨_, rfl⟩
      obtain ⟨jN, hjN⟩ : ∃ q, q = i := ⟨_, rfl⟩
      have ea : ((i : Int) + 1).toNat = iN := by omega
      have pa : (0 : Int) ≤ (i : Int) + 1 := by omega
      have ba : (i : Int) + 1 < (l.length : Int) := by omega
      have ra : IntKind.i64.wrap ((i : Int) + 1) = (i : Int) + 1 := by rw [IntKind.wrap_i64]; omega
      have ec : ((i : Int)).toNat = jN := by omega
      have pc : (0 : Int) ≤ (i : Int) := by omega
      have bc : (i : Int) < (l.length : Int) := by omega
      have rc : IntKind.i64.wrap ((i : Int)) = (i : Int) := by rw [IntKind.wrap_i64]; omega
      have la : ∀ n, (wr.drewN n).cell? ⟨g, o + iN, none⟩ = some (.int .i64 x) := by rw [hiN]; exact fun n => c1
      have lb : ∀ n, (wr.drewN n).cell? ⟨g, o + jN, none⟩ = some (.int .i64 y) := by rw [hjN]; exact fun n => c2
      clear hiN hjN c1 c2 hx hxy
      go_wp2_with fail
      go_quiet ((go_at_call 85; refine Calls.quiet_of_same (HLS.out _)))
      clear la lb ea ec
      go_wp2
      go_roundw
      case rel => exact ⟨(i : Int), by omega, by omega, by first | rfl | go_num, Lib.hid (HB.out.dn _)⟩
      case measure => simp [intOf]; omega
    · have hp2 : decide (0 < j) = false := decide_eq_false hp
      go_wp2
      go_ret
      exact ⟨rfl, HB.out⟩
end Go.Proofs.Ytodfpclekihbhaa

/- HeapCounts in plain Lean: counts stay small. -/
namespace Go.Proofs.Ytodfpclekihbhaa

theorem sum_sub_le {D M : List Int} (hn : D.Nodup) (h : ∀ x ∈ D, x ∈ M) (f : Int → Nat) : (D.map f).sum ≤ (M.map f).sum := by
  induction D generalizing M with
  | nil => exact Nat.zero_le _
  | cons x D ih =>
    rw [List.nodup_cons] at hn
    have hx := h x (List.mem_cons_self ..)
    have hp := List.perm_cons_erase hx
    rw [perm_sum hp]
    have := ih (M := M.erase x) hn.2 fun y hy => (List.mem_erase_of_ne (fun e : y = x => hn.1 (by rw [← e]; exact hy))).2 (h y (List.mem_cons_of_mem _ hy))
    simp only [List.map_cons, List.sum_cons]
    omega
theorem Cnt.bound {H : Hp} {N : Nat} (ok : Ok H N) (hN : N ≤ 900) {l D : List Int} {C : List (Int × Int)} {S : List (Int × Bool)} (h : Cnt H l D C S) (hl : l.Nodup) (hla : ∀ x ∈ l, x ∈ allH H) (x : Int) : 0 ≤ gC C x ∧ gC C x ≤ 1100000000 ∧ 0 ≤ holdsH H x ∧ holdsH H x ≤ 1000000000 := by
  have h1 : (D.map fun k => (refsOf (H.rowOf k)).count x).sum ≤ rowOcc x H.rows := by
    have h2 := sum_sub_le (M := H.rows.map (·.1)) h.dn (fun k hk => by
      obtain ⟨r, _, o, ho, rfl⟩ := (h.dr k).1 hk
      obtain ⟨y, hy, _⟩ := ok.inv.row r o ho
      exact List.mem_map.2 ⟨_, Mp.mem_of_get hy, rfl⟩) fun k => (refsOf (H.rowOf k)).count x
    refine Nat.le_trans h2 (Nat.le_of_eq ?_)
    rw [List.map_map]
    unfold rowOcc
    congr 1
    apply List.map_congr_left
    intro p hp
    simp only [Function.comp]
    unfold Hp.rowOf
    rw [Mp.get_of_mem ok.inv.ndR (x := p.1) (a := p.2) hp]
    rfl
  have h3 : (l.map fun r => (((Mp.get H.objs r).map tailOf).getD []).count x).sum ≤ tailOcc x H.objs := by
    have h2 := sum_sub_le (M := H.objs.map (·.1)) hl (fun k hk => by
      have := (mem_all H k).1 (hla k hk)
      cases ho : Mp.get H.objs k with
      | none => exact absurd ho this
      | some o => exact List.mem_map.2 ⟨_, Mp.mem_of_get ho, rfl⟩) fun r => (((Mp.get H.objs r).map tailOf).getD []).count x
    refine Nat.le_trans h2 (Nat.le_of_eq ?_)
    rw [List.map_map]
    unfold tailOcc
    congr 1
    apply List.map_congr_left
    intro p hp
    simp only [Function.comp]
    rw [Mp.get_of_mem ok.inv.ndO (x := p.1) (a := p.2) hp]
    rfl
  have h4 := inH_le H x
  have h5 := ok.mu
  have h6 : muH H = wsum H.rows + 2 * H.objs.length := rfl
  have h7 : inH H x = rowOcc x H.rows + tailOcc x H.objs := rfl
  have h8 : 0 ≤ holdsH H x ∧ holdsH H x ≤ 900 := by
    unfold holdsH
    cases ho : Mp.get H.objs x with
    | none => exact ⟨Int.le_refl _, by decide⟩
    | some o =>
      have h9 := ok.inv.pos x o ho
      have h10 := ok.st.holds x o ho
      refine ⟨h9.1, ?_⟩
      show o.holds ≤ 900
      omega
  rw [h.val]
  refine ⟨?_, ?_, h8.1, by omega⟩
  · split <;> omega
  · split <;> omega
theorem sorted_all (H : Hp) : (allH H).Pairwise (· ≤ ·) := by
  unfold allH keysS
  have := List.pairwise_mergeSort (le := fun a b : Int => decide (a ≤ b)) (fun a b c h1 h2 => by simp at *; omega) (fun a b => by simp; omega) (H.objs.map (·.1))
  exact this.imp fun h => by simpa using h
end Go.Proofs.Ytodfpclekihbhaa

