/- The law: any calls are answered as the model. -/
import Derived.Test.YtnbjknjnpfmklaaP42
namespace Go.Proofs.Ytnbjknjnpfmklaa
open Go.RowKit

theorem awake_b (w : World) : Calls Try.prog 9 #[] w fun e w' => e = .returned (.bool true) ∧ Below w.heap.size w w' := awake_calls w
theorem few_dec (q : Int) (sA : Option Addr) (n sC : Nat) (lA : Option Addr) (lC : Nat) (l : List Ac) (w : World) (h : ActsAt w lA l) :
    Calls Try.prog 13 #[.agg #[.int .i64 q, .slice sA n sC], .slice lA l.length lC] w fun e w' => FewR n l e ∧ Below w.heap.size w w' := few_calls q sA n sC lA lC l w h

set_option maxRecDepth 100000 in
set_option maxHeartbeats 8000000 in
theorem law_plays (q : Int) (A lA : Option Addr) (C lC : Nat) (zs : List Int) (l : List Ac) (w : World) (hq2 : q ≤ 9223372036854775807) (hA : A = none → C = 0) (hr : RowI w A zs) (hAl : ∀ a, A = some a → a.block < w.heap.size) (hl : ActsAt w lA l) (hact : ActsOk l) :
    Calls Try.prog 6 #[.agg #[.int .i64 q, .slice A zs.length C], .slice lA l.length lC] w fun e w' => e = .returned (.bool true) ∧ Below w.heap.size w w' := by
  have HR := Lib.hid hr
  have HL := Lib.hid hl
  have HAL := Lib.hid hAl
  have HACT := Lib.hid hact
  have HBW : Hid (Below w.heap.size w (w.alloc (.cells #[.int .i64 q, .slice A zs.length C] 32))) := Lib.hid ((Below.refl _ w).alloc (Nat.le_refl _) _)
  have HB0 : Hid (Below (w.alloc (.cells #[.int .i64 q, .slice A zs.length C] 32)).heap.size (w.alloc (.cells #[.int .i64 q, .slice A zs.length C] 32)) (w.alloc (.cells #[.int .i64 q, .slice A zs.length C] 32))) := Lib.hid (Below.refl _ _)
  clear hr hl hAl hact
  go_enter Try.func6, Try.ntmps6
  go_wp2_with (first
    | (go_at_call 9; refine (awake_calls _).mono ?_; rintro e wn ⟨rfl, hb⟩; replace HB0 := Lib.hid (HB0.out.step2 hb); clear hb; (try clear r0 r1); have r0 : wn.cell? ⟨w.heap.size, 0, none⟩ = some (.int .i64 q) := (HB0.out.cell (p := ⟨w.heap.size, 0, none⟩) (by simp)).trans (cell_of_heap (heap_alloc_new w _) rfl); have r1 : wn.cell? ⟨w.heap.size, 1, none⟩ = some (.slice A zs.length C) := (HB0.out.cell (p := ⟨w.heap.size, 1, none⟩) (by simp)).trans (cell_of_heap (heap_alloc_new w _) rfl))
    | (go_at_call 13; refine (few_calls q A zs.length C lA lC l _ (HL.out.below (HBW.out.step2 HB0.out))).mono ?_; rintro e wn ⟨⟨fb, rfl, hf⟩, hb⟩; have HF := Lib.hid hf; replace HB0 := Lib.hid (HB0.out.step2 hb); clear hb hf; (try clear r0 r1); have r0 : wn.cell? ⟨w.heap.size, 0, none⟩ = some (.int .i64 q) := (HB0.out.cell (p := ⟨w.heap.size, 0, none⟩) (by simp)).trans (cell_of_heap (heap_alloc_new w _) rfl); have r1 : wn.cell? ⟨w.heap.size, 1, none⟩ = some (.slice A zs.length C) := (HB0.out.cell (p := ⟨w.heap.size, 1, none⟩) (by simp)).trans (cell_of_heap (heap_alloc_new w _) rfl); cases fb))
  · go_ret
    exact ⟨rfl, HBW.out.step2 HB0.out⟩
  · have HFP : Hid (FewP zs.length l) := Lib.hid (HF.out (by first | rfl | trivial))
    clear HF
    have HF := HFP
    clear HFP
    have HRN : Hid (RowI wn A zs) := Lib.hid (HR.out.below (HBW.out.step2 HB0.out))
    have HSZ : Hid ((w.alloc (.cells #[.int .i64 q, .slice A zs.length C] 32)).heap.size ≤ wn.heap.size) := Lib.hid HB0.out.size
    have HOWN : Hid ((wn.alloc (.cells #[] 3)).drew.ownsRow wn.heap.size 3 1 (.slice (some ⟨wn.heap.size, 0, none⟩) 0 0) 0 []) := Lib.hid (World.ownsRow_lit (e := 3) (size := 1) wn #[] 0 (Nat.le_refl _) (Nat.zero_le _) rfl)
    by_cases hq : q < 1
    · go_region_held3 (fun w' => w'.cell? ⟨w.heap.size, 0, none⟩ = some (.int .i64 q) ∧ w'.cell? ⟨w.heap.size, 1, none⟩ = some (.slice A zs.length C) ∧ Hid (Below (w.alloc (.cells #[.int .i64 q, .slice A zs.length C] 32)).heap.size (w.alloc (.cells #[.int .i64 q, .slice A zs.length C] 32)) w'))
        (((try go_split_ands); (repeat' apply And.intro) <;> first | assumption | exact Lib.hid (Below.drew (Hid.out (by assumption))) | exact Lib.hid (Below.alloc (Hid.out (by assumption)) (by first | (have := HSZ.out; simp only [heap_al, heap_dr, Array.size_push]; omega) | exact HSZ.out) _) | go_keep))
        (first
        | (refine step_app_list rfl _ _ rfl wn.heap.size wn.heap.size zs A C rfl HOWN.out (by simp only [heap_al, heap_dr, Array.size_push]; omega) rfl hA (HRN.out.below (show Below wn.heap.size wn _ by repeat (first | exact Below.refl _ _ | exact Nat.le_refl _ | (simp only [heap_al, heap_dr, Array.size_push]; omega) | refine Below.alloc ?_ ?_ _ | refine Below.drew ?_))) (by have := HF.out.hs; omega) ?_; intro A1 C1 w2 ho hg; have HO := Lib.hid ho.out; have HN2 : Hid (Below wn.heap.size wn w2) := Lib.hid (Below.grown (show Below wn.heap.size wn _ by repeat (first | exact Below.refl _ _ | exact Nat.le_refl _ | (simp only [heap_al, heap_dr, Array.size_push]; omega) | refine Below.alloc ?_ ?_ _ | refine Below.drew ?_)) hg.out (by simp only [heap_al, heap_dr, Array.size_push]; omega) (fun k hk => by injection hk with hk; omega)); have HB2 := Lib.hid (HB0.out.step2 HN2.out); clear ho hg r0 r1; have r0 : w2.cell? ⟨w.heap.size, 0, none⟩ = some (.int .i64 q) := (HB2.out.cell (p := ⟨w.heap.size, 0, none⟩) (by simp)).trans (cell_of_heap (heap_alloc_new w _) rfl); have r1 : w2.cell? ⟨w.heap.size, 1, none⟩ = some (.slice A zs.length C) := (HB2.out.cell (p := ⟨w.heap.size, 1, none⟩) (by simp)).trans (cell_of_heap (heap_alloc_new w _) rfl))
        | (go_at_call 10; refine (new_none q A1 zs.length C1 _ hq).mono ?_; rintro e w3 ⟨rfl, rfl⟩))
      all_goals go_wp2
      all_goals go_ret
      all_goals exact ⟨rfl, HBW.out.step2 HB2.out⟩
    · have HQ1 := Lib.hid hq
      have hq3 : decide (q < 1) = false := decide_eq_false hq
      go_region_held3 (fun w' => w'.cell? ⟨w.heap.size, 0, none⟩ = some (.int .i64 q) ∧ w'.cell? ⟨w.heap.size, 1, none⟩ = some (.slice A zs.length C) ∧ Hid (Below (w.alloc (.cells #[.int .i64 q, .slice A zs.length C] 32)).heap.size (w.alloc (.cells #[.int .i64 q, .slice A zs.length C] 32)) w'))
        (((try go_split_ands); (repeat' apply And.intro) <;> first | assumption | exact Lib.hid (Below.drew (Hid.out (by assumption))) | exact Lib.hid (Below.alloc (Hid.out (by assumption)) (by first | (have := HSZ.out; simp only [heap_al, heap_dr, Array.size_push]; omega) | exact HSZ.out) _) | go_keep))
        (first
        | (refine step_app_list rfl _ _ rfl wn.heap.size wn.heap.size zs A C rfl HOWN.out (by simp only [heap_al, heap_dr, Array.size_push]; omega) rfl hA (HRN.out.below (show Below wn.heap.size wn _ by repeat (first | exact Below.refl _ _ | exact Nat.le_refl _ | (simp only [heap_al, heap_dr, Array.size_push]; omega) | refine Below.alloc ?_ ?_ _ | refine Below.drew ?_))) (by have := HF.out.hs; omega) ?_; intro A1 C1 w2 ho hg; have HO := Lib.hid ho.out; have HN2 : Hid (Below wn.heap.size wn w2) := Lib.hid (Below.grown (show Below wn.heap.size wn _ by repeat (first | exact Below.refl _ _ | exact Nat.le_refl _ | (simp only [heap_al, heap_dr, Array.size_push]; omega) | refine Below.alloc ?_ ?_ _ | refine Below.drew ?_)) hg.out (by simp only [heap_al, heap_dr, Array.size_push]; omega) (fun k hk => by injection hk with hk; omega)); have HB2 := Lib.hid (HB0.out.step2 HN2.out); clear ho hg r0 r1; have r0 : w2.cell? ⟨w.heap.size, 0, none⟩ = some (.int .i64 q) := (HB2.out.cell (p := ⟨w.heap.size, 0, none⟩) (by simp)).trans (cell_of_heap (heap_alloc_new w _) rfl); have r1 : w2.cell? ⟨w.heap.size, 1, none⟩ = some (.slice A zs.length C) := (HB2.out.cell (p := ⟨w.heap.size, 1, none⟩) (by simp)).trans (cell_of_heap (heap_alloc_new w _) rfl))
        | (go_at_call 10; refine (new_calls q zs A1 C1 _ (by have := HQ1.out; omega) (RowI.of_own HO.out) (by have := HF.out.hs; omega)).mono ?_; rintro e w3 ⟨tb, p, rfl, ht, hf1, hf2, hb⟩; have HT := Lib.hid ht; have HF1 := Lib.hid hf1; have HF2 := Lib.hid hf2; have HB3 := Lib.hid (HB2.out.step2 hb); clear ht hf1 hf2 hb r0 r1; have r0 : w3.cell? ⟨w.heap.size, 0, none⟩ = some (.int .i64 q) := (HB3.out.cell (p := ⟨w.heap.size, 0, none⟩) (by simp)).trans (cell_of_heap (heap_alloc_new w _) rfl); have r1 : w3.cell? ⟨w.heap.size, 1, none⟩ = some (.slice A zs.length C) := (HB3.out.cell (p := ⟨w.heap.size, 1, none⟩) (by simp)).trans (cell_of_heap (heap_alloc_new w _) rfl)))
      all_goals go_wp2
      all_goals (try go_split_ands)
      all_goals have HX := Lib.hid (new_both HT.out (HR.out.below (HBW.out.step2 HB3.out)) HAL.out (HBW.out.step2 HB3.out) (fun k hk => Nat.le_trans (Nat.le_trans HBW.out.size HB2.out.size) (HF1.out k hk)) (A := A) (C := C))
      all_goals have HPL : Hid (∀ j, j ≤ l.length → ActOk j q zs (playN (newT q zs) (l.take j))) := Lib.hid (fun j hj => ⟨(Fit.new q zs (by have := HQ1.out; omega)).playTake l j hj, by have := HF.out.hl; omega, hq2, by have := HF.out.hs; omega⟩)
      all_goals clear r0 r1 HB3 HB2 HO HF1 HF2 HT HOWN HBW HB0
      all_goals have hll := HF.out.hl
      all_goals (
        go_loopw [8] (fun i wr => ∃ j : Nat, j ≤ l.length ∧ i = .int .i64 j ∧ Hid (Both w wr tb w3.heap.size (fun _ _ => False) (playN (newT q zs) (l.take j)) (playN (newT q zs) (l.take j)))) (fun i _ => l.length - (intOf i).toNat)
        case atStart => exact ⟨0, by omega, rfl, HX⟩
        case round =>
          obtain ⟨j, hj, rfl, hB⟩ := hrel
          by_cases hlt : j < l.length
          · obtain ⟨b, o, rfl, hb, k0, k1, k2⟩ := HL.out.below hB.out.out j hlt
            have HSN := Lib.hid (playN_snoc (newT q zs) l j hlt)
            have HOK := Lib.hid (HPL.out j hj)
            have HOK2 := Lib.hid (HPL.out (j + 1) hlt)
            have HW0 := Lib.hid (HACT.out.w0 j hlt)
            have HN1 := Lib.hid (HACT.out.n1 j hlt)
            obtain ⟨T2, hT2⟩ : ∃ T2, T2 = playN (newT q zs) (l.take (j + 1)) := ⟨_, rfl⟩
            rw [← hT2] at HSN HOK2
            have HT2 := Lib.hid hT2
            clear hT2
            generalize (l[j]'hlt).what = kw at *
            generalize (l[j]'hlt).n = kn at *
            generalize (l[j]'hlt).text = kt at *
            generalize playN (newT q zs) (l.take j) = T1 at *
            have j0 : (0 : Int) ≤ (j : Int) := by omega
            have j1 : (j : Int) < (l.length : Int) := by omega
            go_wp2_with (first
              | (go_at_call 25; refine (act_calls hB.out HOK.out kw kn kt HW0.out HN1.out).mono ?_; rintro e w4 ⟨rfl, hb4⟩; rw [← HSN.out] at hb4; have HB4 := Lib.hid hb4; clear hb4)
              | (go_at_call 26; refine (alike_calls HB4.out HOK2.out).mono ?_; rintro e w5 ⟨rfl, hb5⟩; have HB5 := Lib.hid hb5; clear hb5))
            go_roundw
            case rel =>
              refine ⟨j + 1, by omega, by go_num, ?_⟩
              rw [← HT2.out]
              exact HB5
            case measure => simp [intOf]; omega
          · obtain rfl : j = l.length := by omega
            go_wp2
            go_ret
            exact ⟨rfl, hB.out.out⟩)
end Go.Proofs.Ytnbjknjnpfmklaa
