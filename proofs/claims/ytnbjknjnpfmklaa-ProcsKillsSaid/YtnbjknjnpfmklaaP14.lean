/- The law ProcsChooses, whole. -/
import Derived.Test.YtnbjknjnpfmklaaP13
namespace Go.Proofs.Ytnbjknjnpfmklaa
open Go.RowKit

set_option maxHeartbeats 8000000 in
theorem law_chooses_many (zs : List Int) (A : Option Addr) (C : Nat) (n : Int) (w : World) (hl : ¬ 60 < zs.length) (hA : A = none → C = 0) (hr : RowI w A zs) (hn : ¬ n < 2) (hn2 : n ≤ 9223372036854775807) :
    Calls Try.prog 3 #[.slice A zs.length C, .int .i64 n] w fun e w' => e = .returned (.bool true) ∧ Below w.heap.size w w' := by
  have HR := Lib.hid hr
  have h1 : decide ((60 : Int) < (zs.length : Int)) = false := decide_eq_false (by omega)
  have hz : zs.length ≤ 60 := by omega
  clear hr hl
  go_enter Try.func3, Try.ntmps3
  go_wp2_with (first
    | (go_at_call 9; refine (awake_calls _).mono ?_; rintro e wn ⟨rfl, hb⟩; have HB := Lib.hid hb; clear hb)
    | (at_builtin; refine app_list rfl _ _ rfl _ zs A C rfl rfl hA (HR.out.below HB.out) (by omega) ?_; intro A1 C1 w2 ho hb; replace HB := Lib.hid (HB.out.step2 hb.out); have HO := Lib.hid ho.out; clear ho hb)
    | (go_at_call 10; refine (new_cz 1 zs A1 C1 w _ HB.out (by decide) (RowI.of_own HO.out) (by omega)).mono ?_; rintro e wn ⟨tb, rfl, hc, _⟩; have HC : Hid (Cz w wn tb (usedT zs 0)) := Lib.hid hc; clear hc))
  go_loopw [7, 8, 9] (fun i _ _ wr => ∃ j : Nat, j ≤ zs.length ∧ i = .int .i64 j ∧ Hid (Cz w wr tb (usedT zs j))) (fun i _ _ _ => zs.length - (intOf i).toNat)
  case atStart => exact ⟨0, by omega, rfl, HC⟩
  case round =>
    obtain ⟨j, hj, rfl, hc⟩ := hrel
    by_cases hlt : j < zs.length
    · obtain ⟨g, o, rfl, hg, hcell⟩ := HR.out j hlt
      have HX : Hid (∀ W, Below w.heap.size w W → W.cell? ⟨g, o + j, none⟩ = some (.int .i64 (zs.getD j 0))) := Lib.hid (fun W hW => (hW.cell (p := ⟨g, o + j, none⟩) hg).trans hcell)
      obtain ⟨q1, q2⟩ := choose_at zs j n (by omega) hlt
      have b1 := tmod_lo (zs.getD j 0) n (by omega)
      have b2 := tmod_hi (zs.getD j 0) n (by omega)
      generalize zs.getD j 0 = x at *
      have x0 := HX.out _ hc.out.out
      have Q2 := Lib.hid q2
      have g0 : (0 : Int) ≤ (j : Int) := by omega
      have g1 : (j : Int) < (zs.length : Int) := by omega
      have g2 : ¬ n = 0 := by omega
      clear hcell q2 hg
      by_cases hx : x.tmod n < 0
      · rw [if_pos hx] at q1
        have Q1 := Lib.hid q1
        clear q1
        go_wp2
        go_region_law (go_simp; go_at_call 11; refine (choose_cz n (hc.out.below (Below.refl _ _).drew) hn2 (show zs.length ≤ 100000 by omega)).mono ?_; rintro e w3 ⟨rfl, hc3⟩; rw [Q2.out] at hc3; rw [Q1.out]; have HC3 := Lib.hid hc3; have x1 := HX.out _ hc3.out; clear hc3)
        all_goals go_wp2_with (go_at_call 12; refine (used_cz HC3.out).mono ?_; rintro e w4 ⟨rfl, rfl⟩; rw [show ((usedT zs (j + 1)).used : Int) = (j : Int) + 1 from rfl])
        all_goals go_roundw
        all_goals first | exact ⟨j + 1, by omega, by go_num, HC3⟩ | (simp [intOf]; omega)
      · rw [if_neg hx] at q1
        have Q1 := Lib.hid q1
        clear q1
        go_wp2
        go_region_law (go_simp; go_at_call 11; refine (choose_cz n (hc.out.below (Below.refl _ _).drew) hn2 (show zs.length ≤ 100000 by omega)).mono ?_; rintro e w3 ⟨rfl, hc3⟩; rw [Q2.out] at hc3; rw [Q1.out]; have HC3 := Lib.hid hc3; have x1 := HX.out _ hc3.out; clear hc3)
        all_goals go_wp2_with (go_at_call 12; refine (used_cz HC3.out).mono ?_; rintro e w4 ⟨rfl, rfl⟩; rw [show ((usedT zs (j + 1)).used : Int) = (j : Int) + 1 from rfl])
        all_goals go_roundw
        all_goals first | exact ⟨j + 1, by omega, by go_num, HC3⟩ | (simp [intOf]; omega)
    · obtain rfl : j = zs.length := by omega
      obtain ⟨q1, q2⟩ := choose_end zs n
      have Q1 := Lib.hid q1
      have Q2 := Lib.hid q2
      clear q1 q2
      go_wp2_with (first
        | (go_at_call 11; refine (choose_cz n hc.out hn2 (show zs.length ≤ 100000 by omega)).mono ?_; rintro e w3 ⟨rfl, hc3⟩; rw [Q2.out] at hc3; rw [Q1.out]; have HC3 := Lib.hid hc3; clear hc3)
        | (go_at_call 12; refine (used_cz HC3.out).mono ?_; rintro e w4 ⟨rfl, rfl⟩; rw [show ((usedT zs zs.length).used : Int) = (zs.length : Int) from rfl]))
      go_ret
      exact ⟨rfl, HC3.out.out⟩
theorem law_chooses (zs : List Int) (A : Option Addr) (C : Nat) (n : Int) (w : World) (hA : A = none → C = 0) (hr : RowI w A zs) (hn2 : n ≤ 9223372036854775807) :
    Calls Try.prog 3 #[.slice A zs.length C, .int .i64 n] w fun e w' => e = .returned (.bool true) ∧ Below w.heap.size w w' := by
  by_cases hl : 60 < zs.length
  · exact law_chooses_big zs A C n w hl
  · by_cases hn : n < 2
    · exact law_chooses_two zs A C n w hl hA hr hn
    · exact law_chooses_many zs A C n w hl hA hr hn hn2
end Go.Proofs.Ytnbjknjnpfmklaa
