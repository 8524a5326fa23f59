/- The contract of the reference's Entry: the name and the form of an instruction. -/
import Derived.Test.YtadkbcdopcehhaaDoorB0
import Derived.Deep.QuietTactic
import Derived.BigQuiet
namespace Go.Proofs.YtadkbcdopcehhaaDoor
open Go.RowKit
theorem below_drewN' {B : Nat} {w W : World} (h : Below B w W) (n : Nat) : Below B w (W.drewN n) := ⟨h.os, h.tape, h.output, h.size, h.block⟩
theorem ret_str2 {a b c d : ByteArray} (h1 : a = c) (h2 : b = d) : Ending.returned (.tuple #[.string a, .string b]) = .returned (.tuple #[.string c, .string d]) := by rw [h1, h2]

theorem entry_out (a : Int) (w : World) (h : a < 0 ∨ 111 ≤ a) : Calls Tryd.prog 13 #[.int .i64 a] w fun e w' => e = .returned (.tuple #[.string ⟨#[]⟩, .string ⟨#[]⟩]) ∧ Below w.heap.size w w' := by
  rcases h with h | h
  · go_enter Tryd.func13, Tryd.ntmps13
    go_wp2
    all_goals (go_ret2; exact ⟨rfl, Below.refl _ _⟩)
  · go_enter Tryd.func13, Tryd.ntmps13
    go_wp2
    all_goals (go_ret2; exact ⟨rfl, Below.refl _ _⟩)

set_option maxRecDepth 100000 in
set_option maxHeartbeats 2000000 in
theorem entry_in (k : Nat) (w : World) (hk : k < 111) :
    Calls Tryd.prog 13 #[.int .i64 (k : Int)] w fun e w' => e = .returned (.tuple #[.string (nm k), .string (fm k)]) ∧ Below w.heap.size w w' := by
  obtain ⟨f1, f2, f3, f4, f5, f6⟩ := st_facts ⟨k, hk⟩
  simp only at f1 f2 f3 f4 f5 f6
  have hl := tbl_len
  have h1 : ¬ (111 : Int) ≤ (k : Int) := by omega
  have F1 := Lib.hid f1
  have F2 := Lib.hid f2
  have F6 := Lib.hid f6
  have HL := Lib.hid hl
  have HN := Lib.hid (entry_name k hk)
  have HF := Lib.hid (entry_form k hk)
  clear f1 f2 f6 hl
  go_enter Tryd.func13, Tryd.ntmps13
  go_wp2
  go_loop [4, 5] (fun t n => ∃ i : Nat, i ≤ stp k ∧ t = .int .i64 i ∧ n = .int .i64 (cnt i)) (fun t _ => stp k - (intOf t).toNat)
  case atStart => exact ⟨0, by omega, rfl, rfl⟩
  case round =>
    obtain ⟨i, hi, rfl, rfl⟩ := hrel
    by_cases hlt : i < stp k
    · have hc := (cnt_lt hk i).2 hlt
      have hs := cnt_succ i (by rw [HL.out]; omega)
      obtain ⟨v, hv⟩ : ∃ v : Int, ((tblL.getD i 0).toNat : Int) = v := ⟨_, rfl⟩
      have hx := fun w => run_index_lit tblL i v (by rw [HL.out]; omega) hv w
      unfold tblL at hx
      by_cases h32 : tblL.getD i 0 = 32
      · rw [if_pos h32] at hs
        rw [h32] at hv
        have hv' : v = 32 := by rw [← hv]; rfl
        clear hv
        subst hv'
        have HS := Lib.hid hs
        clear hs h32
        go_wp2
        go_round
        case rel => exact ⟨i + 1, by omega, by go_num, by rw [HS.out]; go_num⟩
        case measure => simp [intOf]; omega
      · rw [if_neg h32] at hs
        have hv' : (v == 32) = false := by
          rw [← hv, beq_eq_false_iff_ne]
          intro e
          apply h32
          apply UInt8.toNat.inj
          exact (show (tblL.getD i 0).toNat = 32 by omega)
        clear hv
        have HS := Lib.hid hs
        clear hs h32
        go_wp2
        go_round
        case rel => exact ⟨i + 1, by omega, by go_num, by rw [HS.out]; go_num⟩
        case measure => simp [intOf]; omega
    · obtain rfl : i = stp k := by omega
      rw [F1.out]
      go_wp2
      go_loop [6] (fun t => ∃ i : Nat, stp k ≤ i ∧ i ≤ enp k ∧ t = .int .i64 i) (fun t => enp k - (intOf t).toNat)
      case atStart => exact ⟨stp k, by omega, by omega, rfl⟩
      case round =>
        obtain ⟨i, hi1, hi2, rfl⟩ := hrel
        obtain ⟨v, hv⟩ : ∃ v : Int, ((tblL.getD i 0).toNat : Int) = v := ⟨_, rfl⟩
        have hx := fun w => run_index_lit tblL i v (by rw [HL.out]; omega) hv w
        unfold tblL at hx
        by_cases hlt2 : i < enp k
        · have hne := not_sp hk i hi1 hlt2
          have hv' : (v == 32) = false := by
            rw [← hv, beq_eq_false_iff_ne]
            intro e
            apply hne
            apply UInt8.toNat.inj
            exact (show (tblL.getD i 0).toNat = 32 by omega)
          have hv2 : (v != 32) = true := by rw [bne, hv']; rfl
          clear hv hne
          go_wp2
          go_round
          case rel => exact ⟨i + 1, by omega, by omega, by go_num⟩
          case measure => simp [intOf]; omega
        · obtain rfl : i = enp k := by omega
          rw [F6.out] at hv
          have hv' : v = 32 := by rw [← hv]; rfl
          clear hv
          subst hv'
          have g1 : (0 : Int) ≤ (stp k : Int) := by omega
          have g2 : (stp k : Int) ≤ (enp k : Int) - 3 := by omega
          have g3 : (enp k : Int) - 3 ≤ 891 := by omega
          have g4 : (0 : Int) ≤ (enp k : Int) - 3 := by omega
          have g5 : (enp k : Int) - 3 ≤ (enp k : Int) := by omega
          have g6 : (enp k : Int) ≤ 891 := by omega
          go_wp2
          go_quiet (fail)
          go_wp2
          go_ret2
          exact ⟨ret_str2 HN.out HF.out, below_drewN' (Below.refl _ _) _⟩
end Go.Proofs.YtadkbcdopcehhaaDoor
