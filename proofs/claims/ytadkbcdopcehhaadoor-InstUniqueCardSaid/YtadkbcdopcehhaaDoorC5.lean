/- The walks of the laws InstUnique and InstAlike. -/
import Derived.Test.YtadkbcdopcehhaaDoorC4
namespace Go.Proofs.YtadkbcdopcehhaaDoor
open Go.RowKit Mp

theorem nm_ne : ∀ k : Fin 111, nm k.val ≠ ⟨#[]⟩ := by
  have h : ∀ k : Fin 111, (namesL.getD k.val []).isEmpty = false := by decide +kernel
  intro k e
  have : (nm k.val).data.toList = [] := by rw [e]
  have h2 := h k
  simp only [nm] at this
  rw [this] at h2
  exact absurd h2 (by decide)
theorem nameI_inj (k : Nat) (hk : k < 111) (b : Int) (h : nameI b = nm k) : b = k := by
  unfold nameI at h
  split at h
  · rename_i hb
    have := nm_inj ⟨b.toNat, by omega⟩ ⟨k, hk⟩ h
    simp at this
    omega
  · exact absurd h.symm (nm_ne ⟨k, hk⟩)
theorem nameI_out (a : Int) (h : a < 0 ∨ 111 ≤ a) : nameI a = ⟨#[]⟩ := by unfold nameI; rw [if_neg (by omega)]
theorem formI_out (a : Int) (h : a < 0 ∨ 111 ≤ a) : formI a = ⟨#[]⟩ := by unfold formI; rw [if_neg (by omega)]

set_option maxHeartbeats 1000000 in
theorem law_unique_out (a b : Int) (w : World) (ht : SpTab w) (h : a < 0 ∨ 111 ≤ a) :
    Calls Tryd.prog 6 #[.int .i64 a, .int .i64 b] w fun e w' => e = .returned (.bool true) ∧ Below w.heap.size w w' := by
  have CX := Cy.refl ht
  have HN : Hid (∀ w, SpTab w → Calls Tryd.prog 16 #[.int .i64 a] w fun e w' => e = .returned (.string ⟨#[]⟩) ∧ Below w.heap.size w w') := fun w ht => nameI_out a h ▸ name_calls a w ht
  have HF : Hid (∀ w, Calls Tryd.prog 17 #[.int .i64 a] w fun e w' => e = .returned (.string ⟨#[]⟩) ∧ w = w') := fun w => formI_out a h ▸ form_calls a w
  clear ht
  rcases h with h | h
  all_goals
    go_enter Tryd.func6, Tryd.ntmps6
    go_wp2_with (first
      | (go_at_call 12; refine (awake_calls _ CX.tab).mono ?_; rintro e w1 ⟨rfl, hb⟩; replace CX := CX.next hb; clear hb)
      | (go_at_call 16; refine (HN.out _ CX.tab).mono ?_; rintro e w1 ⟨rfl, hb⟩; replace CX := CX.next hb; clear hb)
      | (go_at_call 17; refine (HF.out _).mono ?_; rintro e w' ⟨rfl, rfl⟩))
    all_goals go_ret
    all_goals exact ⟨rfl, CX.below⟩

set_option maxHeartbeats 2000000 in
theorem law_unique_in (k : Nat) (b : Int) (w : World) (ht : SpTab w) (hk : k < 111) :
    Calls Tryd.prog 6 #[.int .i64 (k : Int), .int .i64 b] w fun e w' => e = .returned (.bool true) ∧ Below w.heap.size w w' := by
  have CX := Cy.refl ht
  clear ht
  have hne : nm k ≠ ⟨#[]⟩ := nm_ne ⟨k, hk⟩
  have hN : ∀ w, SpTab w → Calls Tryd.prog 16 #[.int .i64 (k : Int)] w fun e w' => e = .returned (.string (nm k)) ∧ Below w.heap.size w w' := fun w ht => by
    have := name_calls (k : Int) w ht
    rwa [nameI, if_pos (by omega), show (k : Int).toNat = k by omega] at this
  have hB := fun w ht => name_calls b w ht
  have hF : ∀ w, Calls Tryd.prog 17 #[.int .i64 (k : Int)] w fun e w' => e = .returned (.string ⟨#[frm 0 (k : Int), frm 1 (k : Int), frm 2 (k : Int)]⟩) ∧ w = w' := fun w => form_in k w (by omega) (by omega)
  have hI : ∀ w, SpTab w → Calls Tryd.prog 14 #[.string (nm k)] w fun e w' => e = .returned (.tuple #[.int .i64 (k : Int), .bool true]) ∧ Below w.heap.size w w' := fun w ht => by
    have := find_calls (nm k) w ht
    rw [show findI (nm k) = some (k : Int) by unfold findI; rw [get_upto 111 (by omega) k hk, if_pos hk]] at this
    exact this
  have hL : ∀ i : Fin 3, letKn ((frm i.val (k : Int)).toNat : Int) = true := forms_known ⟨k, hk⟩
  have hL0 := hL 0
  have hL1 := hL 1
  have hL2 := hL 2
  have hdiff : (k : Int) = b ∨ ((k : Int) ≠ b ∧ nameI b ≠ nm k) := by
    by_cases e : (k : Int) = b
    · exact .inl e
    · exact .inr ⟨e, fun h => e (nameI_inj k hk b h).symm⟩
  clear hL
  change letKn ((frm 0 (k : Int)).toNat : Int) = true at hL0
  change letKn ((frm 1 (k : Int)).toNat : Int) = true at hL1
  change letKn ((frm 2 (k : Int)).toNat : Int) = true at hL2
  generalize frm 0 (k : Int) = x at *
  generalize frm 1 (k : Int) = y at *
  generalize frm 2 (k : Int) = z at *
  generalize nm k = s at *
  generalize nameI b = t at *
  have HN := Lib.hid hN
  have HB := Lib.hid hB
  have HF := Lib.hid hF
  have HI := Lib.hid hI
  have HL0 := Lib.hid hL0
  have HL1 := Lib.hid hL1
  have HL2 := Lib.hid hL2
  have hse : (s.toList == (⟨#[]⟩ : ByteArray).toList) = false := str_ne hne
  have hse2 : s.toList.isEmpty = false := by
    cases hl : s.toList with
    | nil => rw [hl, ByteArray.toList_eq] at hse; exact absurd hse (by simp)
    | cons _ _ => rfl
  clear hN hB hF hI hL0 hL1 hL2 hne
  have h1 : ¬ (111 : Int) ≤ (k : Int) := by omega
  rcases hdiff with h | ⟨h, hst⟩
  · subst h
    clear HB
    have t1 : True := trivial
    go_enter Tryd.func6, Tryd.ntmps6
    go_wp2_with (first
      | (go_at_call 12; refine (awake_calls _ CX.tab).mono ?_; rintro e w1 ⟨rfl, hb⟩; replace CX := CX.next hb; clear hb)
      | (go_at_call 14; refine (HI.out _ CX.tab).mono ?_; rintro e w1 ⟨rfl, hb⟩; replace CX := CX.next hb; clear hb)
      | (go_at_call 16; have _t := t1; refine (HN.out _ CX.tab).mono ?_; rintro e w1 ⟨rfl, hb⟩; replace CX := CX.next hb; clear hb t1)
      | (go_at_call 17; refine (HF.out _).mono ?_; rintro e w' ⟨rfl, rfl⟩))
    have CX := Lib.hid CX
    go_loopw [9] (fun i wr => ∃ j : Nat, j ≤ 3 ∧ i = .int .i64 j ∧ Hid (Cy w wr)) (fun i _ => 3 - (intOf i).toNat)
    case atStart => exact ⟨0, by omega, rfl, CX⟩
    case round =>
      obtain ⟨j, hj, rfl, hC⟩ := hrel
      by_cases hlt : j < 3
      · obtain ⟨v, hv, hkn⟩ : ∃ v : UInt8, [x, y, z].getD j 0 = v ∧ letKn (v.toNat : Int) = true := by
          have : j = 0 ∨ j = 1 ∨ j = 2 := by omega
          rcases this with rfl | rfl | rfl
          · exact ⟨x, rfl, HL0.out⟩
          · exact ⟨y, rfl, HL1.out⟩
          · exact ⟨z, rfl, HL2.out⟩
        have hx := fun w => run_index_lit [x, y, z] j (v.toNat : Int) (by simpa using hlt) (by rw [hv]) w
        have hLt := fun w => letter_calls v.toNat w (by omega) (by have := v.toNat_lt; omega)
        rw [hkn] at hLt
        have HLT := Lib.hid hLt
        clear hLt hv hkn
        have g0 : (0 : Int) ≤ (j : Int) := by omega
        have g1 : (j : Int) < 3 := by omega
        go_wp2_with (go_at_call 18; refine (HLT.out _).mono ?_; rintro e w1 ⟨rfl, hb⟩; have HC1 := Lib.hid (hC.out.next hb); clear hb)
        go_roundw
        case rel => exact ⟨j + 1, by omega, by go_num, Lib.hid (HC1.out.alloc _)⟩
        case measure => simp [intOf]; omega
      · obtain rfl : j = 3 := by omega
        go_wp2
        go_ret
        exact ⟨rfl, hC.out.below⟩
  · have hkb : ((k : Int) != b) = true := by simpa using h
    have hts := str_ne hst
    clear h hst
    have t1 : True := trivial
    go_enter Tryd.func6, Tryd.ntmps6
    go_wp2_with (first
      | (go_at_call 12; refine (awake_calls _ CX.tab).mono ?_; rintro e w1 ⟨rfl, hb⟩; replace CX := CX.next hb; clear hb)
      | (go_at_call 14; refine (HI.out _ CX.tab).mono ?_; rintro e w1 ⟨rfl, hb⟩; replace CX := CX.next hb; clear hb)
      | (go_at_call 16; have _t := t1; refine (HN.out _ CX.tab).mono ?_; rintro e w1 ⟨rfl, hb⟩; replace CX := CX.next hb; clear hb t1)
      | (go_at_call 16; refine (HB.out _ CX.tab).mono ?_; rintro e w1 ⟨rfl, hb⟩; replace CX := CX.next hb; clear hb)
      | (go_at_call 17; refine (HF.out _).mono ?_; rintro e w' ⟨rfl, rfl⟩))
    have CX := Lib.hid CX
    go_loopw [9] (fun i wr => ∃ j : Nat, j ≤ 3 ∧ i = .int .i64 j ∧ Hid (Cy w wr)) (fun i _ => 3 - (intOf i).toNat)
    case atStart => exact ⟨0, by omega, rfl, CX⟩
    case round =>
      obtain ⟨j, hj, rfl, hC⟩ := hrel
      by_cases hlt : j < 3
      · obtain ⟨v, hv, hkn⟩ : ∃ v : UInt8, [x, y, z].getD j 0 = v ∧ letKn (v.toNat : Int) = true := by
          have : j = 0 ∨ j = 1 ∨ j = 2 := by omega
          rcases this with rfl | rfl | rfl
          · exact ⟨x, rfl, HL0.out⟩
          · exact ⟨y, rfl, HL1.out⟩
          · exact ⟨z, rfl, HL2.out⟩
        have hx := fun w => run_index_lit [x, y, z] j (v.toNat : Int) (by simpa using hlt) (by rw [hv]) w
        have hLt := fun w => letter_calls v.toNat w (by omega) (by have := v.toNat_lt; omega)
        rw [hkn] at hLt
        have HLT := Lib.hid hLt
        clear hLt hv hkn
        have g0 : (0 : Int) ≤ (j : Int) := by omega
        have g1 : (j : Int) < 3 := by omega
        go_wp2_with (go_at_call 18; refine (HLT.out _).mono ?_; rintro e w1 ⟨rfl, hb⟩; have HC1 := Lib.hid (hC.out.next hb); clear hb)
        go_roundw
        case rel => exact ⟨j + 1, by omega, by go_num, Lib.hid (HC1.out.alloc _)⟩
        case measure => simp [intOf]; omega
      · obtain rfl : j = 3 := by omega
        go_wp2
        go_ret
        exact ⟨rfl, hC.out.below⟩

theorem law_unique (a b : Int) (w : World) (ht : SpTab w) : Calls Tryd.prog 6 #[.int .i64 a, .int .i64 b] w fun e w' => e = .returned (.bool true) ∧ Below w.heap.size w w' := by
  by_cases h : a < 0 ∨ 111 ≤ a
  · exact law_unique_out a b w ht h
  · have := law_unique_in a.toNat b w ht (by omega)
    rwa [show ((a.toNat : Nat) : Int) = a by omega] at this
end Go.Proofs.YtadkbcdopcehhaaDoor
