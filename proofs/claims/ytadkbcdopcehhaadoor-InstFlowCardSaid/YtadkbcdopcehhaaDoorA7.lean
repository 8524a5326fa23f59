/- The contract of awake, the examples that each statement of the layer asks first. -/
import Derived.Test.YtadkbcdopcehhaaDoorA5
import Derived.Test.YtadkbcdopcehhaaDoorA6
namespace Go.Proofs.YtadkbcdopcehhaaDoor
open Go.RowKit Mp

theorem Below.step {w0 w w' : World} (h : Below w0.heap.size w0 w) (hb : Below w.heap.size w w') : Below w0.heap.size w0 w' := h.trans (hb.mono h.size)

theorem addw_nm : nm 14 = ⟨#[97, 100, 100, 119]⟩ := by
  have : (nm 14).data.toList = [97, 100, 100, 119] := by decide +kernel
  generalize nm 14 = x at *
  obtain ⟨⟨l⟩⟩ := x
  simp at this
  rw [this]
theorem find_addw (w : World) (ht : SpTab w) :
    Calls Tryd.prog 14 #[.string ⟨#[97, 100, 100, 119]⟩] w fun e w' => e = .returned (.tuple #[.int .i64 14, .bool true]) ∧ Below w.heap.size w w' := by
  have h := find_calls ⟨#[97, 100, 100, 119]⟩ w ht
  have e : findI ⟨#[97, 100, 100, 119]⟩ = some 14 := by
    unfold findI
    rw [← addw_nm, get_upto 111 (by omega) 14 (by omega)]
    rfl
  rw [e] at h
  exact h
theorem letter_Y (w : World) :
    Calls Tryd.prog 18 #[.int .u8 89] w fun e w' => e = .returned (.tuple #[.agg #[.int .i64 3, .bool true, .bool true, .bool false], .bool true]) ∧ Below w.heap.size w w' := by
  have h := letter_calls 89 w (by omega) (by omega)
  have e1 : letK 89 = 3 := by decide +kernel
  have e2 : letR 89 = true := by decide +kernel
  have e3 : letW 89 = true := by decide +kernel
  have e4 : letN 89 = false := by decide +kernel
  have e5 : letKn 89 = true := by decide +kernel
  rw [e1, e2, e3, e4, e5] at h
  exact h
theorem name_addw (w : World) (ht : SpTab w) :
    Calls Tryd.prog 16 #[.int .i64 14] w fun e w' => e = .returned (.string ⟨#[97, 100, 100, 119]⟩) ∧ Below w.heap.size w w' :=
  (name_in 14 w ht (by omega)).mono fun e w' ⟨h1, h2⟩ => by
    rw [addw_nm] at h1
    exact ⟨h1, h2 ▸ (Below.refl _ w).alloc (Nat.le_refl _) _⟩
theorem form_addw (w : World) : Calls Tryd.prog 17 #[.int .i64 14] w fun e w' => e = .returned (.string ⟨#[110, 110, 78]⟩) ∧ w = w' := by
  have h := form_in 14 w (by omega) (by omega)
  have e0 : frm 0 14 = 110 := by decide +kernel
  have e1 : frm 1 14 = 110 := by decide +kernel
  have e2 : frm 2 14 = 78 := by decide +kernel
  rw [e0, e1, e2] at h
  exact h
theorem check_addw (w : World) :
    Calls Tryd.prog 21 #[.agg #[.int .i64 14, .int .i64 0, .int .i64 0, .int .i64 0, .int .i64 0, .int .i64 0, .int .i64 0, .int .i64 0, .int .i64 0, .int .i64 0]] w
      fun e w' => e = .returned (.int .i64 20) ∧ Below w.heap.size w w' := by
  have h := check_in 14 0 0 0 0 0 0 0 0 0 w (by omega) (by omega)
  have e : firstNZ [opI 0 0 0 (frm 0 14), opI 0 0 0 (frm 1 14), opI 0 0 0 (frm 2 14)] = 20 := by decide +kernel
  rw [e] at h
  exact h
theorem ends_ret (w : World) : Calls Tryd.prog 31 #[.int .i64 102] w fun e w' => e = .returned (.bool true) ∧ w = w' := ends_calls 102 w

set_option maxHeartbeats 1000000 in
theorem awake_calls (w : World) (ht : SpTab w) :
    Calls Tryd.prog 12 #[] w fun e w' => e = .returned (.bool true) ∧ Below w.heap.size w w' := by
  have HT := Lib.hid ht
  clear ht
  go_enter Tryd.func12, Tryd.ntmps12
  go_wp2_with (first
    | (go_at_call 14; refine (find_addw _ HT.out).mono ?_; rintro e w1 ⟨rfl, hb⟩; have HB1 := Lib.hid hb; clear hb)
    | (go_at_call 18; refine (letter_Y _).mono ?_; rintro e w2 ⟨rfl, hb⟩; have HB2 := Lib.hid (Below.step HB1.out hb); clear hb)
    | (go_at_call 16; refine (name_addw _ (spTab_of_blocks HT.out (HB2.out.alloc HB2.out.size _))).mono ?_; rintro e w3 ⟨rfl, hb⟩; have HB3 := Lib.hid (Below.step (HB2.out.alloc HB2.out.size _) hb); obtain ⟨hc, hf⟩ := bcell hb; clear hb)
    | (go_at_call 17; refine (form_addw _).mono ?_; rintro e w' ⟨rfl, rfl⟩)
    | (go_at_call 21; refine (check_addw _).mono ?_; rintro e w4 ⟨rfl, hb⟩; have HB4 := Lib.hid (Below.step HB3.out hb); clear hb)
    | (go_at_call 31; refine (ends_ret _).mono ?_; rintro e w' ⟨rfl, rfl⟩))
  go_goals
  go_ret
  exact ⟨rfl, HB4.out⟩
end Go.Proofs.YtadkbcdopcehhaaDoor
