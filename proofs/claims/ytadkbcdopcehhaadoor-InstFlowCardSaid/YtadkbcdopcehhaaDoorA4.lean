/- Contracts of inst.first, inst.Check, inst.Name. -/
import Derived.Test.YtadkbcdopcehhaaDoorA3
import Derived.Deep.RegionHeld3
namespace Go.Proofs.YtadkbcdopcehhaaDoor
open Go.RowKit

def firstNZ : List Int → Int
  | [] => 0
  | x :: l => if x = 0 then firstNZ l else x
theorem firstNZ_skip (zs : List Int) : ∀ k, (∀ j, j < k → zs.getD j 0 = 0) → firstNZ zs = firstNZ (zs.drop k) := by
  induction zs with
  | nil => intro k _; simp
  | cons x l ih =>
    intro k h
    cases k with
    | zero => rfl
    | succ k =>
      have h0 := h 0 (by omega)
      simp at h0
      subst h0
      simp only [firstNZ, if_true, List.drop_succ_cons]
      exact ih k fun j hj => by have := h (j + 1) (by omega); simpa using this
theorem first_calls (b n c : Nat) (zs : List Int) (w : World) (hn : zs.length = n) (hbig : n ≤ 9223372036854775807) (hc : ∀ j, j < n → w.cell? ⟨b, j, none⟩ = some (.int .i64 (zs.getD j 0))) :
    Calls Tryd.prog 38 #[.slice (some ⟨b, 0, none⟩) n c] w fun e w' => e = .returned (.int .i64 (firstNZ zs)) ∧ w = w' := by
  have HC := Lib.hid hc
  clear hc
  go_enter Tryd.func38, Tryd.ntmps38
  go_wp2
  go_loop [4, 7] (fun t i => ∃ k : Nat, k ≤ n ∧ i = .int .i64 k ∧ Hid (∀ j, j < k → zs.getD j 0 = 0)) (fun _ i => n - (intOf i).toNat)
  case atStart => exact ⟨0, Nat.zero_le _, rfl, fun j hj => by omega⟩
  case round =>
    obtain ⟨k, hk, rfl, hz⟩ := hrel
    by_cases hlt : k < n
    · have hcell := HC.out k hlt
      by_cases h0 : zs.getD k 0 = 0
      · rw [h0] at hcell
        have H0 := Lib.hid h0
        clear h0
        go_wp2
        go_round
        case rel => exact ⟨k + 1, by omega, by go_num, fun j hj => by
          by_cases e : j = k
          · subst e; exact H0.out
          · exact hz.out j (by omega)⟩
        case measure => simp [intOf]; omega
      · have hd : firstNZ zs = zs.getD k 0 := by
          rw [firstNZ_skip zs k hz.out, List.drop_eq_getElem_cons (by omega)]
          have e : zs[k] = zs.getD k 0 := by simp [List.getD, List.getElem?_eq_getElem (show k < zs.length by omega)]
          rw [e, firstNZ, if_neg h0]
        have HD := Lib.hid hd
        clear hd
        generalize zs.getD k 0 = v at *
        have hv : (v != 0) = true := by simpa using h0
        go_wp2
        all_goals (go_ret; exact ⟨ret_int HD.out.symm, rfl⟩)
    · have hd : firstNZ zs = 0 := by
        rw [firstNZ_skip zs k hz.out, List.drop_of_length_le (by omega)]
        rfl
      have HD := Lib.hid hd
      clear hd
      go_wp2
      all_goals (go_ret; exact ⟨ret_int HD.out.symm, rfl⟩)

def namesB : List UInt8 := [110, 111, 112, 32, 109, 111, 118, 32, 109, 111, 118, 112, 32, 109, 111, 118, 109, 32, 97, 100, 100, 98, 32, 115, 117, 98, 98, 32, 109, 117, 108, 98, 32, 100, 105, 118, 98, 32, 109, 111, 100, 98, 32, 97, 110, 100, 98, 32, 111, 114, 98, 32, 120, 111, 114, 98, 32, 115, 104, 108, 98, 32, 115, 104, 114, 98, 32, 97, 100, 100, 119, 32, 115, 117, 98, 119, 32, 109, 117, 108, 119, 32, 100, 105, 118, 119, 32, 109, 111, 100, 119, 32, 97, 110, 100, 119, 32, 111, 114, 119, 32, 120, 111, 114, 119, 32, 115, 104, 108, 119, 32, 115, 104, 114, 119, 32, 97, 100, 100, 108, 32, 115, 117, 98, 108, 32, 109, 117, 108, 108, 32, 100, 105, 118, 108, 32, 109, 111, 100, 108, 32, 97, 110, 100, 108, 32, 111, 114, 108, 32, 120, 111, 114, 108, 32, 115, 104, 108, 108, 32, 115, 104, 114, 108, 32, 97, 100, 100, 102, 32, 115, 117, 98, 102, 32, 109, 117, 108, 102, 32, 100, 105, 118, 102, 32, 110, 101, 103, 102, 32, 99, 118, 116, 98, 32, 99, 118, 116, 119, 32, 99, 118, 116, 119, 102, 32, 99, 118, 116, 102, 119, 32, 99, 118, 116, 102, 108, 32, 99, 118, 116, 108, 99, 32, 99, 118, 116, 102, 99, 32, 99, 118, 116, 99, 119, 32, 99, 118, 116, 99, 108, 32, 99, 118, 116, 99, 102, 32, 99, 118, 116, 99, 97, 32, 99, 118, 116, 97, 99, 32, 98, 101, 113, 32, 98, 110, 101, 32, 98, 108, 116, 32, 98, 108, 101, 32, 98, 103, 116, 32, 98, 103, 101, 32, 98, 101, 113, 102, 32, 98, 110, 101, 102, 32, 98, 108, 116, 102, 32, 98, 108, 101, 102, 32, 98, 103, 116, 102, 32, 98, 103, 101, 102, 32, 98, 101, 113, 99, 32, 98, 110, 101, 99, 32, 98, 108, 116, 99, 32, 98, 108, 101, 99, 32, 98, 103, 116, 99, 32, 98, 103, 101, 99, 32, 98, 101, 113, 112, 32, 98, 110, 101, 112, 32, 106, 109, 112, 32, 99, 97, 115, 101, 32, 99, 97, 115, 101, 99, 32, 97, 100, 100, 99, 32, 108, 101, 110, 99, 32, 105, 110, 100, 99, 32, 105, 110, 115, 99, 32, 115, 108, 105, 99, 101, 99, 32, 110, 101, 119, 97, 32, 108, 101, 110, 97, 32, 103, 101, 116, 32, 112, 117, 116, 32, 115, 108, 105, 99, 101, 97, 32, 99, 111, 112, 121, 97, 32, 99, 111, 110, 115, 32, 104, 101, 97, 100, 32, 116, 97, 105, 108, 32, 108, 101, 110, 108, 32, 110, 101, 119, 32, 97, 114, 109, 32, 110, 101, 119, 99, 32, 115, 101, 110, 100, 32, 114, 101, 99, 118, 32, 97, 108, 116, 32, 102, 114, 97, 109, 101, 32, 102, 114, 97, 109, 101, 109, 32, 97, 114, 103, 32, 99, 97, 108, 108, 32, 99, 97, 108, 108, 109, 32, 115, 112, 97, 119, 110, 32, 115, 112, 97, 119, 110, 109, 32, 114, 101, 116, 32, 114, 101, 115, 32, 108, 111, 97, 100, 32, 114, 97, 105, 115, 101, 32, 101, 120, 105, 116, 32, 116, 105, 99, 107, 32, 112, 114, 105, 110, 116, 32, 115, 121, 115, 32, 112, 105, 100]
def namesL : List (List UInt8) := [[110, 111, 112], [109, 111, 118], [109, 111, 118, 112], [109, 111, 118, 109], [97, 100, 100, 98], [115, 117, 98, 98], [109, 117, 108, 98], [100, 105, 118, 98], [109, 111, 100, 98], [97, 110, 100, 98], [111, 114, 98], [120, 111, 114, 98], [115, 104, 108, 98], [115, 104, 114, 98], [97, 100, 100, 119], [115, 117, 98, 119], [109, 117, 108, 119], [100, 105, 118, 119], [109, 111, 100, 119], [97, 110, 100, 119], [111, 114, 119], [120, 111, 114, 119], [115, 104, 108, 119], [115, 104, 114, 119], [97, 100, 100, 108], [115, 117, 98, 108], [109, 117, 108, 108], [100, 105, 118, 108], [109, 111, 100, 108], [97, 110, 100, 108], [111, 114, 108], [120, 111, 114, 108], [115, 104, 108, 108], [115, 104, 114, 108], [97, 100, 100, 102], [115, 117, 98, 102], [109, 117, 108, 102], [100, 105, 118, 102], [110, 101, 103, 102], [99, 118, 116, 98], [99, 118, 116, 119], [99, 118, 116, 119, 102], [99, 118, 116, 102, 119], [99, 118, 116, 102, 108], [99, 118, 116, 108, 99], [99, 118, 116, 102, 99], [99, 118, 116, 99, 119], [99, 118, 116, 99, 108], [99, 118, 116, 99, 102], [99, 118, 116, 99, 97], [99, 118, 116, 97, 99], [98, 101, 113], [98, 110, 101], [98, 108, 116], [98, 108, 101], [98, 103, 116], [98, 103, 101], [98, 101, 113, 102], [98, 110, 101, 102], [98, 108, 116, 102], [98, 108, 101, 102], [98, 103, 116, 102], [98, 103, 101, 102], [98, 101, 113, 99], [98, 110, 101, 99], [98, 108, 116, 99], [98, 108, 101, 99], [98, 103, 116, 99], [98, 103, 101, 99], [98, 101, 113, 112], [98, 110, 101, 112], [106, 109, 112], [99, 97, 115, 101], [99, 97, 115, 101, 99], [97, 100, 100, 99], [108, 101, 110, 99], [105, 110, 100, 99], [105, 110, 115, 99], [115, 108, 105, 99, 101, 99], [110, 101, 119, 97], [108, 101, 110, 97], [103, 101, 116], [112, 117, 116], [115, 108, 105, 99, 101, 97], [99, 111, 112, 121, 97], [99, 111, 110, 115], [104, 101, 97, 100], [116, 97, 105, 108], [108, 101, 110, 108], [110, 101, 119], [97, 114, 109], [110, 101, 119, 99], [115, 101, 110, 100], [114, 101, 99, 118], [97, 108, 116], [102, 114, 97, 109, 101], [102, 114, 97, 109, 101, 109], [97, 114, 103], [99, 97, 108, 108], [99, 97, 108, 108, 109], [115, 112, 97, 119, 110], [115, 112, 97, 119, 110, 109], [114, 101, 116], [114, 101, 115], [108, 111, 97, 100], [114, 97, 105, 115, 101], [101, 120, 105, 116], [116, 105, 99, 107], [112, 114, 105, 110, 116], [115, 121, 115], [112, 105, 100]]
def nm (k : Nat) : ByteArray := ⟨(namesL.getD k []).toArray⟩
def namesC : Array Value := (namesL.map fun l => Value.string ⟨l.toArray⟩).toArray
theorem fields_names : Lib.fields namesB = namesL := by decide +kernel
theorem names_len : namesL.length = 111 := by decide +kernel
theorem namesC_at (k : Nat) (h : k < 111) : namesC[k]? = some (.string (nm k)) := by
  have := names_len
  simp [namesC, nm, List.getD, List.getElem?_eq_getElem (show k < namesL.length by omega)]
abbrev SpTab (w : World) : Prop := Lib.TabIs Tryd.prog w "strings.asciiSpace" .u8 Lib.asciiSpaceTab
theorem ascii_names : ∀ (j : Nat) (b : UInt8), namesB[j]? = some b → b.toNat < 128 := by
  have h : namesB.all (fun b => b.toNat < 128) = true := by decide +kernel
  intro j b hb
  simpa using List.all_eq_true.1 h b (List.mem_of_getElem? hb)
theorem fields_calls (w : World) (ht : SpTab w) :
    Calls Tryd.prog 33 #[.string ⟨namesB.toArray⟩] w fun e w' => e = .returned (.slice (some ⟨w.heap.size, 0, none⟩) 111 111) ∧ w' = w.alloc (.cells namesC 9) :=
  (Tryd.strings_Fields ⟨namesB.toArray⟩ w (by decide +kernel) (by simpa using ascii_names) ht).mono fun e w' ⟨h1, h2⟩ => by
    have e1 : Lib.fields (⟨namesB.toArray⟩ : ByteArray).data.toList = namesL := fields_names
    rw [e1] at h1 h2
    rw [names_len] at h1
    exact ⟨h1, h2⟩
set_option maxRecDepth 100000 in
set_option maxHeartbeats 400000 in
theorem name_in (k : Nat) (w : World) (ht : SpTab w) (h : k < 111) :
    Calls Tryd.prog 16 #[.int .i64 (k : Int)] w fun e w' => e = .returned (.string (nm k)) ∧ w' = w.alloc (.cells namesC 9) := by
  have HT := Lib.hid ht
  clear ht
  have hc := namesC_at k h
  have h1 : ¬ (111 : Int) ≤ (k : Int) := by omega
  have h2 : (k : Int) < 111 := by omega
  go_enter Tryd.func16, Tryd.ntmps16
  go_wp2_with (go_at_call 33; refine (fields_calls _ HT.out).mono ?_; rintro e w' ⟨rfl, rfl⟩)
  all_goals (go_ret; exact ⟨rfl, rfl⟩)
theorem name_out (a : Int) (w : World) (h : a < 0 ∨ 111 ≤ a) : Calls Tryd.prog 16 #[.int .i64 a] w fun e w' => e = .returned (.string ⟨#[]⟩) ∧ w = w' := by
  rcases h with h | h
  · go_enter Tryd.func16, Tryd.ntmps16
    go_wp2
    all_goals (go_ret; exact ⟨rfl, rfl⟩)
  · go_enter Tryd.func16, Tryd.ntmps16
    go_wp2
    all_goals (go_ret; exact ⟨rfl, rfl⟩)
end Go.Proofs.YtadkbcdopcehhaaDoor
