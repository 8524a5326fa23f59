/- The contracts of the reference's Ends and Next. -/
import Derived.Test.YtadkbcdopcehhaaDoorE10
namespace Go.Proofs.YtadkbcdopcehhaaDoor
open Go.RowKit

def e6 (s : ByteArray) : Bool := (s.toList == ([106, 109, 112] : List UInt8)) || (s.toList == ([99, 97, 115, 101] : List UInt8)) || (s.toList == ([99, 97, 115, 101, 99] : List UInt8)) || (s.toList == ([114, 101, 116] : List UInt8)) || (s.toList == ([114, 97, 105, 115, 101] : List UInt8)) || (s.toList == ([101, 120, 105, 116] : List UInt8))
theorem e6_in : ∀ k : Fin 111, e6 (nm k.val) = endsI (k.val : Int) := by decide +kernel
theorem e6_name (a : Int) : e6 (nameI a) = endsI a := by
  unfold nameI
  by_cases h : 0 ≤ a ∧ a < 111
  · rw [if_pos h]
    have := e6_in ⟨a.toNat, by omega⟩
    rw [this, show ((a.toNat : Nat) : Int) = a by omega]
  · rw [if_neg h, show e6 ⟨#[]⟩ = false by decide +kernel]
    unfold endsI
    have h1 : ¬ a = 71 := by omega
    have h2 : ¬ a = 72 := by omega
    have h3 : ¬ a = 73 := by omega
    have h4 : ¬ a = 102 := by omega
    have h5 : ¬ a = 105 := by omega
    have h6 : ¬ a = 106 := by omega
    simp [h1, h2, h3, h4, h5, h6]
theorem rends_calls (a : Int) (w : World) : Calls Tryd.prog 32 #[.int .i64 a] w fun e w' => e = .returned (.bool (endsI a)) ∧ Below w.heap.size w w' := by
  rw [← e6_name]
  have HE := Lib.hid (fun w => entry_calls a w)
  generalize nameI a = s at *
  generalize formI a = f at *
  have HR : Hid (e6 s = ((s.toList == ([106, 109, 112] : List UInt8)) || (s.toList == ([99, 97, 115, 101] : List UInt8)) || (s.toList == ([99, 97, 115, 101, 99] : List UInt8)) || (s.toList == ([114, 101, 116] : List UInt8)) || (s.toList == ([114, 97, 105, 115, 101] : List UInt8)) || (s.toList == ([101, 120, 105, 116] : List UInt8)))) := Lib.hid rfl
  cases h1 : (s.toList == ([106, 109, 112] : List UInt8))
  · cases h2 : (s.toList == ([99, 97, 115, 101] : List UInt8))
    · cases h3 : (s.toList == ([99, 97, 115, 101, 99] : List UInt8))
      · cases h4 : (s.toList == ([114, 101, 116] : List UInt8))
        · cases h5 : (s.toList == ([114, 97, 105, 115, 101] : List UInt8))
          · cases h6 : (s.toList == ([101, 120, 105, 116] : List UInt8))
            · go_enter Tryd.func32, Tryd.ntmps32
              go_wp2_with (go_at_call 13; refine (HE.out _).mono ?_; rintro e w1 ⟨rfl, hb⟩; have HB := Lib.hid hb; clear hb)
              go_ret
              rw [HR.out]
              exact ⟨ret_bool (by simp [h1, h2, h3, h4, h5, h6]), HB.out⟩
            · go_enter Tryd.func32, Tryd.ntmps32
              go_wp2_with (go_at_call 13; refine (HE.out _).mono ?_; rintro e w1 ⟨rfl, hb⟩; have HB := Lib.hid hb; clear hb)
              go_ret
              rw [HR.out]
              exact ⟨ret_bool (by simp [h1, h2, h3, h4, h5, h6]), HB.out⟩
          · go_enter Tryd.func32, Tryd.ntmps32
            go_wp2_with (go_at_call 13; refine (HE.out _).mono ?_; rintro e w1 ⟨rfl, hb⟩; have HB := Lib.hid hb; clear hb)
            go_ret
            rw [HR.out]
            exact ⟨ret_bool (by simp [h1, h2, h3, h4, h5]), HB.out⟩
        · go_enter Tryd.func32, Tryd.ntmps32
          go_wp2_with (go_at_call 13; refine (HE.out _).mono ?_; rintro e w1 ⟨rfl, hb⟩; have HB := Lib.hid hb; clear hb)
          go_ret
          rw [HR.out]
          exact ⟨ret_bool (by simp [h1, h2, h3, h4]), HB.out⟩
      · go_enter Tryd.func32, Tryd.ntmps32
        go_wp2_with (go_at_call 13; refine (HE.out _).mono ?_; rintro e w1 ⟨rfl, hb⟩; have HB := Lib.hid hb; clear hb)
        go_ret
        rw [HR.out]
        exact ⟨ret_bool (by simp [h1, h2, h3]), HB.out⟩
    · go_enter Tryd.func32, Tryd.ntmps32
      go_wp2_with (go_at_call 13; refine (HE.out _).mono ?_; rintro e w1 ⟨rfl, hb⟩; have HB := Lib.hid hb; clear hb)
      go_ret
      rw [HR.out]
      exact ⟨ret_bool (by simp [h1, h2]), HB.out⟩
  · go_enter Tryd.func32, Tryd.ntmps32
    go_wp2_with (go_at_call 13; refine (HE.out _).mono ?_; rintro e w1 ⟨rfl, hb⟩; have HB := Lib.hid hb; clear hb)
    go_ret
    rw [HR.out]
    exact ⟨ret_bool (by simp [h1]), HB.out⟩
end Go.Proofs.YtadkbcdopcehhaaDoor
