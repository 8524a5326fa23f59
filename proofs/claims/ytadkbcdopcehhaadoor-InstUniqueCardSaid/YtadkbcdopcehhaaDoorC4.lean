/- The walk of the law InstLetters. -/
import Derived.Test.YtadkbcdopcehhaaDoorC3
import Derived.Deep.RegionHeld3
namespace Go.Proofs.YtadkbcdopcehhaaDoor
open Go.RowKit Mp

theorem letters_no : ∀ c : Fin 256, letKn (c.val : Int) = false → kindRv (UInt8.ofNat c.val) = -1 ∧ letK (c.val : Int) = 0 ∧ letR (c.val : Int) = false ∧ letW (c.val : Int) = false ∧ letN (c.val : Int) = false := by decide +kernel
theorem letters_yes : ∀ c : Fin 256, letKn (c.val : Int) = true → 0 ≤ kindRv (UInt8.ofNat c.val) ∧ letK (c.val : Int) = kindRv (UInt8.ofNat c.val) ∧ letR (c.val : Int) = win (UInt8.ofNat c.val) usR ∧ letW (c.val : Int) = win (UInt8.ofNat c.val) usW ∧ letN (c.val : Int) = win (UInt8.ofNat c.val) usN := by decide +kernel

theorem Cy.drew {w w1 : World} (h : Cy w w1) : Cy w w1.drew := h.next (Below.refl _ _).drew

set_option maxHeartbeats 1000000 in
theorem law_letters_no (c : Int) (w : World) (ht : SpTab w)
    (hl : ∀ w, Calls Tryd.prog 18 #[.int .u8 c] w fun e w' => e = .returned (.tuple #[.agg #[.int .i64 0, .bool false, .bool false, .bool false], .bool false]) ∧ Below w.heap.size w w')
    (hk : ∀ w, Calls Tryd.prog 19 #[.int .u8 c] w fun e w' => e = .returned (.int .i64 (-1)) ∧ Below w.heap.size w w') :
    Calls Tryd.prog 4 #[.int .u8 c] w fun e w' => e = .returned (.bool true) ∧ Below w.heap.size w w' := by
  have CX := Cy.refl ht
  have HL := Lib.hid hl
  have HK := Lib.hid hk
  clear ht hl hk
  go_enter Tryd.func4, Tryd.ntmps4
  go_wp2_with (first
    | (go_at_call 18; refine (HL.out _).mono ?_; rintro e w1 ⟨rfl, hb⟩; replace CX := (CX.next hb).alloc (.cells #[.int .i64 0, .bool false, .bool false, .bool false] 30); clear hb)
    | (go_at_call 19; refine (HK.out _).mono ?_; rintro e w2 ⟨rfl, hb⟩; replace CX := CX.next hb; obtain ⟨hc, hf⟩ := bcell hb; have hz : w1.heap.size < w2.heap.size := (by have := hb.size; simp at this; omega); clear hb)
    | (go_at_call 12; refine (awake_calls _ CX.tab).mono ?_; rintro e w3 ⟨rfl, hb⟩; replace CX := CX.next hb; obtain ⟨hc3, hf3⟩ := bcell hb; clear hb))
  go_ret
  exact ⟨rfl, CX.below⟩

set_option maxHeartbeats 2000000 in
theorem law_letters_yes (c K : Int) (r x n : Bool) (w : World) (ht : SpTab w) (h0 : 0 ≤ K)
    (hl : ∀ w, Calls Tryd.prog 18 #[.int .u8 c] w fun e w' => e = .returned (.tuple #[.agg #[.int .i64 K, .bool r, .bool x, .bool n], .bool true]) ∧ Below w.heap.size w w')
    (hk : ∀ w, Calls Tryd.prog 19 #[.int .u8 c] w fun e w' => e = .returned (.int .i64 K) ∧ Below w.heap.size w w')
    (hu : ∀ w, Calls Tryd.prog 20 #[.int .u8 c] w fun e w' => e = .returned (.tuple #[.bool r, .bool x, .bool n]) ∧ w = w') :
    Calls Tryd.prog 4 #[.int .u8 c] w fun e w' => e = .returned (.bool true) ∧ Below w.heap.size w w' := by
  have CX := Cy.refl ht
  have HL := Lib.hid hl
  have HK := Lib.hid hk
  have HU := Lib.hid hu
  clear ht hl hk hu
  have hk0 : ¬ K < 0 := by omega
  go_enter Tryd.func4, Tryd.ntmps4
  go_wp2_with (first
    | (go_at_call 18; refine (HL.out _).mono ?_; rintro e w1 ⟨rfl, hb⟩; replace CX := (CX.next hb).alloc (.cells #[.int .i64 K, .bool r, .bool x, .bool n] 30); clear hb)
    | (go_at_call 19; refine (HK.out _).mono ?_; rintro e w2 ⟨rfl, hb⟩; replace CX := CX.next hb; obtain ⟨hc, hf⟩ := bcell hb; have hz : w1.heap.size < w2.heap.size := (by have := hb.size; simp at this; omega); clear hb)
    | (go_at_call 20; refine (HU.out _).mono ?_; rintro e w' ⟨rfl, rfl⟩))
  go_region_held3 (fun w' => w'.cell? ⟨w1.heap.size, 0, none⟩ = some (.int .i64 K) ∧ w'.cell? ⟨w1.heap.size, 1, none⟩ = some (.bool r) ∧ w'.cell? ⟨w1.heap.size, 2, none⟩ = some (.bool x) ∧ w'.cell? ⟨w1.heap.size, 3, none⟩ = some (.bool n) ∧ Cy w w')
    (((try go_split_ands); (repeat' apply And.intro) <;> first | exact keep3 hb (by assumption) | exact Cy.next (by assumption) hb | exact CX.drew | go_keep))
    (first
      | (go_at_call 12; refine (awake_calls _ (Cy.tab (by go_split_ands; assumption))).mono ?_; rintro e w3 ⟨rfl, hb⟩)
      | (go_at_call 19; refine (HK.out _).mono ?_; rintro e w3 ⟨rfl, hb⟩))
  all_goals go_wp2
  all_goals go_ret
  all_goals (go_split_ands; exact ⟨ret_bool (by simp), Cy.below (by assumption)⟩)

theorem law_letters (c : Int) (h0 : 0 ≤ c) (h1 : c ≤ 255) (w : World) (ht : SpTab w) :
    Calls Tryd.prog 4 #[.int .u8 c] w fun e w' => e = .returned (.bool true) ∧ Below w.heap.size w w' := by
  have hcn : ((c.toNat : Nat) : Int) = c := by omega
  have hu8 : ((UInt8.ofNat c.toNat).toNat : Int) = c := by
    have : (UInt8.ofNat c.toNat).toNat = c.toNat := UInt8.toNat_ofNat_of_lt' (by simp only [UInt8.size]; omega)
    omega
  have HL := fun w => letter_calls c w h0 h1
  have HK := fun w => rkind_calls (UInt8.ofNat c.toNat) w
  have HU := fun w => uses_calls (UInt8.ofNat c.toNat) w
  rw [hu8] at HK HU
  cases hk : letKn c with
  | false =>
    obtain ⟨e1, e2, e3, e4, e5⟩ := letters_no ⟨c.toNat, by omega⟩ (by rw [hcn]; exact hk)
    simp only [hcn] at e1 e2 e3 e4 e5
    rw [hk, e2, e3, e4, e5] at HL
    rw [e1] at HK
    exact law_letters_no c w ht HL HK
  | true =>
    obtain ⟨e0, e2, e3, e4, e5⟩ := letters_yes ⟨c.toNat, by omega⟩ (by rw [hcn]; exact hk)
    simp only [hcn] at e0 e2 e3 e4 e5
    rw [hk, e2, e3, e4, e5] at HL
    exact law_letters_yes c _ _ _ _ w ht e0 HL HK HU
end Go.Proofs.YtadkbcdopcehhaaDoor
