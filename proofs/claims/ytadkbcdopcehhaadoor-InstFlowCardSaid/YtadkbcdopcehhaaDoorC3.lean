/- The walks of the laws InstNames and InstLetters. -/
import Derived.Test.YtadkbcdopcehhaaDoorC1
import Derived.Test.YtadkbcdopcehhaaDoorA7
namespace Go.Proofs.YtadkbcdopcehhaaDoor
open Go.RowKit Mp

/-- What a law's walk carries from call to call. -/
structure Cy (w w1 : World) : Prop where
  below : Below w.heap.size w w1
  tab : SpTab w1
theorem Cy.refl {w : World} (h : SpTab w) : Cy w w := ⟨Below.refl _ _, h⟩
theorem Cy.next {w w1 w2 : World} (h : Cy w w1) (hb : Below w1.heap.size w1 w2) : Cy w w2 := ⟨Below.step h.below hb, spTab_of_blocks h.tab hb⟩
theorem Cy.alloc {w w1 : World} (h : Cy w w1) (o : Obj) : Cy w (w1.alloc o) := h.next ((Below.refl _ _).alloc (Nat.le_refl _) o)

/-- inst.Name, inst.Form. -/
def nameI (a : Int) : ByteArray := if 0 ≤ a ∧ a < 111 then nm a.toNat else ⟨#[]⟩
def formI (a : Int) : ByteArray := if 0 ≤ a ∧ a < 111 then ⟨#[frm 0 a, frm 1 a, frm 2 a]⟩ else ⟨#[]⟩
theorem name_calls (a : Int) (w : World) (ht : SpTab w) : Calls Tryd.prog 16 #[.int .i64 a] w fun e w' => e = .returned (.string (nameI a)) ∧ Below w.heap.size w w' := by
  unfold nameI
  by_cases h : 0 ≤ a ∧ a < 111
  · rw [if_pos h]
    have := name_in a.toNat w ht (by omega)
    rw [show ((a.toNat : Nat) : Int) = a by omega] at this
    exact this.mono fun e w' ⟨h1, h2⟩ => ⟨h1, h2 ▸ (Below.refl _ w).alloc (Nat.le_refl _) _⟩
  · rw [if_neg h]
    exact (name_out a w (by omega)).mono fun e w' ⟨h1, h2⟩ => ⟨h1, h2 ▸ Below.refl _ w⟩
theorem form_calls (a : Int) (w : World) : Calls Tryd.prog 17 #[.int .i64 a] w fun e w' => e = .returned (.string (formI a)) ∧ w = w' := by
  unfold formI
  by_cases h : 0 ≤ a ∧ a < 111
  · rw [if_pos h]; exact form_in a w h.1 h.2
  · rw [if_neg h]; exact form_out a w (by omega)
theorem entry_calls (a : Int) (w : World) : Calls Tryd.prog 13 #[.int .i64 a] w fun e w' => e = .returned (.tuple #[.string (nameI a), .string (formI a)]) ∧ Below w.heap.size w w' := by
  unfold nameI formI
  by_cases h : 0 ≤ a ∧ a < 111
  · rw [if_pos h, if_pos h]
    have := entry_in a.toNat w (by omega)
    unfold fm at this
    rw [show ((a.toNat : Nat) : Int) = a by omega] at this
    exact this
  · rw [if_neg h, if_neg h]; exact entry_out a w (by omega)

set_option maxHeartbeats 1000000 in
theorem law_names (a : Int) (s : ByteArray) (w : World) (ht : SpTab w) :
    Calls Tryd.prog 3 #[.int .i64 a, .string s] w fun e w' => e = .returned (.bool true) ∧ Below w.heap.size w w' := by
  have CX := Cy.refl ht
  clear ht
  by_cases hs : 40 < (s.size : Int)
  all_goals
    generalize hn : nameI a = n
    generalize hf : formI a = f
    generalize hi : (findI s).getD 0 = i
    generalize hb : (findI s).isSome = b
    have HN : Hid (∀ w, SpTab w → Calls Tryd.prog 16 #[.int .i64 a] w fun e w' => e = .returned (.string n) ∧ Below w.heap.size w w') := fun w ht => hn ▸ name_calls a w ht
    have HF : Hid (∀ w, Calls Tryd.prog 17 #[.int .i64 a] w fun e w' => e = .returned (.string f) ∧ w = w') := fun w => hf ▸ form_calls a w
    have HE : Hid (∀ w, Calls Tryd.prog 13 #[.int .i64 a] w fun e w' => e = .returned (.tuple #[.string n, .string f]) ∧ Below w.heap.size w w') := fun w => hn ▸ hf ▸ entry_calls a w
    have HI : Hid (∀ w, SpTab w → Calls Tryd.prog 14 #[.string s] w fun e w' => e = .returned (.tuple #[.int .i64 i, .bool b]) ∧ Below w.heap.size w w') := fun w ht => hi ▸ hb ▸ find_calls s w ht
    have HR : Hid (∀ w, Calls Tryd.prog 15 #[.string s] w fun e w' => e = .returned (.tuple #[.int .i64 i, .bool b]) ∧ Below w.heap.size w w') := fun w => hi ▸ hb ▸ rfind_calls s w
    clear hn hf hi hb
    go_enter Tryd.func3, Tryd.ntmps3
    go_wp2_with (first
      | (go_at_call 12; refine (awake_calls _ CX.tab).mono ?_; rintro e w1 ⟨rfl, hb⟩; replace CX := CX.next hb; clear hb)
      | (go_at_call 13; refine (HE.out _).mono ?_; rintro e w1 ⟨rfl, hb⟩; replace CX := CX.next hb; clear hb)
      | (go_at_call 14; refine (HI.out _ CX.tab).mono ?_; rintro e w1 ⟨rfl, hb⟩; replace CX := CX.next hb; clear hb)
      | (go_at_call 15; refine (HR.out _).mono ?_; rintro e w1 ⟨rfl, hb⟩; replace CX := CX.next hb; clear hb)
      | (go_at_call 16; refine (HN.out _ CX.tab).mono ?_; rintro e w1 ⟨rfl, hb⟩; replace CX := CX.next hb; clear hb)
      | (go_at_call 17; refine (HF.out _).mono ?_; rintro e w' ⟨rfl, rfl⟩))
    all_goals go_ret
    all_goals exact ⟨ret_bool (by simp), CX.below⟩
end Go.Proofs.YtadkbcdopcehhaaDoor
