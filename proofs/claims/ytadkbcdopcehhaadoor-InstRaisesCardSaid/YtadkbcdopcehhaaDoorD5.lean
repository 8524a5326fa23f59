/- The law InstRaises. -/
import Derived.Test.YtadkbcdopcehhaaDoorD4
import Derived.BigQuiet
namespace Go.Proofs.YtadkbcdopcehhaaDoor
open Go.RowKit Mp

theorem Below.dn {B : Nat} {a w : World} (h : Below B a w) (n : Nat) : Below B a (w.drewN n) := h.trans ⟨rfl, rfl, rfl, Nat.le_refl _, fun _ _ => rfl⟩
/-- A row of a call's own stays under a call that turns nothing old. -/
theorem own_below {w w' : World} {base n size : Nat} {e : TypeId} {v : Value} {xs : List Value} (h : w.ownsRow base e size v n xs) (hb : Below w.heap.size w w') : w'.ownsRow base e size v n xs := by
  refine ⟨h.1, ?_⟩
  rcases h.2 with h1 | ⟨g, cap, cur, h1, h2, h3, h4⟩
  · exact .inl h1
  · exact .inr ⟨g, cap, cur, h1, h2, (hb.block g (Array.getElem?_eq_some_iff.1 h3).1).trans h3, h4⟩
theorem own_cell {w : World} {base n C : Nat} {e : TypeId} {A : Option Addr} {xs : List Value} (h : w.ownsRow base e 1 (.slice A n C) n xs) (j : Nat) (hj : j < n) :
    ∃ g, A = some ⟨g, 0, none⟩ ∧ base ≤ g ∧ w.cell? ⟨g, j, none⟩ = xs[j]? := by
  rcases h.2 with ⟨h1, h2⟩ | ⟨g, cap, cur, h1, h2, h3, h4, h5, h6, h7⟩
  · omega
  · injection h1 with e1 e2 e3
    refine ⟨g, e1, h2, ?_⟩
    rw [Nat.mul_one] at h7
    rw [← h7, List.getElem?_take_of_lt hj]
    unfold World.cell?
    rw [h3]
    simp

/-- What both Raises answer. -/
def rzI (op a1 a2 a3 b1 b2 b3 c1 c2 c3 : Int) : List ByteArray := if chkI op a1 a2 a3 b1 b2 b3 c1 c2 c3 = 0 then raisesI op (farM a1 || farM b1 || farM c1) else []
theorem rz_len (op a1 a2 a3 b1 b2 b3 c1 c2 c3 : Int) : (rzI op a1 a2 a3 b1 b2 b3 c1 c2 c3).length ≤ 7 := by
  unfold rzI
  split
  · exact sel_len [(farM a1 || farM b1 || farM c1) || inL zl0 op, inL zl1 op, inL zl2 op, inL zl3 op, inL zl4 op, inL zl5 op, inL zl6 op] 7
  · exact Nat.zero_le _
theorem raises_calls (op a1 a2 a3 b1 b2 b3 c1 c2 c3 : Int) (w : World) :
    Calls Tryd.prog 23 #[.agg #[.int .i64 op, .int .i64 a1, .int .i64 a2, .int .i64 a3, .int .i64 b1, .int .i64 b2, .int .i64 b3, .int .i64 c1, .int .i64 c2, .int .i64 c3]] w fun e w' => ∃ v, e = .returned (.tuple #[v, .int .i64 (chkI op a1 a2 a3 b1 b2 b3 c1 c2 c3)]) ∧ w'.ownsRow w.heap.size 9 1 v (rzI op a1 a2 a3 b1 b2 b3 c1 c2 c3).length (strs (rzI op a1 a2 a3 b1 b2 b3 c1 c2 c3)) ∧ Below w.heap.size w w' := by
  unfold rzI
  by_cases h : chkI op a1 a2 a3 b1 b2 b3 c1 c2 c3 = 0
  · rw [if_pos h, h]; exact raises_ok op a1 a2 a3 b1 b2 b3 c1 c2 c3 w h
  · rw [if_neg h]; exact (raises_err op a1 a2 a3 b1 b2 b3 c1 c2 c3 w h).mono fun e w' ⟨h1, h2⟩ => ⟨_, h1, World.ownsRow_nil _ _ _ _, h2⟩
theorem rraises_calls (op a1 a2 a3 b1 b2 b3 c1 c2 c3 : Int) (w : World) :
    Calls Tryd.prog 24 #[.agg #[.int .i64 op, .int .i64 a1, .int .i64 a2, .int .i64 a3, .int .i64 b1, .int .i64 b2, .int .i64 b3, .int .i64 c1, .int .i64 c2, .int .i64 c3]] w fun e w' => ∃ v, e = .returned (.tuple #[v, .int .i64 (chkI op a1 a2 a3 b1 b2 b3 c1 c2 c3)]) ∧ w'.ownsRow w.heap.size 9 1 v (rzI op a1 a2 a3 b1 b2 b3 c1 c2 c3).length (strs (rzI op a1 a2 a3 b1 b2 b3 c1 c2 c3)) ∧ Below w.heap.size w w' := by
  unfold rzI
  by_cases h : chkI op a1 a2 a3 b1 b2 b3 c1 c2 c3 = 0
  · rw [if_pos h, h]
    have hop : 0 ≤ op ∧ op < 111 := by
      rcases Classical.em (op < 0 ∨ 111 ≤ op) with h1 | h1
      · rw [chkI, if_pos h1] at h; omega
      · omega
    obtain ⟨k, rfl⟩ : ∃ k : Nat, op = (k : Int) := ⟨op.toNat, by omega⟩
    exact rraises_in k (by omega) a1 a2 a3 b1 b2 b3 c1 c2 c3 w h
  · rw [if_neg h]; exact (rraises_err op a1 a2 a3 b1 b2 b3 c1 c2 c3 w h).mono fun e w' ⟨h1, h2⟩ => ⟨_, h1, World.ownsRow_nil _ _ _ _, h2⟩

set_option maxHeartbeats 1000000 in
theorem law_raises (op a1 a2 a3 b1 b2 b3 c1 c2 c3 : Int) (w : World) (ht : SpTab w) : Calls Tryd.prog 8 #[.agg #[.int .i64 op, .int .i64 a1, .int .i64 a2, .int .i64 a3, .int .i64 b1, .int .i64 b2, .int .i64 b3, .int .i64 c1, .int .i64 c2, .int .i64 c3]] w fun e w' => e = .returned (.bool true) ∧ Below w.heap.size w w' := by
  have CX : Cy w (w.alloc (.cells #[.int .i64 op, .int .i64 a1, .int .i64 a2, .int .i64 a3, .int .i64 b1, .int .i64 b2, .int .i64 b3, .int .i64 c1, .int .i64 c2, .int .i64 c3] 40)) := (Cy.refl ht).alloc _
  have H1 := Lib.hid (fun w => raises_calls op a1 a2 a3 b1 b2 b3 c1 c2 c3 w)
  have H2 := Lib.hid (fun w => rraises_calls op a1 a2 a3 b1 b2 b3 c1 c2 c3 w)
  have HL := rz_len op a1 a2 a3 b1 b2 b3 c1 c2 c3
  generalize chkI op a1 a2 a3 b1 b2 b3 c1 c2 c3 = r at *
  generalize rzI op a1 a2 a3 b1 b2 b3 c1 c2 c3 = xs at *
  clear ht
  go_enter Tryd.func8, Tryd.ntmps8
  go_wp2_with (first
    | (go_at_call 23; refine (H1.out _).mono ?_; rintro e w1 ⟨v1, rfl, ho1, hb⟩; obtain ⟨hc, hf⟩ := bcell hb; have hz : w.heap.size < w1.heap.size := (by have := hb.size; simp at this; omega); replace CX := CX.next hb; have HZ := Lib.hid hz; obtain ⟨A1, C1, rfl⟩ := own_slice ho1; have HO1 := Lib.hid ho1; clear hb ho1)
    | (go_at_call 24; refine (H2.out _).mono ?_; rintro e w2 ⟨v2, rfl, ho2, hb⟩; replace CX := CX.next hb; obtain ⟨A2, C2, rfl⟩ := own_slice ho2; have HO2 := Lib.hid ho2; replace HO1 := Lib.hid (own_below HO1.out hb); clear hb ho2 hc hf)
    | (go_at_call 12; refine (awake_calls _ CX.tab).mono ?_; rintro e w3 ⟨rfl, hb⟩; replace CX := CX.next hb; replace HO1 := Lib.hid (own_below HO1.out hb); replace HO2 := Lib.hid (own_below HO2.out hb); clear hb))
  have CX := Lib.hid CX.below
  go_loopw [7] (fun i wr => ∃ j : Nat, j ≤ xs.length ∧ i = .int .i64 j ∧ Hid (Below w.heap.size w wr) ∧ Hid (wr.ownsRow w.heap.size 9 1 (.slice A1 xs.length C1) xs.length (strs xs)) ∧ Hid (wr.ownsRow w.heap.size 9 1 (.slice A2 xs.length C2) xs.length (strs xs))) (fun i _ => xs.length - (intOf i).toNat)
  case atStart => exact ⟨0, by omega, rfl, CX, Lib.hid (HO1.out.mono (by simp)), Lib.hid (HO2.out.mono (by have := HZ.out; omega))⟩
  case round =>
    obtain ⟨j, hj, rfl, hB, ho1, ho2⟩ := hrel
    by_cases hlt : j < xs.length
    · obtain ⟨g1, rfl, _, k1⟩ := own_cell ho1.out j hlt
      obtain ⟨g2, rfl, _, k2⟩ := own_cell ho2.out j hlt
      obtain ⟨s, hs⟩ : ∃ s, (strs xs)[j]? = some (.string s) := ⟨xs[j], by simp [strs, hlt]⟩
      rw [hs] at k1 k2
      have g0 : (0 : Int) ≤ (j : Int) := by omega
      have g3 : (j : Int) < (xs.length : Int) := by omega
      clear hs
      go_wp2
      go_quiet (fail)
      go_wp2
      go_roundw
      case rel => exact ⟨j + 1, by omega, by go_num, Lib.hid (Below.dn hB.out _), ho1, ho2⟩
      case measure => simp [intOf]; omega
    · obtain rfl : j = xs.length := by omega
      go_wp2
      go_ret
      exact ⟨rfl, hB.out⟩
end Go.Proofs.YtadkbcdopcehhaaDoor
