/- Contracts of inst.Form and inst.Name. -/
import Derived.Test.YtadkbcdopcehhaaDoorA2
namespace Go.Proofs.YtadkbcdopcehhaaDoor
open Go.RowKit

def formsL : List UInt8 := [45, 45, 45, 32, 110, 45, 78, 32, 118, 45, 86, 32, 98, 100, 66, 32, 110, 110, 78, 32, 110, 110, 78, 32, 110, 110, 78, 32, 110, 110, 78, 32, 110, 110, 78, 32, 110, 110, 78, 32, 110, 110, 78, 32, 110, 110, 78, 32, 110, 110, 78, 32, 110, 110, 78, 32, 110, 110, 78, 32, 110, 110, 78, 32, 110, 110, 78, 32, 110, 110, 78, 32, 110, 110, 78, 32, 110, 110, 78, 32, 110, 110, 78, 32, 110, 110, 78, 32, 110, 110, 78, 32, 110, 110, 78, 32, 110, 110, 78, 32, 110, 110, 78, 32, 110, 110, 78, 32, 110, 110, 78, 32, 110, 110, 78, 32, 110, 110, 78, 32, 110, 110, 78, 32, 110, 110, 78, 32, 110, 110, 78, 32, 110, 110, 78, 32, 110, 110, 78, 32, 110, 110, 78, 32, 110, 110, 78, 32, 110, 110, 78, 32, 110, 45, 78, 32, 110, 45, 78, 32, 110, 45, 78, 32, 110, 45, 78, 32, 110, 45, 78, 32, 110, 45, 78, 32, 110, 45, 67, 32, 110, 45, 67, 32, 99, 45, 78, 32, 99, 45, 78, 32, 99, 45, 78, 32, 99, 100, 65, 32, 97, 45, 67, 32, 110, 110, 106, 32, 110, 110, 106, 32, 110, 110, 106, 32, 110, 110, 106, 32, 110, 110, 106, 32, 110, 110, 106, 32, 110, 110, 106, 32, 110, 110, 106, 32, 110, 110, 106, 32, 110, 110, 106, 32, 110, 110, 106, 32, 110, 110, 106, 32, 99, 99, 106, 32, 99, 99, 106, 32, 99, 99, 106, 32, 99, 99, 106, 32, 99, 99, 106, 32, 99, 99, 106, 32, 112, 113, 106, 32, 112, 113, 106, 32, 45, 45, 106, 32, 110, 115, 45, 32, 99, 116, 45, 32, 99, 99, 67, 32, 99, 45, 78, 32, 99, 110, 78, 32, 110, 110, 88, 32, 110, 110, 88, 32, 110, 100, 65, 32, 97, 45, 78, 32, 97, 110, 66, 32, 98, 110, 97, 32, 110, 110, 89, 32, 97, 110, 97, 32, 98, 100, 90, 32, 108, 45, 66, 32, 108, 45, 76, 32, 108, 45, 78, 32, 45, 100, 82, 32, 114, 100, 82, 32, 45, 100, 72, 32, 98, 45, 104, 32, 104, 45, 66, 32, 119, 117, 78, 32, 45, 102, 45, 32, 109, 101, 105, 32, 98, 107, 100, 32, 45, 102, 45, 32, 45, 101, 105, 32, 45, 102, 45, 32, 45, 101, 105, 32, 45, 45, 45, 32, 100, 103, 66, 32, 99, 105, 77, 32, 99, 45, 45, 32, 45, 45, 45, 32, 45, 45, 45, 32, 99, 45, 45, 32, 99, 99, 67, 32, 45, 45, 78]
def frm (i : Nat) (a : Int) : UInt8 := formsL.getD (4 * a.toNat + i) 0
theorem form_all : ∀ a : Fin 111, (⟨formsL.toArray⟩ : ByteArray).extract (4 * a.val) (4 * a.val + 3) = ⟨#[frm 0 (a.val : Int), frm 1 (a.val : Int), frm 2 (a.val : Int)]⟩ := by
  have h : ∀ a : Fin 111, ((⟨formsL.toArray⟩ : ByteArray).extract (4 * a.val) (4 * a.val + 3)).data.toList = [frm 0 (a.val : Int), frm 1 (a.val : Int), frm 2 (a.val : Int)] := by decide +kernel
  intro a
  have := h a
  generalize (⟨formsL.toArray⟩ : ByteArray).extract (4 * a.val) (4 * a.val + 3) = x at this ⊢
  obtain ⟨⟨l⟩⟩ := x
  simp at this
  rw [this]
theorem form_at (a : Int) (h0 : 0 ≤ a) (h1 : a < 111) : (⟨formsL.toArray⟩ : ByteArray).extract (4 * a).toNat (4 * a + 3).toNat = ⟨#[frm 0 a, frm 1 a, frm 2 a]⟩ := by
  have := form_all ⟨a.toNat, by omega⟩
  simp only [show ((a.toNat : Nat) : Int) = a by omega] at this
  rw [show (4 * a).toNat = 4 * a.toNat by omega, show (4 * a + 3).toNat = 4 * a.toNat + 3 by omega]
  exact this
theorem ret_str {a b : ByteArray} (h : a = b) : Ending.returned (.string a) = .returned (.string b) := by rw [h]

theorem form_out (a : Int) (w : World) (h : a < 0 ∨ 111 ≤ a) : Calls Tryd.prog 17 #[.int .i64 a] w fun e w' => e = .returned (.string ⟨#[]⟩) ∧ w = w' := by
  rcases h with h | h
  · go_enter Tryd.func17, Tryd.ntmps17
    go_wp2
    all_goals (go_ret; exact ⟨rfl, rfl⟩)
  · go_enter Tryd.func17, Tryd.ntmps17
    go_wp2
    all_goals (go_ret; exact ⟨rfl, rfl⟩)
set_option maxRecDepth 100000 in
set_option maxHeartbeats 400000 in
theorem form_in (a : Int) (w : World) (h : 0 ≤ a) (h1 : a < 111) : Calls Tryd.prog 17 #[.int .i64 a] w fun e w' => e = .returned (.string ⟨#[frm 0 a, frm 1 a, frm 2 a]⟩) ∧ w = w' := by
  have H := Lib.hid (form_at a h h1)
  have g0 : 0 ≤ 4 * a := by omega
  have g1 : 4 * a ≤ 4 * a + 3 := by omega
  have g2 : 4 * a + 3 ≤ 443 := by omega
  go_enter Tryd.func17, Tryd.ntmps17
  go_wp2
  all_goals (go_ret; exact ⟨ret_str H.out, rfl⟩)
end Go.Proofs.YtadkbcdopcehhaaDoor
