/- Plain law: inst.operand answers as the reference's operand for every letter of a form; so Check answers as the reference's Check. -/
import Derived.Test.YtadkbcdopcehhaaDoorA5
import Derived.Test.YtadkbcdopcehhaaDoorB4
namespace Go.Proofs.YtadkbcdopcehhaaDoor
open Go.RowKit

theorem letters_agree : ∀ c : Fin 256, letKn (c.val : Int) = true →
    letK (c.val : Int) = kindRv (UInt8.ofNat c.val) ∧ (decide (letK (c.val : Int) = 0) || letN (c.val : Int)) = win (UInt8.ofNat c.val) dashL ∧
    (kindRv (UInt8.ofNat c.val) = 11 → mostI (c.val : Int) = rmost (c.val : Int)) ∧ (c.val = 110 → kindRv (UInt8.ofNat c.val) = 1) ∧ 0 ≤ kindRv (UInt8.ofNat c.val) ∧ kindRv (UInt8.ofNat c.val) ≤ 11 := by decide +kernel
theorem forms_known : ∀ k : Fin 111, ∀ i : Fin 3, letKn ((frm i.val (k.val : Int)).toNat : Int) = true := by decide +kernel
theorem rng_ins (A B a b m : Int) : rng A B a b 0 m = rv (ins A B a b m) := by
  unfold rng ins rv
  by_cases h1 : A < a
  · rw [if_pos h1]
    have : ¬ (a ≤ A ∧ A ≤ b ∧ 0 ≤ B ∧ B ≤ m) := by omega
    simp [this]
  · rw [if_neg h1]
    by_cases h2 : A > b
    · rw [if_pos h2]
      have : ¬ (a ≤ A ∧ A ≤ b ∧ 0 ≤ B ∧ B ≤ m) := by omega
      simp [this]
    · rw [if_neg h2]
      by_cases h3 : B < 0
      · rw [if_pos h3]
        have : ¬ (a ≤ A ∧ A ≤ b ∧ 0 ≤ B ∧ B ≤ m) := by omega
        simp [this]
      · rw [if_neg h3]
        by_cases h4 : B > m
        · rw [if_pos h4]
          have : ¬ (a ≤ A ∧ A ≤ b ∧ 0 ≤ B ∧ B ≤ m) := by omega
          simp [this]
        · rw [if_neg h4]
          have : a ≤ A ∧ A ≤ b ∧ 0 ≤ B ∧ B ≤ m := by omega
          simp [this]
theorem op_rop (md A B : Int) (c : UInt8) (hc : letKn (c.toNat : Int) = true) : opI md A B c = ropI md A B c := by
  obtain ⟨h1, h2, h3, h4, h5, h6⟩ := letters_agree ⟨c.toNat, c.toNat_lt⟩ hc
  simp only [UInt8.ofNat_toNat] at h1 h2 h3 h4 h5 h6
  unfold opI ropI opV ropV
  simp only [rng_ins]
  rw [← h2, ← h1]
  rw [← h1] at h3 h4 h5 h6
  generalize letK (c.toNat : Int) = K at *
  generalize letN (c.toNat : Int) = nl at *
  by_cases e11 : K = 11
  · have h3' := h3 e11
    rw [h3']
    have e110 : ¬ c.toNat = 110 := fun e => by have := h4 e; omega
    have e0 : ¬ K = 0 := by omega
    by_cases m0 : md = 0
    · cases nl <;> simp [m0, e11]
    · by_cases m1 : md = 1 <;> simp [m0, m1, e11, e110]
  · by_cases e0 : K = 0
    · have e110 : ¬ c.toNat = 110 := fun e => by have := h4 e; omega
      by_cases m0 : md = 0 <;> simp [m0, e0, e110]
    · have g1 : 0 < K := by omega
      have g2 : K < 11 := by omega
      by_cases m0 : md = 0
      · cases nl <;> simp [m0, e0, e11]
      · by_cases m1 : md = 1
        · by_cases e110 : c.toNat = 110
          · simp [m1, e0, e11, e110]
          · have : ¬ (c.toNat : Int) = 110 := by omega
            simp [m1, e0, e11, e110, this]
        · simp [m0, m1, e0, e11, g1, g2]

/-- What both Checks answer. -/
def chkI (op a1 a2 a3 b1 b2 b3 c1 c2 c3 : Int) : Int :=
  if op < 0 ∨ 111 ≤ op then 13 else firstNZ [opI a1 a2 a3 (frm 0 op), opI b1 b2 b3 (frm 1 op), opI c1 c2 c3 (frm 2 op)]
theorem check_calls (op a1 a2 a3 b1 b2 b3 c1 c2 c3 : Int) (w : World) :
    Calls Tryd.prog 21 #[.agg #[.int .i64 op, .int .i64 a1, .int .i64 a2, .int .i64 a3, .int .i64 b1, .int .i64 b2, .int .i64 b3, .int .i64 c1, .int .i64 c2, .int .i64 c3]] w fun e w' => e = .returned (.int .i64 (chkI op a1 a2 a3 b1 b2 b3 c1 c2 c3)) ∧ Below w.heap.size w w' := by
  unfold chkI
  by_cases h : op < 0 ∨ 111 ≤ op
  · rw [if_pos h]; exact check_none op a1 a2 a3 b1 b2 b3 c1 c2 c3 w h
  · rw [if_neg h]; exact check_in op a1 a2 a3 b1 b2 b3 c1 c2 c3 w (by omega) (by omega)
theorem rcheck_calls (op a1 a2 a3 b1 b2 b3 c1 c2 c3 : Int) (w : World) :
    Calls Tryd.prog 22 #[.agg #[.int .i64 op, .int .i64 a1, .int .i64 a2, .int .i64 a3, .int .i64 b1, .int .i64 b2, .int .i64 b3, .int .i64 c1, .int .i64 c2, .int .i64 c3]] w fun e w' => e = .returned (.int .i64 (chkI op a1 a2 a3 b1 b2 b3 c1 c2 c3)) ∧ Below w.heap.size w w' := by
  unfold chkI
  by_cases h : op < 0 ∨ 111 ≤ op
  · rw [if_pos h]; exact rcheck_none op a1 a2 a3 b1 b2 b3 c1 c2 c3 w h
  · rw [if_neg h]
    have hk : op = (op.toNat : Int) := by omega
    have kn : ∀ i : Fin 3, letKn ((frm i.val op).toNat : Int) = true := fun i => by
      have := forms_known ⟨op.toNat, by omega⟩ i
      simpa [← hk] using this
    rw [op_rop a1 a2 a3 (frm 0 op) (kn 0), op_rop b1 b2 b3 (frm 1 op) (kn 1), op_rop c1 c2 c3 (frm 2 op) (kn 2)]
    exact rcheck_in op a1 a2 a3 b1 b2 b3 c1 c2 c3 op.toNat w hk (by omega)

end Go.Proofs.YtadkbcdopcehhaaDoor
