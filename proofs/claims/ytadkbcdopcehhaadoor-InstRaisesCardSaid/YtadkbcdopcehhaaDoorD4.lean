/- The contract of the reference's Raises. -/
import Derived.Test.YtadkbcdopcehhaaDoorD2
import Derived.Test.YtadkbcdopcehhaaDoorD3
namespace Go.Proofs.YtadkbcdopcehhaaDoor
open Go.RowKit Mp

theorem rraises_err (op a1 a2 a3 b1 b2 b3 c1 c2 c3 : Int) (w : World) (hne : chkI op a1 a2 a3 b1 b2 b3 c1 c2 c3 ≠ 0) :
    Calls Tryd.prog 24 #[.agg #[.int .i64 op, .int .i64 a1, .int .i64 a2, .int .i64 a3, .int .i64 b1, .int .i64 b2, .int .i64 b3, .int .i64 c1, .int .i64 c2, .int .i64 c3]] w fun e w' => e = .returned (.tuple #[.slice none 0 0, .int .i64 (chkI op a1 a2 a3 b1 b2 b3 c1 c2 c3)]) ∧ Below w.heap.size w w' := by
  have HC := Lib.hid (fun w => rcheck_calls op a1 a2 a3 b1 b2 b3 c1 c2 c3 w)
  generalize chkI op a1 a2 a3 b1 b2 b3 c1 c2 c3 = r at *
  have hne' : (r != 0) = true := by simpa using hne
  clear hne
  go_enter Tryd.func24, Tryd.ntmps24
  go_wp2_with (go_at_call 22; refine (HC.out _).mono ?_; rintro e w1 ⟨rfl, hb⟩)
  all_goals go_ret2
  all_goals exact ⟨rfl, Below.step ((Below.refl _ _).alloc (Nat.le_refl _) _) hb⟩

def namesE : List ByteArray := [nilE, zeroE, boundsE, sizeE, pickE, depthE, procsE]
/-- Those of the first j names that are marked. -/
def selU (bs : List Bool) : Nat → List ByteArray
  | 0 => []
  | j + 1 => selU bs j ++ one? (bs.getD j false) (namesE.getD j ⟨#[]⟩)
theorem sel_len (bs : List Bool) (j : Nat) : (selU bs j).length ≤ j := by
  induction j with
  | zero => exact Nat.le_refl _
  | succ j ih =>
    have : (one? (bs.getD j false) (namesE.getD j ⟨#[]⟩)).length ≤ 1 := by unfold one?; split <;> simp
    simp only [selU, List.length_append]; omega
structure RR (B Rb Rn : Nat) (W w : World) (bs : List Bool) (v : Value) (xs : List ByteArray) : Prop where
  rb : w.heap[Rb]? = some (.cells (bs.map Value.bool).toArray 4 (0, 0))
  rn : w.heap[Rn]? = some (.cells (strs namesE).toArray 9 (0, 0))
  own : w.ownsRow (Rn + 1) 9 1 v xs.length (strs xs)
  below : Below B W w
  le : B ≤ Rb
  lt : Rb < Rn
theorem RR.start {B : Nat} {W w : World} (bs : List Bool) (hb : Below B W w) (hle : B ≤ w.heap.size) :
    RR B w.heap.size (w.heap.size + 1) W ((w.alloc (.cells (bs.map Value.bool).toArray 4)).alloc (.cells (strs namesE).toArray 9)) bs (.slice none 0 0) [] :=
  ⟨(Below.heap_alloc _ _ _ (by simp)).trans (heap_alloc_new _ _), by
    have := heap_alloc_new (w.alloc (.cells (bs.map Value.bool).toArray 4)) (.cells (strs namesE).toArray 9)
    rwa [show (w.alloc (.cells (bs.map Value.bool).toArray 4)).heap.size = w.heap.size + 1 by simp] at this, World.ownsRow_nil _ _ _ _, (hb.alloc hle _).alloc (by simp; omega) _, hle, by omega⟩
theorem RR.alloc {B Rb Rn : Nat} {W w : World} {bs : List Bool} {v : Value} {xs : List ByteArray} (h : RR B Rb Rn W w bs v xs) (o : Obj) : RR B Rb Rn W (w.alloc o) bs v xs :=
  have h1 : Rb < w.heap.size := (Array.getElem?_eq_some_iff.1 h.rb).1
  have h2 : Rn < w.heap.size := (Array.getElem?_eq_some_iff.1 h.rn).1
  ⟨(Below.heap_alloc _ _ _ h1).trans h.rb, (Below.heap_alloc _ _ _ h2).trans h.rn, h.own.alloc o, h.below.alloc (by have := h.le; omega) _, h.le, h.lt⟩
theorem RR.grown {B Rb Rn : Nat} {W w w1 : World} {bs : List Bool} {v v1 : Value} {xs : List ByteArray} {s : ByteArray} (h : RR B Rb Rn W w bs v xs)
    (hown : w1.ownsRow (Rn + 1) 9 1 v1 (xs.length + 1) (strs xs ++ [.string s])) (hg : w.grownBy w1 v.ownBlock) : RR B Rb Rn W w1 bs v1 (xs ++ [s]) :=
  have h1 : Rb < w.heap.size := (Array.getElem?_eq_some_iff.1 h.rb).1
  have h2 : Rn < w.heap.size := (Array.getElem?_eq_some_iff.1 h.rn).1
  have hlow : ∀ k, v.ownBlock = some k → Rn + 1 ≤ k := fun k hk => (h.own.lt k hk).1
  ⟨(hg.block Rb h1 (fun e => by have := hlow Rb e.symm; have := h.lt; omega)).trans h.rb, (hg.block Rn h2 (fun e => by have := hlow Rn e.symm; omega)).trans h.rn,
    by simpa [strs] using hown, h.below.grown hg (by have := h.le; omega) (fun k hk => by have := hlow k hk; have := h.lt; have := h.le; omega), h.le, h.lt⟩

def qf (z : Bool) (a b c : Int) : Nat → Bool
  | 0 => z
  | 1 => z || farM a
  | 2 => (z || farM a) || farM b
  | _ => ((z || farM a) || farM b) || farM c

set_option maxHeartbeats 4000000 in
theorem rraises_in (k : Nat) (hk : k < 111) (a1 a2 a3 b1 b2 b3 c1 c2 c3 : Int) (w : World) (heq : chkI (k : Int) a1 a2 a3 b1 b2 b3 c1 c2 c3 = 0) :
    Calls Tryd.prog 24 #[.agg #[.int .i64 (k : Int), .int .i64 a1, .int .i64 a2, .int .i64 a3, .int .i64 b1, .int .i64 b2, .int .i64 b3, .int .i64 c1, .int .i64 c2, .int .i64 c3]] w fun e w' => ∃ v, e = .returned (.tuple #[v, .int .i64 0]) ∧ w'.ownsRow w.heap.size 9 1 v (raisesI (k : Int) (farM a1 || farM b1 || farM c1)).length (strs (raisesI (k : Int) (farM a1 || farM b1 || farM c1))) ∧ Below w.heap.size w w' := by
  have hC := fun w => rcheck_calls (k : Int) a1 a2 a3 b1 b2 b3 c1 c2 c3 w
  rw [heq] at hC
  have HC := Lib.hid hC
  clear hC heq
  have HE := Lib.hid (fun w => entry_in k w hk)
  have H0 : Hid (∀ w, Calls Tryd.prog 44 #[.string (nm k), .string ⟨#[32, 103, 101, 116, 32, 112, 117, 116, 32, 104, 101, 97, 100, 32, 116, 97, 105, 108, 32, 97, 114, 109, 32, 115, 101, 110, 100, 32, 114, 101, 99, 118, 32, 97, 108, 116, 32, 102, 114, 97, 109, 101, 109, 32]⟩] w fun e w' => e = .returned (.bool (inL zl0 (k : Int))) ∧ w = w') := Lib.hid (one_0 k hk)
  have H1 : Hid (∀ w, Calls Tryd.prog 44 #[.string (nm k), .string ⟨#[32, 100, 105, 118, 98, 32, 109, 111, 100, 98, 32, 100, 105, 118, 119, 32, 109, 111, 100, 119, 32, 100, 105, 118, 108, 32, 109, 111, 100, 108, 32]⟩] w fun e w' => e = .returned (.bool (inL zl1 (k : Int))) ∧ w = w') := Lib.hid (one_1 k hk)
  have H2 : Hid (∀ w, Calls Tryd.prog 44 #[.string (nm k), .string ⟨#[32, 105, 110, 100, 99, 32, 105, 110, 115, 99, 32, 115, 108, 105, 99, 101, 99, 32, 103, 101, 116, 32, 112, 117, 116, 32, 115, 108, 105, 99, 101, 97, 32, 99, 111, 112, 121, 97, 32]⟩] w fun e w' => e = .returned (.bool (inL zl2 (k : Int))) ∧ w = w') := Lib.hid (one_2 k hk)
  have H3 : Hid (∀ w, Calls Tryd.prog 44 #[.string (nm k), .string ⟨#[32, 99, 118, 116, 108, 99, 32, 99, 118, 116, 102, 99, 32, 99, 118, 116, 99, 97, 32, 99, 118, 116, 97, 99, 32, 97, 100, 100, 99, 32, 105, 110, 115, 99, 32, 115, 108, 105, 99, 101, 99, 32, 110, 101, 119, 97, 32, 115, 108, 105, 99, 101, 97, 32, 99, 111, 110, 115, 32, 110, 101, 119, 32, 110, 101, 119, 99, 32, 108, 111, 97, 100, 32, 112, 114, 105, 110, 116, 32]⟩] w fun e w' => e = .returned (.bool (inL zl3 (k : Int))) ∧ w = w') := Lib.hid (one_3 k hk)
  have H5 : Hid (∀ w, Calls Tryd.prog 44 #[.string (nm k), .string ⟨#[32, 99, 97, 108, 108, 32, 99, 97, 108, 108, 109, 32]⟩] w fun e w' => e = .returned (.bool (inL zl5 (k : Int))) ∧ w = w') := Lib.hid (one_5 k hk)
  have H6 : Hid (∀ w, Calls Tryd.prog 44 #[.string (nm k), .string ⟨#[32, 115, 112, 97, 119, 110, 32, 115, 112, 97, 119, 110, 109, 32]⟩] w fun e w' => e = .returned (.bool (inL zl6 (k : Int))) ∧ w = w') := Lib.hid (one_6 k hk)
  have harm : ((nm k).toList == ([97, 114, 109] : List UInt8)) = inL zl4 (k : Int) := arm_eq ⟨k, hk⟩
  have hraise : ∀ far, raisesI (k : Int) far = selU [far || inL zl0 (k : Int), inL zl1 (k : Int), inL zl2 (k : Int), inL zl3 (k : Int), inL zl4 (k : Int), inL zl5 (k : Int), inL zl6 (k : Int)] 7 := fun far => rfl
  have HRA := Lib.hid hraise
  have t0 := trivial; have t1 := trivial; have t2 := trivial; have t3 := trivial; have t5 := trivial
  generalize inL zl0 (k : Int) = z0 at *
  generalize inL zl1 (k : Int) = z1 at *
  generalize inL zl2 (k : Int) = z2 at *
  generalize inL zl3 (k : Int) = z3 at *
  generalize inL zl4 (k : Int) = z4 at *
  generalize inL zl5 (k : Int) = z5 at *
  generalize inL zl6 (k : Int) = z6 at *
  clear hraise hk
  generalize nm k = name at *
  have BX := Lib.hid ((Below.refl _ w).alloc (Nat.le_refl _) (.cells #[.int .i64 (k : Int), .int .i64 a1, .int .i64 a2, .int .i64 a3, .int .i64 b1, .int .i64 b2, .int .i64 b3, .int .i64 c1, .int .i64 c2, .int .i64 c3] 40))
  go_enter Tryd.func24, Tryd.ntmps24
  go_wp2_with (first
    | (go_at_call 22; refine (HC.out _).mono ?_; rintro e w1 ⟨rfl, hb⟩; obtain ⟨hc, hf⟩ := bcell hb; have hz : w.heap.size < w1.heap.size := (by have := hb.size; simp at this; omega); have HB := Lib.hid (Below.step BX.out hb); clear hb)
    | (go_at_call 13; refine (HE.out _).mono ?_; rintro e w2 ⟨rfl, hb⟩; obtain ⟨hc2, hf2⟩ := bcell hb; have hz2 : w1.heap.size ≤ w2.heap.size := hb.size; replace HB := Lib.hid (Below.step HB.out hb); clear hb)
    | (clear t0; go_at_call 44; refine (H0.out _).mono ?_; rintro e w' ⟨rfl, rfl⟩))
  generalize hR : w2.heap.size = R at *
  have HR := Lib.hid hR
  clear hR
  have hrow : ∀ (j : Nat) (v : Value), (#[.int .i64 a1, .int .i64 a2, .int .i64 a3, .int .i64 b1, .int .i64 b2, .int .i64 b3, .int .i64 c1, .int .i64 c2, .int .i64 c3] : Array Value)[j]? = some v → (w2.alloc (.cells #[.int .i64 a1, .int .i64 a2, .int .i64 a3, .int .i64 b1, .int .i64 b2, .int .i64 b3, .int .i64 c1, .int .i64 c2, .int .i64 c3] 38)).cell? ⟨R, j, none⟩ = some v := fun j v hv => by
    rw [← HR.out, cell_new]; exact hv
  have HB3 := Lib.hid (HB.out.alloc HB.out.size (.cells #[.int .i64 a1, .int .i64 a2, .int .i64 a3, .int .i64 b1, .int .i64 b2, .int .i64 b3, .int .i64 c1, .int .i64 c2, .int .i64 c3] 38))
  have hz3 : w.heap.size ≤ (w2.alloc (.cells #[.int .i64 a1, .int .i64 a2, .int .i64 a3, .int .i64 b1, .int .i64 b2, .int .i64 b3, .int .i64 c1, .int .i64 c2, .int .i64 c3] 38)).heap.size := HB3.out.size
  generalize (w2.alloc (.cells #[.int .i64 a1, .int .i64 a2, .int .i64 a3, .int .i64 b1, .int .i64 b2, .int .i64 b3, .int .i64 c1, .int .i64 c2, .int .i64 c3] 38)) = w3 at *
  clear hc hc2 hf hf2 hz hz2 HB BX
  have HROW := Lib.hid hrow
  have HZ := Lib.hid hz3
  clear hrow hz3
  go_loop [8, 9] (fun nu i => ∃ j : Nat, j ≤ 3 ∧ i = .int .i64 j ∧ ∃ f : Bool, nu = .bool f ∧ Hid (f = qf z0 a1 b1 c1 j)) (fun _ i => 3 - (intOf i).toNat)
  case atStart => exact ⟨0, by omega, rfl, z0, rfl, Lib.hid rfl⟩
  case round =>
    obtain ⟨j, hj, rfl, f, rfl, hf⟩ := hrel
    have : j = 0 ∨ j = 1 ∨ j = 2 ∨ j = 3 := by omega
    rcases this with rfl | rfl | rfl | rfl
    · have hx : w3.cell? ⟨R, 0, none⟩ = some (.int .i64 a1) := HROW.out _ _ rfl
      cases f
      · cases h4 : (a1 == 4) <;> cases h5 : (a1 == 5)
        · go_wp2
          go_round
          case rel => exact ⟨1, by omega, rfl, _, rfl, Lib.hid (by rw [show qf z0 a1 b1 c1 1 = (qf z0 a1 b1 c1 0 || farM a1) from rfl, ← hf.out]; simp [farM, h4, h5])⟩
          case measure => simp [intOf]
        · go_wp2
          go_round
          case rel => exact ⟨1, by omega, rfl, _, rfl, Lib.hid (by rw [show qf z0 a1 b1 c1 1 = (qf z0 a1 b1 c1 0 || farM a1) from rfl, ← hf.out]; simp [farM, h4, h5])⟩
          case measure => simp [intOf]
        · go_wp2
          go_round
          case rel => exact ⟨1, by omega, rfl, _, rfl, Lib.hid (by rw [show qf z0 a1 b1 c1 1 = (qf z0 a1 b1 c1 0 || farM a1) from rfl, ← hf.out]; simp [farM, h4, h5])⟩
          case measure => simp [intOf]
        · go_wp2
          go_round
          case rel => exact ⟨1, by omega, rfl, _, rfl, Lib.hid (by rw [show qf z0 a1 b1 c1 1 = (qf z0 a1 b1 c1 0 || farM a1) from rfl, ← hf.out]; simp [farM, h4, h5])⟩
          case measure => simp [intOf]
      · go_wp2
        go_round
        case rel => exact ⟨1, by omega, rfl, _, rfl, Lib.hid (by rw [show qf z0 a1 b1 c1 1 = (qf z0 a1 b1 c1 0 || farM a1) from rfl, ← hf.out]; simp [farM])⟩
        case measure => simp [intOf]
    · have hx : w3.cell? ⟨R, 3, none⟩ = some (.int .i64 b1) := HROW.out _ _ rfl
      cases f
      · cases h4 : (b1 == 4) <;> cases h5 : (b1 == 5)
        · go_wp2
          go_round
          case rel => exact ⟨2, by omega, rfl, _, rfl, Lib.hid (by rw [show qf z0 a1 b1 c1 2 = (qf z0 a1 b1 c1 1 || farM b1) from rfl, ← hf.out]; simp [farM, h4, h5])⟩
          case measure => simp [intOf]
        · go_wp2
          go_round
          case rel => exact ⟨2, by omega, rfl, _, rfl, Lib.hid (by rw [show qf z0 a1 b1 c1 2 = (qf z0 a1 b1 c1 1 || farM b1) from rfl, ← hf.out]; simp [farM, h4, h5])⟩
          case measure => simp [intOf]
        · go_wp2
          go_round
          case rel => exact ⟨2, by omega, rfl, _, rfl, Lib.hid (by rw [show qf z0 a1 b1 c1 2 = (qf z0 a1 b1 c1 1 || farM b1) from rfl, ← hf.out]; simp [farM, h4, h5])⟩
          case measure => simp [intOf]
        · go_wp2
          go_round
          case rel => exact ⟨2, by omega, rfl, _, rfl, Lib.hid (by rw [show qf z0 a1 b1 c1 2 = (qf z0 a1 b1 c1 1 || farM b1) from rfl, ← hf.out]; simp [farM, h4, h5])⟩
          case measure => simp [intOf]
      · go_wp2
        go_round
        case rel => exact ⟨2, by omega, rfl, _, rfl, Lib.hid (by rw [show qf z0 a1 b1 c1 2 = (qf z0 a1 b1 c1 1 || farM b1) from rfl, ← hf.out]; simp [farM])⟩
        case measure => simp [intOf]
    · have hx : w3.cell? ⟨R, 6, none⟩ = some (.int .i64 c1) := HROW.out _ _ rfl
      cases f
      · cases h4 : (c1 == 4) <;> cases h5 : (c1 == 5)
        · go_wp2
          go_round
          case rel => exact ⟨3, by omega, rfl, _, rfl, Lib.hid (by rw [show qf z0 a1 b1 c1 3 = (qf z0 a1 b1 c1 2 || farM c1) from rfl, ← hf.out]; simp [farM, h4, h5])⟩
          case measure => simp [intOf]
        · go_wp2
          go_round
          case rel => exact ⟨3, by omega, rfl, _, rfl, Lib.hid (by rw [show qf z0 a1 b1 c1 3 = (qf z0 a1 b1 c1 2 || farM c1) from rfl, ← hf.out]; simp [farM, h4, h5])⟩
          case measure => simp [intOf]
        · go_wp2
          go_round
          case rel => exact ⟨3, by omega, rfl, _, rfl, Lib.hid (by rw [show qf z0 a1 b1 c1 3 = (qf z0 a1 b1 c1 2 || farM c1) from rfl, ← hf.out]; simp [farM, h4, h5])⟩
          case measure => simp [intOf]
        · go_wp2
          go_round
          case rel => exact ⟨3, by omega, rfl, _, rfl, Lib.hid (by rw [show qf z0 a1 b1 c1 3 = (qf z0 a1 b1 c1 2 || farM c1) from rfl, ← hf.out]; simp [farM, h4, h5])⟩
          case measure => simp [intOf]
      · go_wp2
        go_round
        case rel => exact ⟨3, by omega, rfl, _, rfl, Lib.hid (by rw [show qf z0 a1 b1 c1 3 = (qf z0 a1 b1 c1 2 || farM c1) from rfl, ← hf.out]; simp [farM])⟩
        case measure => simp [intOf]
    · have HF := Lib.hid hf.out
      clear hf hj
      have hR0 := RR.start [f, z1, z2, z3, z4, z5, z6] HB3.out HZ.out
      have HR0 := Lib.hid hR0
      clear hR0
      go_wp2_with (first
        | (clear t1; go_at_call 44; refine (H1.out _).mono ?_; rintro e w' ⟨rfl, rfl⟩)
        | (clear t2; go_at_call 44; refine (H2.out _).mono ?_; rintro e w' ⟨rfl, rfl⟩)
        | (clear t3; go_at_call 44; refine (H3.out _).mono ?_; rintro e w' ⟨rfl, rfl⟩)
        | (clear t5; go_at_call 44; refine (H5.out _).mono ?_; rintro e w' ⟨rfl, rfl⟩)
        | (go_at_call 44; refine (H6.out _).mono ?_; rintro e w' ⟨rfl, rfl⟩))
      generalize hRb : w3.heap.size = Rb at *
      clear hRb
      go_loopw [12, 13] (fun out i wr => ∃ j : Nat, j ≤ 7 ∧ i = .int .i64 j ∧ Hid (RR w.heap.size Rb (Rb + 1) w wr [f, z1, z2, z3, z4, z5, z6] out (selU [f, z1, z2, z3, z4, z5, z6] j))) (fun _ i _ => 7 - (intOf i).toNat)
      case atStart => exact ⟨0, by omega, rfl, HR0⟩
      case round =>
        obtain ⟨j, hj, rfl, hr⟩ := hrel
        obtain ⟨A0, C0, rfl⟩ := own_slice hr.out.own
        by_cases hlt : j < 7
        · obtain ⟨b, s, hb, hs, h1, h2⟩ : ∃ b s, [f, z1, z2, z3, z4, z5, z6].getD j false = b ∧ namesE.getD j ⟨#[]⟩ = s ∧ wr.cell? ⟨Rb, j, none⟩ = some (.bool b) ∧ wr.cell? ⟨Rb + 1, j, none⟩ = some (.string s) := by
            have : j = 0 ∨ j = 1 ∨ j = 2 ∨ j = 3 ∨ j = 4 ∨ j = 5 ∨ j = 6 := by omega
            rcases this with rfl | rfl | rfl | rfl | rfl | rfl | rfl <;> exact ⟨_, _, rfl, rfl, cell_of_heap hr.out.rb rfl, cell_of_heap hr.out.rn rfl⟩
          have HSEL : Hid (selU [f, z1, z2, z3, z4, z5, z6] (j + 1) = selU [f, z1, z2, z3, z4, z5, z6] j ++ one? b s) := Lib.hid (by rw [← hb, ← hs]; rfl)
          have HLE := Lib.hid (sel_len [f, z1, z2, z3, z4, z5, z6] j)
          clear hb hs
          generalize selU [f, z1, z2, z3, z4, z5, z6] j = xs at *
          have g0 : (0 : Int) ≤ (j : Int) := by omega
          have g1 : (j : Int) < 7 := by omega
          have HR1 := Lib.hid hr.out
          clear hr
          cases b
          · go_wp2
            go_roundw
            case rel => exact ⟨j + 1, by omega, by go_num, Lib.hid (by rw [HSEL.out]; simpa [one?] using HR1.out)⟩
            case measure => simp [intOf]; omega
          · obtain ⟨i0, hi, hz0, hz1, hz2⟩ := info_parts info9
            go_wp2_with (at_builtin; refine wpList_append_own _ rfl _ _ 46 rfl (Rb + 1 + 1) 9 i0 (.string ⟨#[]⟩) 1 16 Tryd.underlying46 hi hz0 hz1 hz2 rfl (by decide) (.slice A0 xs.length C0) xs.length (strs xs) rfl (HR1.out.own.alloc _) ⟨wr.heap.size, 0, none⟩ 1 1 [.string s] rfl rfl ?c1 ?c2 ?c3 ?c4 ?c5 ?_)
            case c1 => exact World.news_of_block (cs := #[.string s]) (t := 9) (fr := (0, 0)) (heap_alloc_new wr _)
            case c2 => intro u hu; simp at hu; subst hu; rfl
            case c3 => have := HLE.out; simp only [maxLen]; omega
            case c4 => have := HLE.out; omega
            case c5 => have := (Array.getElem?_eq_some_iff.1 HR1.out.rn).1; simp; omega
            intro v1 w1 hown1 hgrow _
            have HR2 := Lib.hid ((HR1.out.alloc _).grown hown1 hgrow)
            obtain ⟨A1, C1, rfl⟩ := own_slice hown1
            clear hgrow hown1 hi hz0 hz1 hz2
            go_wp2
            go_roundw
            case rel => exact ⟨j + 1, by omega, by go_num, Lib.hid (by rw [HSEL.out]; exact HR2.out)⟩
            case measure => simp [intOf]; omega
        · obtain rfl : j = 7 := by omega
          go_wp2
          go_ret2
          have hfar : f = ((farM a1 || farM b1 || farM c1) || z0) := by
            rw [HF.out]; simp only [qf]; cases z0 <;> simp
          rw [HRA.out, ← hfar]
          have hq := hr.out.own.mono (base' := w.heap.size) (by have := hr.out.le; omega)
          exact ⟨_, rfl, hq, hr.out.below⟩
end Go.Proofs.YtadkbcdopcehhaaDoor
