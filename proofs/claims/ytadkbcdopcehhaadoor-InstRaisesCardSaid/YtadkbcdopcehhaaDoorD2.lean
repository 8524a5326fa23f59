/- The contract of inst.Raises. -/
import Derived.Test.YtadkbcdopcehhaaDoorD1
import Derived.Deep.Onto
namespace Go.Proofs.YtadkbcdopcehhaaDoor
open Go.RowKit Mp

def nilE : ByteArray := ⟨#[110, 105, 108, 32, 114, 101, 102, 101, 114, 101, 110, 99, 101]⟩
def zeroE : ByteArray := ⟨#[122, 101, 114, 111, 32, 100, 105, 118, 105, 100, 101]⟩
def boundsE : ByteArray := ⟨#[97, 114, 114, 97, 121, 32, 98, 111, 117, 110, 100, 115]⟩
def sizeE : ByteArray := ⟨#[98, 97, 100, 32, 115, 105, 122, 101]⟩
def pickE : ByteArray := ⟨#[119, 114, 111, 110, 103, 32, 97, 114, 109]⟩
def depthE : ByteArray := ⟨#[115, 116, 97, 99, 107, 32, 111, 118, 101, 114, 102, 108, 111, 119]⟩
def procsE : ByteArray := ⟨#[116, 111, 111, 32, 109, 97, 110, 121, 32, 112, 114, 111, 99, 101, 115, 115, 101, 115]⟩
def zl0 : List Int := [81, 82, 86, 87, 90, 92, 93, 94, 96]
def zl1 : List Int := [7, 8, 17, 18, 27, 28]
def zl2 : List Int := [76, 77, 78, 81, 82, 83, 84]
def zl3 : List Int := [44, 45, 49, 50, 74, 77, 78, 79, 83, 85, 89, 91, 104, 108]
def zl4 : List Int := [90]
def zl5 : List Int := [98, 99]
def zl6 : List Int := [100, 101]
/-- Whether an instruction is in a list. -/
def inL (zs : List Int) (op : Int) : Bool := zs.contains op
def one? (b : Bool) (s : ByteArray) : List ByteArray := if b then [s] else []
/-- Which exceptions an instruction can raise, when far is whether an operand goes through a pointer. -/
def raisesI (op : Int) (far : Bool) : List ByteArray :=
  one? (far || inL zl0 op) nilE ++ one? (inL zl1 op) zeroE ++ one? (inL zl2 op) boundsE ++ one? (inL zl3 op) sizeE ++ one? (inL zl4 op) pickE ++ one? (inL zl5 op) depthE ++ one? (inL zl6 op) procsE
def farM (m : Int) : Bool := m == 4 || m == 5

/-- Whether one of the first j operands goes through a pointer. -/
def pf (a b c : Int) : Nat → Bool
  | 0 => false
  | 1 => false || farM a
  | 2 => (false || farM a) || farM b
  | _ => ((false || farM a) || farM b) || farM c
/-- What the walk carries: the list so far, and the instruction. -/
structure RZ (B bl : Nat) (W w : World) (op : Int) (n : Nat) (xs : List ByteArray) : Prop where
  sl : SL B bl W w xs
  x : w.cell? ⟨B, 0, none⟩ = some (.int .i64 op)
  lt : B < bl
  len : xs.length ≤ n
theorem RZ.alloc {B bl : Nat} {W w : World} {op : Int} {n : Nat} {xs : List ByteArray} (h : RZ B bl W w op n xs) (o : Obj) : RZ B bl W (w.alloc o) op n xs := by
  obtain ⟨⟨⟨v, hv, hown⟩, hb, hle⟩, hx, hlt, hn⟩ := h
  have hbl : bl < w.heap.size := (Array.getElem?_eq_some_iff.1 hv).1
  exact ⟨⟨⟨v, (Below.heap_alloc w o bl hbl).trans hv, hown.alloc o⟩, hb.alloc (by omega) o, hle⟩, (World.cell?_of_block (Below.heap_alloc w o B (by omega))).trans hx, hlt, hn⟩
theorem RZ.new {B : Nat} {W w : World} {op : Int} (hx : w.cell? ⟨B, 0, none⟩ = some (.int .i64 op)) (hb : Below B W w) (hz : B < w.heap.size) : RZ B w.heap.size W (w.alloc (.cells #[.slice none 0 0] 46)) op 0 [] :=
  ⟨⟨⟨_, heap_alloc_new w _, World.ownsRow_nil _ _ _ _⟩, hb.alloc (by omega) _, by omega⟩, (World.cell?_of_block (Below.heap_alloc w _ B hz)).trans hx, hz, Nat.le_refl _⟩
theorem add_rz (b : Bool) (s : ByteArray) {B bl : Nat} {W w : World} {op : Int} {n : Nat} {xs : List ByteArray} (h : RZ B bl W w op n xs) (hn : n < 1000) :
    Calls Tryd.prog 43 #[.bool b, .string s, .pointer (some ⟨bl, 0, none⟩)] w fun e w' => e = .returned (.tuple #[]) ∧ RZ B bl W w' op (n + 1) (xs ++ one? b s) := by
  cases b with
  | false => exact (add_no s bl w).mono fun e w' ⟨h1, h2⟩ => ⟨h1, h2 ▸ ⟨by simpa [one?] using h.sl, h.x, h.lt, by have := h.len; simp [one?]; omega⟩⟩
  | true => exact (add_yes s B bl W w xs h.sl (by have := h.len; omega)).mono fun e w' ⟨h1, h2, h3⟩ => ⟨h1, h2, (World.cell?_of_block (h3 B h.lt)).trans h.x, h.lt, by have := h.len; simp [one?]; omega⟩

theorem is_z0 (B bl : Nat) (W w : World) (op : Int) (n : Nat) (xs : List ByteArray) (h : RZ B bl W w op n xs) :
    Calls Tryd.prog 41 #[.slice (some ⟨w.heap.size, 0, none⟩) 9 9, .pointer (some ⟨B, 0, none⟩)] (w.alloc (.cells #[.int .i64 81, .int .i64 82, .int .i64 86, .int .i64 87, .int .i64 90, .int .i64 92, .int .i64 93, .int .i64 94, .int .i64 96] 3)) fun e w' => e = .returned (.bool (inL zl0 op)) ∧ RZ B bl W w' op n xs :=
  (is_calls _ _ _ zl0 op _ (by simp [zl0]) (by rw [show vals zl0 = #[.int .i64 81, .int .i64 82, .int .i64 86, .int .i64 87, .int .i64 90, .int .i64 92, .int .i64 93, .int .i64 94, .int .i64 96] from rfl]; exact heap_alloc_new _ _) (h.alloc _).x).mono fun e w' ⟨h1, h2⟩ => ⟨h1, h2 ▸ h.alloc _⟩
theorem is_z1 (B bl : Nat) (W w : World) (op : Int) (n : Nat) (xs : List ByteArray) (h : RZ B bl W w op n xs) :
    Calls Tryd.prog 41 #[.slice (some ⟨w.heap.size, 0, none⟩) 6 6, .pointer (some ⟨B, 0, none⟩)] (w.alloc (.cells #[.int .i64 7, .int .i64 8, .int .i64 17, .int .i64 18, .int .i64 27, .int .i64 28] 3)) fun e w' => e = .returned (.bool (inL zl1 op)) ∧ RZ B bl W w' op n xs :=
  (is_calls _ _ _ zl1 op _ (by simp [zl1]) (by rw [show vals zl1 = #[.int .i64 7, .int .i64 8, .int .i64 17, .int .i64 18, .int .i64 27, .int .i64 28] from rfl]; exact heap_alloc_new _ _) (h.alloc _).x).mono fun e w' ⟨h1, h2⟩ => ⟨h1, h2 ▸ h.alloc _⟩
theorem is_z2 (B bl : Nat) (W w : World) (op : Int) (n : Nat) (xs : List ByteArray) (h : RZ B bl W w op n xs) :
    Calls Tryd.prog 41 #[.slice (some ⟨w.heap.size, 0, none⟩) 7 7, .pointer (some ⟨B, 0, none⟩)] (w.alloc (.cells #[.int .i64 76, .int .i64 77, .int .i64 78, .int .i64 81, .int .i64 82, .int .i64 83, .int .i64 84] 3)) fun e w' => e = .returned (.bool (inL zl2 op)) ∧ RZ B bl W w' op n xs :=
  (is_calls _ _ _ zl2 op _ (by simp [zl2]) (by rw [show vals zl2 = #[.int .i64 76, .int .i64 77, .int .i64 78, .int .i64 81, .int .i64 82, .int .i64 83, .int .i64 84] from rfl]; exact heap_alloc_new _ _) (h.alloc _).x).mono fun e w' ⟨h1, h2⟩ => ⟨h1, h2 ▸ h.alloc _⟩
theorem is_z3 (B bl : Nat) (W w : World) (op : Int) (n : Nat) (xs : List ByteArray) (h : RZ B bl W w op n xs) :
    Calls Tryd.prog 41 #[.slice (some ⟨w.heap.size, 0, none⟩) 14 14, .pointer (some ⟨B, 0, none⟩)] (w.alloc (.cells #[.int .i64 44, .int .i64 45, .int .i64 49, .int .i64 50, .int .i64 74, .int .i64 77, .int .i64 78, .int .i64 79, .int .i64 83, .int .i64 85, .int .i64 89, .int .i64 91, .int .i64 104, .int .i64 108] 3)) fun e w' => e = .returned (.bool (inL zl3 op)) ∧ RZ B bl W w' op n xs :=
  (is_calls _ _ _ zl3 op _ (by simp [zl3]) (by rw [show vals zl3 = #[.int .i64 44, .int .i64 45, .int .i64 49, .int .i64 50, .int .i64 74, .int .i64 77, .int .i64 78, .int .i64 79, .int .i64 83, .int .i64 85, .int .i64 89, .int .i64 91, .int .i64 104, .int .i64 108] from rfl]; exact heap_alloc_new _ _) (h.alloc _).x).mono fun e w' ⟨h1, h2⟩ => ⟨h1, h2 ▸ h.alloc _⟩
theorem is_z4 (B bl : Nat) (W w : World) (op : Int) (n : Nat) (xs : List ByteArray) (h : RZ B bl W w op n xs) :
    Calls Tryd.prog 41 #[.slice (some ⟨w.heap.size, 0, none⟩) 1 1, .pointer (some ⟨B, 0, none⟩)] (w.alloc (.cells #[.int .i64 90] 3)) fun e w' => e = .returned (.bool (inL zl4 op)) ∧ RZ B bl W w' op n xs :=
  (is_calls _ _ _ zl4 op _ (by simp [zl4]) (by rw [show vals zl4 = #[.int .i64 90] from rfl]; exact heap_alloc_new _ _) (h.alloc _).x).mono fun e w' ⟨h1, h2⟩ => ⟨h1, h2 ▸ h.alloc _⟩
theorem is_z5 (B bl : Nat) (W w : World) (op : Int) (n : Nat) (xs : List ByteArray) (h : RZ B bl W w op n xs) :
    Calls Tryd.prog 41 #[.slice (some ⟨w.heap.size, 0, none⟩) 2 2, .pointer (some ⟨B, 0, none⟩)] (w.alloc (.cells #[.int .i64 98, .int .i64 99] 3)) fun e w' => e = .returned (.bool (inL zl5 op)) ∧ RZ B bl W w' op n xs :=
  (is_calls _ _ _ zl5 op _ (by simp [zl5]) (by rw [show vals zl5 = #[.int .i64 98, .int .i64 99] from rfl]; exact heap_alloc_new _ _) (h.alloc _).x).mono fun e w' ⟨h1, h2⟩ => ⟨h1, h2 ▸ h.alloc _⟩
theorem is_z6 (B bl : Nat) (W w : World) (op : Int) (n : Nat) (xs : List ByteArray) (h : RZ B bl W w op n xs) :
    Calls Tryd.prog 41 #[.slice (some ⟨w.heap.size, 0, none⟩) 2 2, .pointer (some ⟨B, 0, none⟩)] (w.alloc (.cells #[.int .i64 100, .int .i64 101] 3)) fun e w' => e = .returned (.bool (inL zl6 op)) ∧ RZ B bl W w' op n xs :=
  (is_calls _ _ _ zl6 op _ (by simp [zl6]) (by rw [show vals zl6 = #[.int .i64 100, .int .i64 101] from rfl]; exact heap_alloc_new _ _) (h.alloc _).x).mono fun e w' ⟨h1, h2⟩ => ⟨h1, h2 ▸ h.alloc _⟩
theorem raises_err (op a1 a2 a3 b1 b2 b3 c1 c2 c3 : Int) (w : World) (hne : chkI op a1 a2 a3 b1 b2 b3 c1 c2 c3 ≠ 0) :
    Calls Tryd.prog 23 #[.agg #[.int .i64 op, .int .i64 a1, .int .i64 a2, .int .i64 a3, .int .i64 b1, .int .i64 b2, .int .i64 b3, .int .i64 c1, .int .i64 c2, .int .i64 c3]] w fun e w' => e = .returned (.tuple #[.slice none 0 0, .int .i64 (chkI op a1 a2 a3 b1 b2 b3 c1 c2 c3)]) ∧ Below w.heap.size w w' := by
  have HC := Lib.hid (fun w => check_calls op a1 a2 a3 b1 b2 b3 c1 c2 c3 w)
  generalize chkI op a1 a2 a3 b1 b2 b3 c1 c2 c3 = r at *
  have hne' : (r != 0) = true := by simpa using hne
  clear hne
  go_enter Tryd.func23, Tryd.ntmps23
  go_wp2_with (go_at_call 21; refine (HC.out _).mono ?_; rintro e w1 ⟨rfl, hb⟩)
  all_goals go_ret2
  all_goals exact ⟨rfl, Below.step ((Below.refl _ _).alloc (Nat.le_refl _) _) hb⟩

set_option maxHeartbeats 4000000 in
theorem raises_ok (op a1 a2 a3 b1 b2 b3 c1 c2 c3 : Int) (w : World) (heq : chkI op a1 a2 a3 b1 b2 b3 c1 c2 c3 = 0) :
    Calls Tryd.prog 23 #[.agg #[.int .i64 op, .int .i64 a1, .int .i64 a2, .int .i64 a3, .int .i64 b1, .int .i64 b2, .int .i64 b3, .int .i64 c1, .int .i64 c2, .int .i64 c3]] w fun e w' => ∃ v, e = .returned (.tuple #[v, .int .i64 0]) ∧ w'.ownsRow w.heap.size 9 1 v (raisesI op (farM a1 || farM b1 || farM c1)).length (strs (raisesI op (farM a1 || farM b1 || farM c1))) ∧ Below w.heap.size w w' := by
  have hC := fun w => check_calls op a1 a2 a3 b1 b2 b3 c1 c2 c3 w
  rw [heq] at hC
  have HC := Lib.hid hC
  clear hC heq
  have BX := Lib.hid ((Below.refl _ w).alloc (Nat.le_refl _) (.cells #[.int .i64 op, .int .i64 a1, .int .i64 a2, .int .i64 a3, .int .i64 b1, .int .i64 b2, .int .i64 b3, .int .i64 c1, .int .i64 c2, .int .i64 c3] 40))
  go_enter Tryd.func23, Tryd.ntmps23
  go_wp2_with (go_at_call 21; refine (HC.out _).mono ?_; rintro e w1 ⟨rfl, hb⟩; obtain ⟨hc, hf⟩ := bcell hb; have hz : w.heap.size < w1.heap.size := (by have := hb.size; simp at this; omega); have HB := Lib.hid (Below.step BX.out hb); clear hb)
  have hx : w1.cell? ⟨w.heap.size, 0, none⟩ = some (.int .i64 op) := by go_simp
  have HX := Lib.hid hx
  have HZ := Lib.hid hz
  clear hc hf hx hz
  go_loopw [5, 23] (fun far i wr => ∃ j : Nat, j ≤ 3 ∧ i = .int .i64 j ∧ ∃ f : Bool, far = .bool f ∧ Hid (f = pf a1 b1 c1 j) ∧ Hid (wr.cell? ⟨w.heap.size, 0, none⟩ = some (.int .i64 op)) ∧ Hid (Below w.heap.size w wr) ∧ Hid (w.heap.size < wr.heap.size)) (fun _ i _ => 3 - (intOf i).toNat)
  case atStart => exact ⟨0, by omega, rfl, false, rfl, Lib.hid rfl, HX, HB, HZ⟩
  case round =>
    obtain ⟨j, hj, rfl, f, rfl, hf, hx, hB, hz⟩ := hrel
    have : j = 0 ∨ j = 1 ∨ j = 2 ∨ j = 3 := by omega
    rcases this with rfl | rfl | rfl | rfl
    · have ix : ∀ w, (Instr.index 77 (.agg #[.int .i64 a1, .int .i64 a2, .int .i64 a3, .int .i64 b1, .int .i64 b2, .int .i64 b3, .int .i64 c1, .int .i64 c2, .int .i64 c3]) (.int .i64 0)).run Tryd.prog w = .ok (.agg #[.int .i64 a1, .int .i64 a2, .int .i64 a3]) w := fun _ => by kernel_rfl
      cases f
      · cases h4 : (a1 == 4) <;> cases h5 : (a1 == 5)
        · go_wp2
          go_roundw
          case rel => exact ⟨1, by omega, rfl, _, rfl, Lib.hid (by rw [show pf a1 b1 c1 1 = (pf a1 b1 c1 0 || farM a1) from rfl, ← hf.out]; simp [farM, h4, h5]), Lib.hid ((World.cell?_of_block (Below.heap_alloc _ _ _ hz.out)).trans hx.out), Lib.hid (hB.out.alloc (by have := hz.out; omega) _), Lib.hid (by have := hz.out; simp; omega)⟩
          case measure => simp [intOf]
        · go_wp2
          go_roundw
          case rel => exact ⟨1, by omega, rfl, _, rfl, Lib.hid (by rw [show pf a1 b1 c1 1 = (pf a1 b1 c1 0 || farM a1) from rfl, ← hf.out]; simp [farM, h4, h5]), Lib.hid ((World.cell?_of_block (Below.heap_alloc _ _ _ hz.out)).trans hx.out), Lib.hid (hB.out.alloc (by have := hz.out; omega) _), Lib.hid (by have := hz.out; simp; omega)⟩
          case measure => simp [intOf]
        · go_wp2
          go_roundw
          case rel => exact ⟨1, by omega, rfl, _, rfl, Lib.hid (by rw [show pf a1 b1 c1 1 = (pf a1 b1 c1 0 || farM a1) from rfl, ← hf.out]; simp [farM, h4, h5]), Lib.hid ((World.cell?_of_block (Below.heap_alloc _ _ _ hz.out)).trans hx.out), Lib.hid (hB.out.alloc (by have := hz.out; omega) _), Lib.hid (by have := hz.out; simp; omega)⟩
          case measure => simp [intOf]
        · go_wp2
          go_roundw
          case rel => exact ⟨1, by omega, rfl, _, rfl, Lib.hid (by rw [show pf a1 b1 c1 1 = (pf a1 b1 c1 0 || farM a1) from rfl, ← hf.out]; simp [farM, h4, h5]), Lib.hid ((World.cell?_of_block (Below.heap_alloc _ _ _ hz.out)).trans hx.out), Lib.hid (hB.out.alloc (by have := hz.out; omega) _), Lib.hid (by have := hz.out; simp; omega)⟩
          case measure => simp [intOf]
      · go_wp2
        go_roundw
        case rel => exact ⟨1, by omega, rfl, _, rfl, Lib.hid (by rw [show pf a1 b1 c1 1 = (pf a1 b1 c1 0 || farM a1) from rfl, ← hf.out]; simp [farM]), Lib.hid ((World.cell?_of_block (Below.heap_alloc _ _ _ hz.out)).trans hx.out), Lib.hid (hB.out.alloc (by have := hz.out; omega) _), Lib.hid (by have := hz.out; simp; omega)⟩
        case measure => simp [intOf]
    · have ix : ∀ w, (Instr.index 77 (.agg #[.int .i64 a1, .int .i64 a2, .int .i64 a3, .int .i64 b1, .int .i64 b2, .int .i64 b3, .int .i64 c1, .int .i64 c2, .int .i64 c3]) (.int .i64 1)).run Tryd.prog w = .ok (.agg #[.int .i64 b1, .int .i64 b2, .int .i64 b3]) w := fun _ => by kernel_rfl
      cases f
      · cases h4 : (b1 == 4) <;> cases h5 : (b1 == 5)
        · go_wp2
          go_roundw
          case rel => exact ⟨2, by omega, rfl, _, rfl, Lib.hid (by rw [show pf a1 b1 c1 2 = (pf a1 b1 c1 1 || farM b1) from rfl, ← hf.out]; simp [farM, h4, h5]), Lib.hid ((World.cell?_of_block (Below.heap_alloc _ _ _ hz.out)).trans hx.out), Lib.hid (hB.out.alloc (by have := hz.out; omega) _), Lib.hid (by have := hz.out; simp; omega)⟩
          case measure => simp [intOf]
        · go_wp2
          go_roundw
          case rel => exact ⟨2, by omega, rfl, _, rfl, Lib.hid (by rw [show pf a1 b1 c1 2 = (pf a1 b1 c1 1 || farM b1) from rfl, ← hf.out]; simp [farM, h4, h5]), Lib.hid ((World.cell?_of_block (Below.heap_alloc _ _ _ hz.out)).trans hx.out), Lib.hid (hB.out.alloc (by have := hz.out; omega) _), Lib.hid (by have := hz.out; simp; omega)⟩
          case measure => simp [intOf]
        · go_wp2
          go_roundw
          case rel => exact ⟨2, by omega, rfl, _, rfl, Lib.hid (by rw [show pf a1 b1 c1 2 = (pf a1 b1 c1 1 || farM b1) from rfl, ← hf.out]; simp [farM, h4, h5]), Lib.hid ((World.cell?_of_block (Below.heap_alloc _ _ _ hz.out)).trans hx.out), Lib.hid (hB.out.alloc (by have := hz.out; omega) _), Lib.hid (by have := hz.out; simp; omega)⟩
          case measure => simp [intOf]
        · go_wp2
          go_roundw
          case rel => exact ⟨2, by omega, rfl, _, rfl, Lib.hid (by rw [show pf a1 b1 c1 2 = (pf a1 b1 c1 1 || farM b1) from rfl, ← hf.out]; simp [farM, h4, h5]), Lib.hid ((World.cell?_of_block (Below.heap_alloc _ _ _ hz.out)).trans hx.out), Lib.hid (hB.out.alloc (by have := hz.out; omega) _), Lib.hid (by have := hz.out; simp; omega)⟩
          case measure => simp [intOf]
      · go_wp2
        go_roundw
        case rel => exact ⟨2, by omega, rfl, _, rfl, Lib.hid (by rw [show pf a1 b1 c1 2 = (pf a1 b1 c1 1 || farM b1) from rfl, ← hf.out]; simp [farM]), Lib.hid ((World.cell?_of_block (Below.heap_alloc _ _ _ hz.out)).trans hx.out), Lib.hid (hB.out.alloc (by have := hz.out; omega) _), Lib.hid (by have := hz.out; simp; omega)⟩
        case measure => simp [intOf]
    · have ix : ∀ w, (Instr.index 77 (.agg #[.int .i64 a1, .int .i64 a2, .int .i64 a3, .int .i64 b1, .int .i64 b2, .int .i64 b3, .int .i64 c1, .int .i64 c2, .int .i64 c3]) (.int .i64 2)).run Tryd.prog w = .ok (.agg #[.int .i64 c1, .int .i64 c2, .int .i64 c3]) w := fun _ => by kernel_rfl
      cases f
      · cases h4 : (c1 == 4) <;> cases h5 : (c1 == 5)
        · go_wp2
          go_roundw
          case rel => exact ⟨3, by omega, rfl, _, rfl, Lib.hid (by rw [show pf a1 b1 c1 3 = (pf a1 b1 c1 2 || farM c1) from rfl, ← hf.out]; simp [farM, h4, h5]), Lib.hid ((World.cell?_of_block (Below.heap_alloc _ _ _ hz.out)).trans hx.out), Lib.hid (hB.out.alloc (by have := hz.out; omega) _), Lib.hid (by have := hz.out; simp; omega)⟩
          case measure => simp [intOf]
        · go_wp2
          go_roundw
          case rel => exact ⟨3, by omega, rfl, _, rfl, Lib.hid (by rw [show pf a1 b1 c1 3 = (pf a1 b1 c1 2 || farM c1) from rfl, ← hf.out]; simp [farM, h4, h5]), Lib.hid ((World.cell?_of_block (Below.heap_alloc _ _ _ hz.out)).trans hx.out), Lib.hid (hB.out.alloc (by have := hz.out; omega) _), Lib.hid (by have := hz.out; simp; omega)⟩
          case measure => simp [intOf]
        · go_wp2
          go_roundw
          case rel => exact ⟨3, by omega, rfl, _, rfl, Lib.hid (by rw [show pf a1 b1 c1 3 = (pf a1 b1 c1 2 || farM c1) from rfl, ← hf.out]; simp [farM, h4, h5]), Lib.hid ((World.cell?_of_block (Below.heap_alloc _ _ _ hz.out)).trans hx.out), Lib.hid (hB.out.alloc (by have := hz.out; omega) _), Lib.hid (by have := hz.out; simp; omega)⟩
          case measure => simp [intOf]
        · go_wp2
          go_roundw
          case rel => exact ⟨3, by omega, rfl, _, rfl, Lib.hid (by rw [show pf a1 b1 c1 3 = (pf a1 b1 c1 2 || farM c1) from rfl, ← hf.out]; simp [farM, h4, h5]), Lib.hid ((World.cell?_of_block (Below.heap_alloc _ _ _ hz.out)).trans hx.out), Lib.hid (hB.out.alloc (by have := hz.out; omega) _), Lib.hid (by have := hz.out; simp; omega)⟩
          case measure => simp [intOf]
      · go_wp2
        go_roundw
        case rel => exact ⟨3, by omega, rfl, _, rfl, Lib.hid (by rw [show pf a1 b1 c1 3 = (pf a1 b1 c1 2 || farM c1) from rfl, ← hf.out]; simp [farM]), Lib.hid ((World.cell?_of_block (Below.heap_alloc _ _ _ hz.out)).trans hx.out), Lib.hid (hB.out.alloc (by have := hz.out; omega) _), Lib.hid (by have := hz.out; simp; omega)⟩
        case measure => simp [intOf]
    · have HF := Lib.hid hf.out
      have HN := Lib.hid (show RZ w.heap.size wr.heap.size w (wr.alloc (.cells #[.slice none 0 0] 46)) op 0 [] from RZ.new hx.out hB.out hz.out)
      have hlt := hz.out
      clear hj hf hx hB hz
      cases f
      · have t0 := trivial; have t1 := trivial; have t2 := trivial; have t3 := trivial; have t4 := trivial; have t5 := trivial; have t6 := trivial;
        have h0 := is_z0 _ _ _ _ _ _ _ HN.out
        rw [show (wr.alloc (.cells #[.slice none 0 0] 46)).heap.size = wr.heap.size + 1 by simp] at h0
        have H0 := Lib.hid h0
        clear h0
        have RX := HN
        clear HN
        go_wp2_with (first
          | (clear t0; go_at_call 41; refine H0.out.mono ?_; rintro e w9 ⟨rfl, RX1⟩; replace RX := Lib.hid RX1; clear RX1)
          | (clear t1; go_at_call 41; refine (is_z1 _ _ _ _ _ _ _ RX.out).mono ?_; rintro e w9 ⟨rfl, RX1⟩; replace RX := Lib.hid RX1; clear RX1)
          | (clear t2; go_at_call 41; refine (is_z2 _ _ _ _ _ _ _ RX.out).mono ?_; rintro e w9 ⟨rfl, RX1⟩; replace RX := Lib.hid RX1; clear RX1)
          | (clear t3; go_at_call 41; refine (is_z3 _ _ _ _ _ _ _ RX.out).mono ?_; rintro e w9 ⟨rfl, RX1⟩; replace RX := Lib.hid RX1; clear RX1)
          | (clear t4; go_at_call 41; refine (is_z4 _ _ _ _ _ _ _ RX.out).mono ?_; rintro e w9 ⟨rfl, RX1⟩; replace RX := Lib.hid RX1; clear RX1)
          | (clear t5; go_at_call 41; refine (is_z5 _ _ _ _ _ _ _ RX.out).mono ?_; rintro e w9 ⟨rfl, RX1⟩; replace RX := Lib.hid RX1; clear RX1)
          | (clear t6; go_at_call 41; refine (is_z6 _ _ _ _ _ _ _ RX.out).mono ?_; rintro e w9 ⟨rfl, RX1⟩; replace RX := Lib.hid RX1; clear RX1)
          | (go_at_call 43; refine (add_rz _ _ RX.out (by omega)).mono ?_; rintro e w9 ⟨rfl, RX1⟩; replace RX := Lib.hid RX1; clear RX1; (try clear HO hcell); obtain ⟨v, hv, hown⟩ := RX.out.sl.ex; have hcell := cell_of_heap (j := 0) (v := v) hv rfl; have HO := Lib.hid hown; clear hv hown))
        all_goals
          go_ret2
          have hfar : (farM a1 || farM b1 || farM c1) = false := by have := HF.out; simpa [pf] using this.symm
          rw [hfar]
          exact ⟨v, rfl, HO.out.mono (base' := w.heap.size) (by omega), RX.out.sl.below⟩
      · have t0 := trivial; have t1 := trivial; have t2 := trivial; have t3 := trivial; have t4 := trivial; have t5 := trivial; have t6 := trivial;
        have RX := HN
        clear HN
        go_wp2_with (first
          | (clear t1; go_at_call 41; refine (is_z1 _ _ _ _ _ _ _ RX.out).mono ?_; rintro e w9 ⟨rfl, RX1⟩; replace RX := Lib.hid RX1; clear RX1)
          | (clear t2; go_at_call 41; refine (is_z2 _ _ _ _ _ _ _ RX.out).mono ?_; rintro e w9 ⟨rfl, RX1⟩; replace RX := Lib.hid RX1; clear RX1)
          | (clear t3; go_at_call 41; refine (is_z3 _ _ _ _ _ _ _ RX.out).mono ?_; rintro e w9 ⟨rfl, RX1⟩; replace RX := Lib.hid RX1; clear RX1)
          | (clear t4; go_at_call 41; refine (is_z4 _ _ _ _ _ _ _ RX.out).mono ?_; rintro e w9 ⟨rfl, RX1⟩; replace RX := Lib.hid RX1; clear RX1)
          | (clear t5; go_at_call 41; refine (is_z5 _ _ _ _ _ _ _ RX.out).mono ?_; rintro e w9 ⟨rfl, RX1⟩; replace RX := Lib.hid RX1; clear RX1)
          | (clear t6; go_at_call 41; refine (is_z6 _ _ _ _ _ _ _ RX.out).mono ?_; rintro e w9 ⟨rfl, RX1⟩; replace RX := Lib.hid RX1; clear RX1)
          | (go_at_call 43; refine (add_rz _ _ RX.out (by omega)).mono ?_; rintro e w9 ⟨rfl, RX1⟩; replace RX := Lib.hid RX1; clear RX1; (try clear HO hcell); obtain ⟨v, hv, hown⟩ := RX.out.sl.ex; have hcell := cell_of_heap (j := 0) (v := v) hv rfl; have HO := Lib.hid hown; clear hv hown))
        all_goals
          go_ret2
          have hfar : (farM a1 || farM b1 || farM c1) = true := by have := HF.out; simpa [pf] using this.symm
          rw [hfar]
          exact ⟨v, rfl, HO.out.mono (base' := w.heap.size) (by omega), RX.out.sl.below⟩
end Go.Proofs.YtadkbcdopcehhaaDoor
