/- Contracts of the small functions of package inst: index, Letter, Form, most, Ends. -/
import Derived.Test.YtadkbcdopcehhaaDoorShelf
import Derived.WalkKit
import Derived.KernelRfl
import Derived.Lib.Hide
import Derived.WalkSpells
namespace Go.Proofs.YtadkbcdopcehhaaDoor
open Go.RowKit

/-- Where a byte stands in a list, or -1. -/
def ib (l : List UInt8) (c : Int) : Int := Lib.indexByte l c.toNat.toUInt8

theorem ib_calls (l : List UInt8) (c : Int) (w : World) :
    Calls Tryd.prog 35 #[.string ⟨l.toArray⟩, .int .u8 c] w fun e w' => e = .returned (.int .i64 (ib l c)) ∧ w = w' :=
  (Tryd.strings_IndexByte ⟨l.toArray⟩ c w).mono fun _ _ ⟨h1, h2⟩ => ⟨by rw [h1]; simp [ib], h2.symm⟩

def idxL : List UInt8 := [100, 106, 115, 116, 117, 102, 101, 105, 107, 103, 119]

theorem index_calls (c : Int) (w : World) :
    Calls Tryd.prog 34 #[.int .u8 c] w fun e w' => e = .returned (.bool (decide (0 ≤ ib idxL c))) ∧ w = w' := by
  go_enter Tryd.func34, Tryd.ntmps34
  go_wp2_with (go_at_call 35; refine (ib_calls _ _ _).mono ?_; rintro e w' ⟨rfl, rfl⟩)
  all_goals (go_ret; exact ⟨rfl, rfl⟩)

def kindsL : List UInt8 := [45, 32, 110, 78, 32, 99, 67, 88, 32, 97, 65, 89, 32, 108, 76, 90, 32, 104, 72, 32, 114, 82, 32, 109, 77, 32, 112, 113, 32, 118, 86, 32, 98, 66]
def rdL : List UInt8 := [110, 99, 88, 118, 112, 113, 97, 89, 108, 90, 104, 114, 109, 98]
def wrL : List UInt8 := [78, 67, 88, 86, 65, 89, 76, 90, 72, 82, 77, 66]

theorem ib_at (l : List UInt8) (c : Int) (w : World) (p : Int) (h : ib l c = p) :
    Calls Tryd.prog 35 #[.string ⟨l.toArray⟩, .int .u8 c] w fun e w' => e = .returned (.int .i64 p) ∧ w = w' := h ▸ ib_calls l c w

theorem count_at (s : ByteArray) (w : World) (n : Int) (h : (Lib.countByte s.data.toList 32 : Int) = n) :
    Calls Tryd.prog 36 #[.string s, .string ⟨#[32]⟩] w fun e w' => e = .returned (.int .i64 n) ∧ w = w' :=
  (Tryd.strings_Count_one s 32 w).mono fun _ _ ⟨h1, h2⟩ => ⟨h ▸ h1, h2.symm⟩

theorem index_at (c : Int) (w : World) (b : Bool) (h : decide (0 ≤ ib idxL c) = b) :
    Calls Tryd.prog 34 #[.int .u8 c] w fun e w' => e = .returned (.bool b) ∧ w = w' := h ▸ index_calls c w

theorem letter_index (c : Int) (w : World) (h : decide (0 ≤ ib idxL c) = true) :
    Calls Tryd.prog 18 #[.int .u8 c] w fun e w' => e = .returned (.tuple #[.agg #[.int .i64 11, .bool false, .bool false, .bool false], .bool true]) ∧ Below w.heap.size w w' := by
  have H := Lib.hid h
  clear h
  go_enter Tryd.func18, Tryd.ntmps18
  go_wp2_with (go_at_call 34; refine (index_at _ _ true H.out).mono ?_; rintro e w' ⟨rfl, rfl⟩)
  exact bodyPost_ret (v := .tuple #[.agg #[.int .i64 11, .bool false, .bool false, .bool false], .bool true]) (by simp [results, Tryd.results18, go_sem]) rfl ⟨rfl, (Below.refl _ _).alloc (Nat.le_refl _) _⟩

theorem letter_none (c : Int) (w : World) (p : Int) (h : decide (0 ≤ ib idxL c) = false) (hp : ib kindsL c = p) (h2 : p < 0 ∨ c = 32) :
    Calls Tryd.prog 18 #[.int .u8 c] w fun e w' => e = .returned (.tuple #[.agg #[.int .i64 0, .bool false, .bool false, .bool false], .bool false]) ∧ Below w.heap.size w w' := by
  have H := Lib.hid h
  have HP := Lib.hid hp
  clear h hp
  by_cases hlt : p < 0
  · clear h2
    go_enter Tryd.func18, Tryd.ntmps18
    go_wp2_with (first
      | (go_at_call 34; refine (index_at _ _ false H.out).mono ?_; rintro e w' ⟨rfl, rfl⟩)
      | (go_at_call 35; refine (ib_at _ _ _ p HP.out).mono ?_; rintro e w' ⟨rfl, rfl⟩))
    exact bodyPost_ret (v := .tuple #[.agg #[.int .i64 0, .bool false, .bool false, .bool false], .bool false]) (by simp [results, Tryd.results18, go_sem]) rfl ⟨rfl, (Below.refl _ _).alloc (Nat.le_refl _) _⟩
  · obtain rfl := h2.resolve_left hlt
    go_enter Tryd.func18, Tryd.ntmps18
    go_wp2_with (first
      | (go_at_call 34; refine (index_at _ _ false H.out).mono ?_; rintro e w' ⟨rfl, rfl⟩)
      | (go_at_call 35; refine (ib_at _ _ _ p HP.out).mono ?_; rintro e w' ⟨rfl, rfl⟩))
    exact bodyPost_ret (v := .tuple #[.agg #[.int .i64 0, .bool false, .bool false, .bool false], .bool false]) (by simp [results, Tryd.results18, go_sem]) rfl ⟨rfl, (Below.refl _ _).alloc (Nat.le_refl _) _⟩

theorem letter_some (c : Int) (w : World) (p n : Int) (rd wr : Bool) (r1 r2 : Int) (h : decide (0 ≤ ib idxL c) = false) (hp : ib kindsL c = p) (h0 : 0 ≤ p) (h1 : p ≤ 34) (h2 : c ≠ 32)
    (hn : (Lib.countByte ((⟨kindsL.toArray⟩ : ByteArray).extract 0 p.toNat).data.toList 32 : Int) = n) (hr1 : ib rdL c = r1) (hr2 : ib wrL c = r2) (hrd : decide (0 ≤ r1) = rd) (hwr : decide (0 ≤ r2) = wr) :
    Calls Tryd.prog 18 #[.int .u8 c] w fun e w' => e = .returned (.tuple #[.agg #[.int .i64 n, .bool rd, .bool wr, .bool (c == 118 || c == 113)], .bool true]) ∧ Below w.heap.size w w' := by
  have H := Lib.hid h
  have HP := Lib.hid hp
  have HN := Lib.hid hn
  have HR1 := Lib.hid hr1
  have HR2 := Lib.hid hr2
  clear h hp hn hr1 hr2
  have hnl : ¬ p < 0 := by omega
  have hc32 : (c == 32) = false := by simpa using h2
  have t1 : True := trivial
  have t2 : True := trivial
  have t3 : True := trivial
  go_enter Tryd.func18, Tryd.ntmps18
  go_wp2_with (first
      | (go_at_call 34; refine (index_at _ _ false H.out).mono ?_; rintro e w' ⟨rfl, rfl⟩)
      | (go_at_call 35; have _t := t1; refine (ib_at _ _ _ p HP.out).mono ?_; rintro e w' ⟨rfl, rfl⟩; clear t1)
      | (go_at_call 35; have _t := t2; refine (ib_at _ _ _ r1 HR1.out).mono ?_; rintro e w' ⟨rfl, rfl⟩; clear t2)
      | (go_at_call 35; have _t := t3; refine (ib_at _ _ _ r2 HR2.out).mono ?_; rintro e w' ⟨rfl, rfl⟩; clear t3)
      | (go_at_call 36; refine (count_at _ _ n HN.out).mono ?_; rintro e w' ⟨rfl, rfl⟩))
  all_goals exact bodyPost_ret (v := .tuple #[.agg #[.int .i64 n, .bool rd, .bool wr, .bool (c == 118 || c == 113)], .bool true]) (by simp [results, Tryd.results18, go_sem, *]) rfl ⟨rfl, (Below.refl _ _).alloc (Nat.le_refl _) _⟩

/-- The meaning of a letter, as package inst computes it. -/
def letIdx (c : Int) : Bool := decide (0 ≤ ib idxL c)
def letNo (c : Int) : Bool := decide (ib kindsL c < 0) || c == 32
def letK (c : Int) : Int := if letIdx c then 11 else if letNo c then 0 else Lib.countByte ((⟨kindsL.toArray⟩ : ByteArray).extract 0 (ib kindsL c).toNat).data.toList 32
def letR (c : Int) : Bool := if letIdx c then false else if letNo c then false else decide (0 ≤ ib rdL c)
def letW (c : Int) : Bool := if letIdx c then false else if letNo c then false else decide (0 ≤ ib wrL c)
def letN (c : Int) : Bool := if letIdx c then false else if letNo c then false else c == 118 || c == 113
def letKn (c : Int) : Bool := if letIdx c then true else !letNo c

theorem kinds_le : ∀ c : Fin 256, ib kindsL (c.val : Int) ≤ 34 := by decide +kernel

theorem letter_calls (c : Int) (w : World) (h0 : 0 ≤ c) (h1 : c ≤ 255) :
    Calls Tryd.prog 18 #[.int .u8 c] w fun e w' => e = .returned (.tuple #[.agg #[.int .i64 (letK c), .bool (letR c), .bool (letW c), .bool (letN c)], .bool (letKn c)]) ∧ Below w.heap.size w w' := by
  unfold letK letR letW letN letKn
  cases hi : letIdx c with
  | true => simpa using letter_index c w hi
  | false =>
    cases hn : letNo c with
    | true =>
      unfold letNo at hn
      simpa using letter_none c w (ib kindsL c) hi rfl (by simpa using hn)
    | false =>
      unfold letNo at hn
      simp only [Bool.or_eq_false_iff, decide_eq_false_iff_not, beq_eq_false_iff_ne] at hn
      have hle : ib kindsL c ≤ 34 := by
        have := kinds_le ⟨c.toNat, by omega⟩
        rwa [show ((⟨c.toNat, by omega⟩ : Fin 256).val : Int) = c by simp; omega] at this
      simpa using letter_some c w (ib kindsL c) _ _ _ _ _ hi rfl (by omega) hle hn.2 rfl rfl rfl rfl rfl
end Go.Proofs.YtadkbcdopcehhaaDoor
