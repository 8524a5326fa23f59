/- Contracts of the reference's one and Raises. -/
import Derived.Test.YtadkbcdopcehhaaDoorD1
namespace Go.Proofs.YtadkbcdopcehhaaDoor
open Go.RowKit Mp

def mid (name : ByteArray) : ByteArray := ⟨#[32]⟩ ++ name ++ ⟨#[32]⟩
def oneI (name l : ByteArray) : Bool := (List.range (l.size + 1)).any fun i => decide (i + name.size + 2 ≤ l.size) && decide (l.extract i (i + name.size + 2) = mid name)
theorem one_calls (name l : ByteArray) (w : World) (hl : l.size ≤ 1000) (hn : name.size ≤ 1000) :
    Calls Tryd.prog 44 #[.string name, .string l] w fun e w' => e = .returned (.bool (oneI name l)) ∧ w = w' := by
  go_enter Tryd.func44, Tryd.ntmps44
  go_wp2
  go_loop [5] (fun i => ∃ k : Nat, k ≤ l.size ∧ i = .int .i64 k ∧ Hid (∀ j, j < k → j + name.size + 2 ≤ l.size → l.extract j (j + name.size + 2) ≠ mid name)) (fun i => l.size - (intOf i).toNat)
  case atStart => exact ⟨0, by omega, rfl, fun j hj => by omega⟩
  case round =>
    obtain ⟨k, hk, rfl, hz⟩ := hrel
    by_cases hlt : k + name.size + 2 ≤ l.size
    · have e1 : ((k : Int)).toNat = k := by omega
      have e2 : ((k : Int) + (name.size : Int) + 2).toNat = k + name.size + 2 := by omega
      by_cases he : l.extract k (k + name.size + 2) = mid name
      · have hw : oneI name l = true := by
          unfold oneI
          rw [List.any_eq_true]
          exact ⟨k, List.mem_range.2 (by omega), by simp [he, hlt]⟩
        have HW := Lib.hid hw
        have hb : ((l.extract k (k + name.size + 2)).toList == (mid name).toList) = true := by rw [he]; simp
        unfold mid at hb
        clear hw he hz
        go_wp2
        go_ret
        rw [HW.out]
        exact ⟨rfl, rfl⟩
      · have hb := str_ne he
        unfold mid at hb
        have HZ : Hid (∀ j, j < k + 1 → j + name.size + 2 ≤ l.size → l.extract j (j + name.size + 2) ≠ mid name) := fun j hj => by
          by_cases e : j = k
          · subst e; exact fun _ => he
          · exact hz.out j (by omega)
        clear he hz
        go_wp2
        go_round
        case rel => exact ⟨k + 1, by omega, by go_num, HZ⟩
        case measure => simp [intOf]; omega
    · have hw : oneI name l = false := by
        unfold oneI
        rw [List.any_eq_false]
        intro x hx
        by_cases h : x < k
        · have := hz.out x h
          simp only [Bool.and_eq_true, decide_eq_true_eq, not_and]
          exact fun h1 => this h1
        · simp only [Bool.and_eq_true, decide_eq_true_eq, not_and]
          exact fun h1 => by omega
      have HW := Lib.hid hw
      clear hw hz
      go_wp2
      go_ret
      rw [HW.out]
      exact ⟨rfl, rfl⟩
def oneT (m : List UInt8) : List UInt8 → Bool
  | [] => m.isPrefixOf []
  | x :: xs => m.isPrefixOf (x :: xs) || oneT m xs
theorem oneT_iff (m l : List UInt8) : oneT m l = true ↔ ∃ i, i ≤ l.length ∧ m <+: l.drop i := by
  induction l with
  | nil => simp [oneT]
  | cons x xs ih =>
    simp only [oneT, Bool.or_eq_true, ih, List.isPrefixOf_iff_prefix]
    constructor
    · rintro (h | ⟨i, h1, h2⟩)
      · exact ⟨0, by simp, h⟩
      · exact ⟨i + 1, by simp; omega, h2⟩
    · rintro ⟨i, h1, h2⟩
      cases i with
      | zero => exact .inl h2
      | succ i => exact .inr ⟨i, by simp at h1; omega, h2⟩
theorem ext_list (b : ByteArray) (i j : Nat) : (b.extract i j).data.toList = (b.data.toList.drop i).take (j - i) := by
  simp [ByteArray.data_extract, List.take_drop]
theorem mid_list (s : ByteArray) : (mid s).data.toList = 32 :: (s.data.toList ++ [32]) := by
  unfold mid; simp
theorem ba_ext {a b : ByteArray} : a = b ↔ a.data.toList = b.data.toList := by
  constructor
  · rintro rfl; rfl
  · intro h
    cases a; cases b; simp at h ⊢; exact h
theorem oneI_eq (s l : ByteArray) : oneI s l = oneT (32 :: (s.data.toList ++ [32])) l.data.toList := by
  rw [Bool.eq_iff_iff, oneT_iff, ← mid_list]
  have hm : (mid s).data.toList.length = s.size + 2 := by rw [mid_list]; simp
  have hs : l.data.toList.length = l.size := by simp
  unfold oneI
  simp only [List.any_eq_true, List.mem_range, Bool.and_eq_true, decide_eq_true_eq, ba_ext, ext_list]
  constructor
  · rintro ⟨i, h1, h2, h3⟩
    refine ⟨i, by omega, ?_⟩
    rw [← h3]
    exact List.take_prefix _ _
  · rintro ⟨i, h1, h2⟩
    have hle := h2.length_le
    rw [List.length_drop] at hle
    refine ⟨i, by omega, by omega, ?_⟩
    have := List.prefix_iff_eq_take.1 h2
    rw [hm] at this
    rw [show i + s.size + 2 - i = s.size + 2 by omega]
    exact this.symm
theorem one_at (tx : List UInt8) (zs : List Int) (h : ∀ k : Fin 111, oneT (32 :: (namesL.getD k.val [] ++ [32])) tx = zs.contains (k.val : Int)) (hl : tx.length ≤ 1000) (k : Nat) (hk : k < 111) (w : World) :
    Calls Tryd.prog 44 #[.string (nm k), .string ⟨tx.toArray⟩] w fun e w' => e = .returned (.bool (zs.contains (k : Int))) ∧ w = w' := by
  have h1 : oneI (nm k) ⟨tx.toArray⟩ = zs.contains (k : Int) := by rw [oneI_eq]; exact h ⟨k, hk⟩
  have h2 : (nm k).size ≤ 1000 := by
    have : ∀ k : Fin 111, (namesL.getD k.val []).length ≤ 1000 := by decide +kernel
    exact this ⟨k, hk⟩
  rw [← h1]
  exact one_calls _ _ w hl h2
def tx0 : List UInt8 := [32, 103, 101, 116, 32, 112, 117, 116, 32, 104, 101, 97, 100, 32, 116, 97, 105, 108, 32, 97, 114, 109, 32, 115, 101, 110, 100, 32, 114, 101, 99, 118, 32, 97, 108, 116, 32, 102, 114, 97, 109, 101, 109, 32]
theorem one_0 (k : Nat) (hk : k < 111) (w : World) : Calls Tryd.prog 44 #[.string (nm k), .string ⟨#[32, 103, 101, 116, 32, 112, 117, 116, 32, 104, 101, 97, 100, 32, 116, 97, 105, 108, 32, 97, 114, 109, 32, 115, 101, 110, 100, 32, 114, 101, 99, 118, 32, 97, 108, 116, 32, 102, 114, 97, 109, 101, 109, 32]⟩] w fun e w' => e = .returned (.bool (List.contains [81, 82, 86, 87, 90, 92, 93, 94, 96] (k : Int))) ∧ w = w' :=
  one_at tx0 [81, 82, 86, 87, 90, 92, 93, 94, 96] (by decide +kernel) (by decide) k hk w
def tx1 : List UInt8 := [32, 100, 105, 118, 98, 32, 109, 111, 100, 98, 32, 100, 105, 118, 119, 32, 109, 111, 100, 119, 32, 100, 105, 118, 108, 32, 109, 111, 100, 108, 32]
theorem one_1 (k : Nat) (hk : k < 111) (w : World) : Calls Tryd.prog 44 #[.string (nm k), .string ⟨#[32, 100, 105, 118, 98, 32, 109, 111, 100, 98, 32, 100, 105, 118, 119, 32, 109, 111, 100, 119, 32, 100, 105, 118, 108, 32, 109, 111, 100, 108, 32]⟩] w fun e w' => e = .returned (.bool (List.contains [7, 8, 17, 18, 27, 28] (k : Int))) ∧ w = w' :=
  one_at tx1 [7, 8, 17, 18, 27, 28] (by decide +kernel) (by decide) k hk w
def tx2 : List UInt8 := [32, 105, 110, 100, 99, 32, 105, 110, 115, 99, 32, 115, 108, 105, 99, 101, 99, 32, 103, 101, 116, 32, 112, 117, 116, 32, 115, 108, 105, 99, 101, 97, 32, 99, 111, 112, 121, 97, 32]
theorem one_2 (k : Nat) (hk : k < 111) (w : World) : Calls Tryd.prog 44 #[.string (nm k), .string ⟨#[32, 105, 110, 100, 99, 32, 105, 110, 115, 99, 32, 115, 108, 105, 99, 101, 99, 32, 103, 101, 116, 32, 112, 117, 116, 32, 115, 108, 105, 99, 101, 97, 32, 99, 111, 112, 121, 97, 32]⟩] w fun e w' => e = .returned (.bool (List.contains [76, 77, 78, 81, 82, 83, 84] (k : Int))) ∧ w = w' :=
  one_at tx2 [76, 77, 78, 81, 82, 83, 84] (by decide +kernel) (by decide) k hk w
def tx3 : List UInt8 := [32, 99, 118, 116, 108, 99, 32, 99, 118, 116, 102, 99, 32, 99, 118, 116, 99, 97, 32, 99, 118, 116, 97, 99, 32, 97, 100, 100, 99, 32, 105, 110, 115, 99, 32, 115, 108, 105, 99, 101, 99, 32, 110, 101, 119, 97, 32, 115, 108, 105, 99, 101, 97, 32, 99, 111, 110, 115, 32, 110, 101, 119, 32, 110, 101, 119, 99, 32, 108, 111, 97, 100, 32, 112, 114, 105, 110, 116, 32]
theorem one_3 (k : Nat) (hk : k < 111) (w : World) : Calls Tryd.prog 44 #[.string (nm k), .string ⟨#[32, 99, 118, 116, 108, 99, 32, 99, 118, 116, 102, 99, 32, 99, 118, 116, 99, 97, 32, 99, 118, 116, 97, 99, 32, 97, 100, 100, 99, 32, 105, 110, 115, 99, 32, 115, 108, 105, 99, 101, 99, 32, 110, 101, 119, 97, 32, 115, 108, 105, 99, 101, 97, 32, 99, 111, 110, 115, 32, 110, 101, 119, 32, 110, 101, 119, 99, 32, 108, 111, 97, 100, 32, 112, 114, 105, 110, 116, 32]⟩] w fun e w' => e = .returned (.bool (List.contains [44, 45, 49, 50, 74, 77, 78, 79, 83, 85, 89, 91, 104, 108] (k : Int))) ∧ w = w' :=
  one_at tx3 [44, 45, 49, 50, 74, 77, 78, 79, 83, 85, 89, 91, 104, 108] (by decide +kernel) (by decide) k hk w
def tx5 : List UInt8 := [32, 99, 97, 108, 108, 32, 99, 97, 108, 108, 109, 32]
theorem one_5 (k : Nat) (hk : k < 111) (w : World) : Calls Tryd.prog 44 #[.string (nm k), .string ⟨#[32, 99, 97, 108, 108, 32, 99, 97, 108, 108, 109, 32]⟩] w fun e w' => e = .returned (.bool (List.contains [98, 99] (k : Int))) ∧ w = w' :=
  one_at tx5 [98, 99] (by decide +kernel) (by decide) k hk w
def tx6 : List UInt8 := [32, 115, 112, 97, 119, 110, 32, 115, 112, 97, 119, 110, 109, 32]
theorem one_6 (k : Nat) (hk : k < 111) (w : World) : Calls Tryd.prog 44 #[.string (nm k), .string ⟨#[32, 115, 112, 97, 119, 110, 32, 115, 112, 97, 119, 110, 109, 32]⟩] w fun e w' => e = .returned (.bool (List.contains [100, 101] (k : Int))) ∧ w = w' :=
  one_at tx6 [100, 101] (by decide +kernel) (by decide) k hk w
theorem arm_eq : ∀ k : Fin 111, ((nm k.val).toList == ([97, 114, 109] : List UInt8)) = List.contains [90] (k.val : Int) := by decide +kernel
end Go.Proofs.YtadkbcdopcehhaaDoor
