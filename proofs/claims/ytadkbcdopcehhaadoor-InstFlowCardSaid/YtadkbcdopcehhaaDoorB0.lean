/- Plain facts on the reference's table of names and forms. -/
import Derived.Test.YtadkbcdopcehhaaDoorA4
namespace Go.Proofs.YtadkbcdopcehhaaDoor
open Go.RowKit

def tblL : List UInt8 := [110, 111, 112, 45, 45, 45, 32, 109, 111, 118, 110, 45, 78, 32, 109, 111, 118, 112, 118, 45, 86, 32, 109, 111, 118, 109, 98, 100, 66, 32, 97, 100, 100, 98, 110, 110, 78, 32, 115, 117, 98, 98, 110, 110, 78, 32, 109, 117, 108, 98, 110, 110, 78, 32, 100, 105, 118, 98, 110, 110, 78, 32, 109, 111, 100, 98, 110, 110, 78, 32, 97, 110, 100, 98, 110, 110, 78, 32, 111, 114, 98, 110, 110, 78, 32, 120, 111, 114, 98, 110, 110, 78, 32, 115, 104, 108, 98, 110, 110, 78, 32, 115, 104, 114, 98, 110, 110, 78, 32, 97, 100, 100, 119, 110, 110, 78, 32, 115, 117, 98, 119, 110, 110, 78, 32, 109, 117, 108, 119, 110, 110, 78, 32, 100, 105, 118, 119, 110, 110, 78, 32, 109, 111, 100, 119, 110, 110, 78, 32, 97, 110, 100, 119, 110, 110, 78, 32, 111, 114, 119, 110, 110, 78, 32, 120, 111, 114, 119, 110, 110, 78, 32, 115, 104, 108, 119, 110, 110, 78, 32, 115, 104, 114, 119, 110, 110, 78, 32, 97, 100, 100, 108, 110, 110, 78, 32, 115, 117, 98, 108, 110, 110, 78, 32, 109, 117, 108, 108, 110, 110, 78, 32, 100, 105, 118, 108, 110, 110, 78, 32, 109, 111, 100, 108, 110, 110, 78, 32, 97, 110, 100, 108, 110, 110, 78, 32, 111, 114, 108, 110, 110, 78, 32, 120, 111, 114, 108, 110, 110, 78, 32, 115, 104, 108, 108, 110, 110, 78, 32, 115, 104, 114, 108, 110, 110, 78, 32, 97, 100, 100, 102, 110, 110, 78, 32, 115, 117, 98, 102, 110, 110, 78, 32, 109, 117, 108, 102, 110, 110, 78, 32, 100, 105, 118, 102, 110, 110, 78, 32, 110, 101, 103, 102, 110, 45, 78, 32, 99, 118, 116, 98, 110, 45, 78, 32, 99, 118, 116, 119, 110, 45, 78, 32, 99, 118, 116, 119, 102, 110, 45, 78, 32, 99, 118, 116, 102, 119, 110, 45, 78, 32, 99, 118, 116, 102, 108, 110, 45, 78, 32, 99, 118, 116, 108, 99, 110, 45, 67, 32, 99, 118, 116, 102, 99, 110, 45, 67, 32, 99, 118, 116, 99, 119, 99, 45, 78, 32, 99, 118, 116, 99, 108, 99, 45, 78, 32, 99, 118, 116, 99, 102, 99, 45, 78, 32, 99, 118, 116, 99, 97, 99, 100, 65, 32, 99, 118, 116, 97, 99, 97, 45, 67, 32, 98, 101, 113, 110, 110, 106, 32, 98, 110, 101, 110, 110, 106, 32, 98, 108, 116, 110, 110, 106, 32, 98, 108, 101, 110, 110, 106, 32, 98, 103, 116, 110, 110, 106, 32, 98, 103, 101, 110, 110, 106, 32, 98, 101, 113, 102, 110, 110, 106, 32, 98, 110, 101, 102, 110, 110, 106, 32, 98, 108, 116, 102, 110, 110, 106, 32, 98, 108, 101, 102, 110, 110, 106, 32, 98, 103, 116, 102, 110, 110, 106, 32, 98, 103, 101, 102, 110, 110, 106, 32, 98, 101, 113, 99, 99, 99, 106, 32, 98, 110, 101, 99, 99, 99, 106, 32, 98, 108, 116, 99, 99, 99, 106, 32, 98, 108, 101, 99, 99, 99, 106, 32, 98, 103, 116, 99, 99, 99, 106, 32, 98, 103, 101, 99, 99, 99, 106, 32, 98, 101, 113, 112, 112, 113, 106, 32, 98, 110, 101, 112, 112, 113, 106, 32, 106, 109, 112, 45, 45, 106, 32, 99, 97, 115, 101, 110, 115, 45, 32, 99, 97, 115, 101, 99, 99, 116, 45, 32, 97, 100, 100, 99, 99, 99, 67, 32, 108, 101, 110, 99, 99, 45, 78, 32, 105, 110, 100, 99, 99, 110, 78, 32, 105, 110, 115, 99, 110, 110, 88, 32, 115, 108, 105, 99, 101, 99, 110, 110, 88, 32, 110, 101, 119, 97, 110, 100, 65, 32, 108, 101, 110, 97, 97, 45, 78, 32, 103, 101, 116, 97, 110, 66, 32, 112, 117, 116, 98, 110, 97, 32, 115, 108, 105, 99, 101, 97, 110, 110, 89, 32, 99, 111, 112, 121, 97, 97, 110, 97, 32, 99, 111, 110, 115, 98, 100, 90, 32, 104, 101, 97, 100, 108, 45, 66, 32, 116, 97, 105, 108, 108, 45, 76, 32, 108, 101, 110, 108, 108, 45, 78, 32, 110, 101, 119, 45, 100, 82, 32, 97, 114, 109, 114, 100, 82, 32, 110, 101, 119, 99, 45, 100, 72, 32, 115, 101, 110, 100, 98, 45, 104, 32, 114, 101, 99, 118, 104, 45, 66, 32, 97, 108, 116, 119, 117, 78, 32, 102, 114, 97, 109, 101, 45, 102, 45, 32, 102, 114, 97, 109, 101, 109, 109, 101, 105, 32, 97, 114, 103, 98, 107, 100, 32, 99, 97, 108, 108, 45, 102, 45, 32, 99, 97, 108, 108, 109, 45, 101, 105, 32, 115, 112, 97, 119, 110, 45, 102, 45, 32, 115, 112, 97, 119, 110, 109, 45, 101, 105, 32, 114, 101, 116, 45, 45, 45, 32, 114, 101, 115, 100, 103, 66, 32, 108, 111, 97, 100, 99, 105, 77, 32, 114, 97, 105, 115, 101, 99, 45, 45, 32, 101, 120, 105, 116, 45, 45, 45, 32, 116, 105, 99, 107, 45, 45, 45, 32, 112, 114, 105, 110, 116, 99, 45, 45, 32, 115, 121, 115, 99, 99, 67, 32, 112, 105, 100, 45, 45, 78, 32]
def spL : List Nat := [6, 13, 21, 29, 37, 45, 53, 61, 69, 77, 84, 92, 100, 108, 116, 124, 132, 140, 148, 156, 163, 171, 179, 187, 195, 203, 211, 219, 227, 235, 242, 250, 258, 266, 274, 282, 290, 298, 306, 314, 322, 331, 340, 349, 358, 367, 376, 385, 394, 403, 412, 419, 426, 433, 440, 447, 454, 462, 470, 478, 486, 494, 502, 510, 518, 526, 534, 542, 550, 558, 566, 573, 581, 590, 598, 606, 614, 622, 632, 640, 648, 655, 662, 672, 681, 689, 697, 705, 713, 720, 727, 735, 743, 751, 758, 767, 777, 784, 792, 801, 810, 820, 827, 834, 842, 851, 859, 867, 876, 883, 890]
def stp (k : Nat) : Nat := if k = 0 then 0 else spL.getD (k - 1) 0 + 1
def enp (k : Nat) : Nat := spL.getD k 0
def cnt (i : Nat) : Nat := ((tblL.take i).filter (· == 32)).length
theorem tbl_len : tblL.length = 891 := by decide +kernel
theorem cnt_succ (i : Nat) (h : i < tblL.length) : cnt (i + 1) = cnt i + if tblL.getD i 0 = 32 then 1 else 0 := by
  unfold cnt
  rw [List.take_succ_eq_append_getElem h, List.filter_append, List.length_append]
  have e : tblL.getD i 0 = tblL[i] := by simp [List.getD, List.getElem?_eq_getElem h]
  rw [e]
  by_cases h32 : tblL[i] = 32 <;> simp [h32]
theorem cnt_mono {i j : Nat} (h : i ≤ j) : cnt i ≤ cnt j := by
  unfold cnt
  apply List.Sublist.length_le
  apply List.Sublist.filter
  have : tblL.take i = (tblL.take j).take i := by rw [List.take_take, Nat.min_eq_left h]
  rw [this]
  exact List.take_sublist _ _
theorem st_facts : ∀ k : Fin 111, cnt (stp k.val) = k.val ∧ (k.val = 0 ∨ cnt (stp k.val - 1) = k.val - 1) ∧ stp k.val < 4000 ∧ stp k.val + 3 ≤ enp k.val ∧ enp k.val < 891 ∧ tblL.getD (enp k.val) 0 = 32 := by decide +kernel
theorem cnt_lt {k : Nat} (hk : k < 111) (i : Nat) : cnt i < k ↔ i < stp k := by
  obtain ⟨h1, h2, _⟩ := st_facts ⟨k, hk⟩
  simp only at h1 h2
  constructor
  · intro h
    rcases Nat.lt_or_ge i (stp k) with h' | h'
    · exact h'
    · have := cnt_mono h'; omega
  · intro h
    rcases h2 with h2 | h2
    · subst h2; simp [stp] at h
    · have := cnt_mono (show i ≤ stp k - 1 by omega); 
      have : k ≠ 0 := by rintro rfl; simp [stp] at h
      omega
theorem no_space : ∀ k : Fin 111, ((tblL.drop (stp k.val)).take (enp k.val - stp k.val)).all (fun b => b != 32) = true := by decide +kernel
theorem not_sp {k : Nat} (hk : k < 111) (i : Nat) (h1 : stp k ≤ i) (h2 : i < enp k) : tblL.getD i 0 ≠ 32 := by
  have h := List.all_eq_true.1 (no_space ⟨k, hk⟩) (tblL.getD i 0)
  obtain ⟨_, _, _, _, h5, _⟩ := st_facts ⟨k, hk⟩
  simp only at h5
  have hl := tbl_len
  have hm : tblL.getD i 0 ∈ (tblL.drop (stp k)).take (enp k - stp k) := by
    refine List.mem_of_getElem? (i := i - stp k) ?_
    rw [List.getElem?_take, if_pos (by omega), List.getElem?_drop, show stp k + (i - stp k) = i by omega]
    simp [List.getD, List.getElem?_eq_getElem (show i < tblL.length by omega)]
  simpa using h hm
theorem entry_all : ∀ k : Fin 111, ((⟨tblL.toArray⟩ : ByteArray).extract (stp k.val) (enp k.val - 3)).data.toList = (nm k.val).data.toList ∧
    ((⟨tblL.toArray⟩ : ByteArray).extract (enp k.val - 3) (enp k.val)).data.toList = [frm 0 (k.val : Int), frm 1 (k.val : Int), frm 2 (k.val : Int)] := by decide +kernel
theorem ba_eq {a b : ByteArray} (h : a.data.toList = b.data.toList) : a = b := by
  obtain ⟨⟨x⟩⟩ := a
  obtain ⟨⟨y⟩⟩ := b
  simp at h
  rw [h]
def fm (k : Nat) : ByteArray := ⟨#[frm 0 k, frm 1 k, frm 2 k]⟩
theorem entry_name (k : Nat) (hk : k < 111) : (⟨tblL.toArray⟩ : ByteArray).extract (stp k) (enp k - 3) = nm k := ba_eq (entry_all ⟨k, hk⟩).1
theorem entry_form (k : Nat) (hk : k < 111) : (⟨tblL.toArray⟩ : ByteArray).extract (enp k - 3) (enp k) = fm k := ba_eq (entry_all ⟨k, hk⟩).2

theorem run_index_lit (l : List UInt8) (i : Nat) (v : Int) (h : i < l.length) (hv : ((l.getD i 0).toNat : Int) = v) (w : World) :
    (Instr.index 9 (.string ⟨l.toArray⟩) (.int .i64 (i : Int))).run Tryd.prog w = .ok (.int .u8 v) w := by
  subst hv
  have h0 : (0 : Int) ≤ (i : Int) := by omega
  have e : (⟨l.toArray⟩ : ByteArray)[i]? = some (l.getD i 0) := by
    have hs : i < (⟨l.toArray⟩ : ByteArray).size := by simpa [ByteArray.size] using h
    rw [getElem?_pos (⟨l.toArray⟩ : ByteArray) i hs]
    simp [List.getD, List.getElem?_eq_getElem h]
    rfl
  simp [Instr.index, run_underlying Tryd.underlying9, asIntOf, h0, e, Result.andThen]

end Go.Proofs.YtadkbcdopcehhaaDoor
