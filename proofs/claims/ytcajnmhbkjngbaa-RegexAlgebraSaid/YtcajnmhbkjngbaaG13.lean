/- Texts on regular expressions, merged: T3, T4, T5. -/
import Derived.Test.YtcajnmhbkjngbaaG12
import Derived.Laws.DeepStrings4
import Derived.WalkSpells
import Derived.Laws.BitsLemmas
import Derived.OwnWalk
/- The methods of a string of characters. -/
namespace Go.Proofs.Ytcajnmhbkjngbaa
open Go.RowKit Go.Shelf
set_option maxRecDepth 100000

/-- A string of characters, as a value. -/
noncomputable def strV (l : List Int) : Value := .agg #[.string (packV l).1, .bool (packV l).2]
/-- Its characters are characters. -/
def ChOk (l : List Int) : Prop := ∀ x ∈ l, 0 ≤ x ∧ x ≤ 1114111
theorem packV_cases (l : List Int) : ((∀ x ∈ l, ¬ 255 < x) ∧ packV l = (⟨(l.map u8of).toArray⟩, false)) ∨ ((∃ x ∈ l, 255 < x) ∧ packV l = (⟨(wideB l).toArray⟩, true)) := by
  by_cases h : ∃ x ∈ l, 255 < x
  · exact .inr ⟨h, if_pos h⟩
  · exact .inl ⟨fun x hx e => h ⟨x, hx, e⟩, if_neg h⟩
theorem len_is (l : List Int) (hl : l.length ≤ 1000000) (w : World) : Calls Try.prog 32 #[strV l] w fun e w' => e = .returned (.int .i64 (l.length : Nat)) ∧ Below w.heap.size w w' := by
  unfold strV
  rcases packV_cases l with ⟨_, h⟩ | ⟨_, h⟩
  · rw [h]
    have hs : ((⟨(l.map u8of).toArray⟩ : ByteArray).size) = l.length := by show (l.map u8of).toArray.size = _; simp
    simp only
    generalize (⟨(l.map u8of).toArray⟩ : ByteArray) = c at *
    go_enter Try.func32, Try.ntmps32
    go_wp2
    all_goals go_ret
    all_goals exact ⟨rfl, (Below.refl _ _).alloc (Nat.le_refl _) _⟩
  · rw [h]
    have hs : ((⟨(wideB l).toArray⟩ : ByteArray).size) = 4 * l.length := by show (wideB l).toArray.size = _; simp [wideB_len]
    simp only
    generalize (⟨(wideB l).toArray⟩ : ByteArray) = c at *
    have HS := Lib.hid hs
    have q : c.size ≤ 4000000 := by omega
    clear hs
    go_enter Try.func32, Try.ntmps32
    go_wp2
    all_goals go_ret
    all_goals refine ⟨?_, (Below.refl _ _).alloc (Nat.le_refl _) _⟩
    all_goals exact congrArg (fun z => Ending.returned (.int .i64 z)) (show ((c.size : Int) / 4) = ((l.length : Nat) : Int) by have := HS.out; omega)
theorem wideB_get : ∀ (l : List Int) (i : Nat) (h : i < l.length), (wideB l)[4 * i]? = some (u8of (l[i] / 16777216)) ∧ (wideB l)[4 * i + 1]? = some (u8of (l[i] / 65536)) ∧ (wideB l)[4 * i + 2]? = some (u8of (l[i] / 256)) ∧ (wideB l)[4 * i + 3]? = some (u8of l[i])
  | [], i, h => absurd h (Nat.not_lt_zero _)
  | v :: l, 0, h => ⟨rfl, rfl, rfl, rfl⟩
  | v :: l, i + 1, h => by
    have e : wideB (v :: l) = u8of (v / 16777216) :: u8of (v / 65536) :: u8of (v / 256) :: u8of v :: wideB l := by simp [wideB]
    have ih := wideB_get l i (by simpa using h)
    rw [e, show 4 * (i + 1) = 4 * i + 1 + 1 + 1 + 1 by omega]
    exact ih
theorem u8of_val {x : Int} (h0 : 0 ≤ x) (h1 : x < 256) : ((u8of x).toNat : Int) = x := by
  have := u8of_eq x
  omega
theorem char_narrow (l : List Int) (hc : ChOk l) (hl : l.length ≤ 1000000) (i : Nat) (hi : i < l.length) (w : World) (hn : ∀ x ∈ l, ¬ 255 < x) : Calls Try.prog 64 #[.agg #[.string ⟨(l.map u8of).toArray⟩, .bool false], .int .i64 (i : Nat)] w fun e w' => e = .returned (.int .i32 l[i]) ∧ Below w.heap.size w w' := by
  have hs : ((⟨(l.map u8of).toArray⟩ : ByteArray).size) = l.length := by show (l.map u8of).toArray.size = _; simp
  have hg : ∀ h, ((⟨(l.map u8of).toArray⟩ : ByteArray)[i]'h) = u8of l[i] := fun h => by show (l.map u8of).toArray[i]'_ = _; simp
  have hv : ((u8of l[i]).toNat : Int) = l[i] := u8of_val (hc _ (List.getElem_mem hi)).1 (by have := hn _ (List.getElem_mem hi); omega)
  have hb : 0 ≤ l[i] ∧ l[i] < 256 := ⟨(hc _ (List.getElem_mem hi)).1, by have := hn _ (List.getElem_mem hi); omega⟩
  generalize l[i] = v at *
  generalize (⟨(l.map u8of).toArray⟩ : ByteArray) = c at *
  rw [← hs] at hi hl
  have hrun : ∀ W, (Instr.index 9 (.string c) (.int .i64 (i : Nat))).run Try.prog W = .ok (.int .u8 v) W := fun W => by
    rw [run_index_string (P := Try.prog) (w := W) 9 c .i64 (i : Int) Try.underlying9, dif_pos (by omega)]
    have h1 := hg hi
    simp only [Int.toNat_natCast]
    rw [h1, hv]
  have HB := Lib.hid hb
  obtain ⟨b0, b1⟩ := hb
  clear hg hv hs hc hn
  go_enter Try.func64, Try.ntmps64
  go_wp2
  all_goals go_ret
  all_goals exact ⟨rfl, (Below.refl _ _).alloc (Nat.le_refl _) _⟩
theorem wide_size (l : List Int) : ((⟨(wideB l).toArray⟩ : ByteArray).size) = 4 * l.length := by show (wideB l).toArray.size = _; simp [wideB_len]
theorem wide_idx (l : List Int) (k : Nat) (u : UInt8) (h : (wideB l)[k]? = some u) (hk : k < (⟨(wideB l).toArray⟩ : ByteArray).size) : (⟨(wideB l).toArray⟩ : ByteArray)[k]'hk = u := by
  show (wideB l).toArray[k]'_ = u
  have h1 : k < (wideB l).length := (List.getElem?_eq_some_iff.1 h).1
  have h2 := (List.getElem?_eq_some_iff.1 h).2
  simpa using h2
theorem char_wide (l : List Int) (hc : ChOk l) (hl : l.length ≤ 1000000) (i : Nat) (hi : i < l.length) (w : World) : Calls Try.prog 64 #[.agg #[.string ⟨(wideB l).toArray⟩, .bool true], .int .i64 (i : Nat)] w fun e w' => e = .returned (.int .i32 l[i]) ∧ Below w.heap.size w w' := by
  have hs := wide_size l
  obtain ⟨g0, g1, g2, g3⟩ := wideB_get l i hi
  have hb := hc _ (List.getElem_mem hi)
  have x0 := wide_idx l _ _ g0
  have x1 := wide_idx l _ _ g1
  have x2 := wide_idx l _ _ g2
  have x3 := wide_idx l _ _ g3
  have y0 := u8of_val (x := l[i] / 16777216) (by omega) (by omega)
  have y1 := u8of_eq (l[i] / 65536)
  have y2 := u8of_eq (l[i] / 256)
  have y3 := u8of_eq l[i]
  generalize l[i] = v at *
  generalize (⟨(wideB l).toArray⟩ : ByteArray) = c at *
  clear g0 g1 g2 g3 hc
  generalize hd : c.extract (4 * i) c.size = d
  have hds : d.size = c.size - 4 * i := by rw [← hd]; simp
  have hdi : ∀ k (h : k < d.size) (h2 : 4 * i + k < c.size), d[k]'h = c[4 * i + k]'h2 := fun k h h2 => by subst hd; simp [ByteArray.getElem_extract]
  have hsl : ∀ W, (Instr.slice 9 (.string c) (some (.int .i64 (4 * (i : Nat) : Int))) none none).run Try.prog W = .ok (.string d) W := fun W => by
    have h1 := run_slice_string_l (P := Try.prog) W 9 c Try.underlying9 .i64 (4 * (i : Int)) (by omega) (by omega)
    rw [show (4 * (i : Int)).toNat = 4 * i by omega, hd] at h1
    exact h1
  have hrun : ∀ (k : Nat) (z : Int), k < 4 → (∀ h : 4 * i + k < c.size, ((c[4 * i + k]'h).toNat : Int) = z) → ∀ W, (Instr.index 9 (.string d) (.int .i64 (k : Nat))).run Try.prog W = .ok (.int .u8 z) W := fun k z hk hz W => by
    rw [run_index_string (P := Try.prog) (w := W) 9 d .i64 (k : Int) Try.underlying9, dif_pos (by omega)]
    simp only [Int.toNat_natCast]
    rw [hdi k (by omega) (by omega), hz]
  have r0 : ∀ W, (Instr.index 9 (.string d) (.int .i64 0)).run Try.prog W = .ok (.int .u8 (v / 16777216)) W := hrun 0 (v / 16777216) (by omega) fun h => by rw [show c[4 * i + 0]'h = _ from x0 h, y0]
  have r1 : ∀ W, (Instr.index 9 (.string d) (.int .i64 1)).run Try.prog W = .ok (.int .u8 (v / 65536 % 256)) W := hrun 1 (v / 65536 % 256) (by omega) fun h => by rw [x1, ← y1]
  have r2 : ∀ W, (Instr.index 9 (.string d) (.int .i64 2)).run Try.prog W = .ok (.int .u8 (v / 256 % 256)) W := hrun 2 (v / 256 % 256) (by omega) fun h => by rw [x2, ← y2]
  have r3 : ∀ W, (Instr.index 9 (.string d) (.int .i64 3)).run Try.prog W = .ok (.int .u8 (v % 256)) W := hrun 3 (v % 256) (by omega) fun h => by rw [x3, ← y3]
  clear hrun x0 x1 x2 x3 y0 y1 y2 y3 hdi hd
  have q0 : v / 16777216 = 0 := by omega
  rw [q0] at r0
  have q1 : 0 ≤ v / 65536 % 256 ∧ v / 65536 % 256 ≤ 16 := by omega
  have q2 : 0 ≤ v / 256 % 256 ∧ v / 256 % 256 < 256 := by omega
  have q3 : 0 ≤ v % 256 ∧ v % 256 < 256 := by omega
  have hv : v = v / 65536 % 256 * 65536 + v / 256 % 256 * 256 + v % 256 := by omega
  generalize v / 65536 % 256 = a at *
  generalize v / 256 % 256 = b at *
  generalize v % 256 = e at *
  have HV := Lib.hid hv
  obtain ⟨q1, q1'⟩ := q1
  obtain ⟨q2, q2'⟩ := q2
  obtain ⟨q3, q3'⟩ := q3
  clear hb q0 hv hs hds
  go_enter Try.func64, Try.ntmps64
  go_wp2
  go_region
  go_wp2
  go_ret
  refine ⟨?_, ((Below.refl _ _).alloc (Nat.le_refl _) _).drew⟩
  have e1 : bits .or .i32 0 (a * 65536) = a * 65536 := (bits_join .i32 31 (by decide) wraps_i32 24 0 (a * 65536) (by decide) (by decide) (by decide) (by omega) (by omega) (by omega)).trans (Int.zero_add _)
  have e2 : bits .or .i32 (a * 65536) (b * 256) = a * 65536 + b * 256 := bits_join .i32 31 (by decide) wraps_i32 16 _ _ (by omega) (by omega) (by omega) (by omega) (by omega) (by omega)
  have e3 : bits .or .i32 (a * 65536 + b * 256) e = a * 65536 + b * 256 + e := bits_join .i32 31 (by decide) wraps_i32 8 _ _ (by omega) (by omega) (by omega) (by omega) (by omega) (by omega)
  show Ending.returned (.int .i32 (bits .or .i32 (bits .or .i32 (bits .or .i32 0 (a * 65536)) (b * 256)) e)) = _
  rw [e1, e2, e3, ← HV.out]
theorem char_is (l : List Int) (hc : ChOk l) (hl : l.length ≤ 1000000) (i : Nat) (hi : i < l.length) (w : World) : Calls Try.prog 64 #[strV l, .int .i64 (i : Nat)] w fun e w' => e = .returned (.int .i32 l[i]) ∧ Below w.heap.size w w' := by
  unfold strV
  rcases packV_cases l with ⟨hn, h⟩ | ⟨_, h⟩
  · rw [h]; exact char_narrow l hc hl i hi w hn
  · rw [h]; exact char_wide l hc hl i hi w
/-- A character of a string, and the error if there is none. -/
def atM (l : List Int) (i : Int) : Int × Int := if 0 ≤ i ∧ i < l.length then (l.getD i.toNat 0, 0) else (0, 11)
theorem at_is (l : List Int) (hc : ChOk l) (hl : l.length ≤ 1000000) (i : Int) (w : World) : Calls Try.prog 74 #[strV l, .int .i64 i] w fun e w' => e = .returned (.tuple #[.int .i64 (atM l i).1, .int .i64 (atM l i).2]) ∧ Below w.heap.size w w' := by
  have HB : Hid (Below w.heap.size w (w.alloc (.cells #[.string (packV l).1, .bool (packV l).2] 39))) := Lib.hid ((Below.refl _ _).alloc (Nat.le_refl _) _)
  have HK := Lib.hid (heap_alloc_new w (.cells #[.string (packV l).1, .bool (packV l).2] 39))
  have HL := fun W => Lib.hid (len_is l hl W)
  have HC := fun (k : Nat) hk W => Lib.hid (char_is l hc hl k hk W)
  unfold strV at HL HC ⊢
  generalize (packV l).1 = c at *
  generalize (packV l).2 = wd at *
  by_cases h0 : i < 0
  · have HA : Hid (atM l i = (0, 11)) := Lib.hid (if_neg (by omega))
    clear HL HC HK
    go_enter Try.func74, Try.ntmps74
    go_wp2
    go_ret2
    rw [HA.out]
    exact ⟨rfl, HB.out⟩
  · obtain ⟨k, rfl⟩ := Int.eq_ofNat_of_zero_le (by omega : 0 ≤ i)
    by_cases hk : k < l.length
    · have q : ((k : Nat) : Int) < (l.length : Nat) := by omega
      have HA : Hid (atM l (k : Nat) = (l[k], 0)) := Lib.hid (by unfold atM; rw [if_pos ⟨by omega, q⟩]; simp [hk])
      have hb := hc _ (List.getElem_mem hk)
      replace HC := HC k hk
      generalize l[k] = v at *
      obtain ⟨v0, v1⟩ := hb
      clear hc hk
      go_enter Try.func74, Try.ntmps74
      go_wp2_with (first
        | (go_at_call 32; refine (HL _).out.mono ?_; rintro e w1 ⟨rfl, hb1⟩
           have HB1 := Lib.hid (HB.out.trans (hb1.mono HB.out.size))
           have b0 := keep3 hb1 (cell_of_heap (v := .string c) HK.out (j := 0) rfl)
           have b1 := keep3 hb1 (cell_of_heap (v := .bool wd) HK.out (j := 1) rfl)
           clear hb1)
        | (go_at_call 64; refine (HC _).out.mono ?_; rintro e w2 ⟨rfl, hb2⟩
           have HB2 := Lib.hid (HB1.out.trans (hb2.mono HB1.out.size))
           clear hb2))
      go_ret2
      rw [HA.out]
      exact ⟨rfl, HB2.out⟩
    · have q : ((l.length : Nat) : Int) ≤ (k : Nat) := by omega
      have HA : Hid (atM l (k : Nat) = (0, 11)) := Lib.hid (if_neg (by omega))
      clear HC hc
      go_enter Try.func74, Try.ntmps74
      go_wp2_with (first
        | (go_at_call 32; refine (HL _).out.mono ?_; rintro e w1 ⟨rfl, hb1⟩
           have HB1 := Lib.hid (HB.out.trans (hb1.mono HB.out.size))
           clear hb1))
      go_ret2
      rw [HA.out]
      exact ⟨rfl, HB1.out⟩
end Go.Proofs.Ytcajnmhbkjngbaa

/- The characters of a string; a part of it; its encoding. -/
namespace Go.Proofs.Ytcajnmhbkjngbaa
open Go.RowKit Go.Shelf
set_option maxRecDepth 100000

/-- A cell of a row of the call's own is written. -/
theorem own_put {w : World} {B n C size : Nat} {e : TypeId} {A : Option Addr} {xs : List Value} (h : w.ownsRow B e size (.slice A n C) n xs) (j : Nat) (hj : j < n * size) (v : Value) :
    ∃ g, A = some ⟨g, 0, none⟩ ∧ B ≤ g ∧ g < w.heap.size ∧ w.cell? ⟨g, j, none⟩ = xs[j]? ∧ w.frozen? ⟨g, j, none⟩ = false ∧ (w.setCell ⟨g, j, none⟩ v).ownsRow B e size (.slice A n C) n (xs.set j v) := by
  obtain ⟨g0, hA0, hB0, hg0, hc0, hf0⟩ := own_cell h j hj
  refine ⟨g0, hA0, hB0, hg0, hc0, hf0, ?_⟩
  rcases h.2 with ⟨h1, h2⟩ | ⟨g, cap, cur, h1, h2, h3, h4, h5, h6, h7⟩
  · subst h2; rw [Nat.zero_mul] at hj; omega
  · injection h1 with e1 e2 e3
    rw [hA0] at e1
    injection e1 with e1
    injection e1 with e1
    subst e1
    refine ⟨by rw [List.length_set]; exact h.1, .inr ⟨g0, cap, cur.setIfInBounds j v, by rw [hA0, e3], h2, heap_setCell_same w g0 _ _ _ v h3, h4, h5, by rw [Array.size_setIfInBounds]; exact h6, ?_⟩⟩
    rw [Array.toList_setIfInBounds, ← h7, List.take_set]
/-- A row that is filled from the left. -/
def fillL (l : List Int) (j : Nat) : List Int := l.take j ++ List.replicate (l.length - j) 0
theorem fillL_len (l : List Int) (j : Nat) (hj : j ≤ l.length) : (fillL l j).length = l.length := by simp [fillL]; omega
theorem fillL_set (l : List Int) (j : Nat) (hj : j < l.length) : (fillL l j).set j l[j] = fillL l (j + 1) := by
  unfold fillL
  have h1 : (l.take j).length = j := by simp; omega
  rw [List.set_append_right _ _ (by omega), h1, Nat.sub_self]
  obtain ⟨m, hm⟩ : ∃ m, l.length - j = m + 1 := ⟨l.length - j - 1, by omega⟩
  rw [hm, List.replicate_succ, List.set_cons_zero, List.take_succ_eq_append_getElem hj, show l.length - (j + 1) = m by omega, List.append_assoc]
  rfl
theorem fillL_end (l : List Int) : fillL l l.length = l := by simp [fillL]
theorem i32s_set (l : List Int) (j : Nat) (v : Int) : (i32s l).set j (.int .i32 v) = i32s (l.set j v) := by simp [i32s]
theorem made_i32 (n : Nat) : (madeCells #[.int .i32 0] (n * 1)).toList = i32s (List.replicate n 0) := by
  simp [madeCells, i32s]
  apply List.ext_getElem
  · simp
  · intro i h1 h2
    simp [Nat.mod_one]
set_option maxHeartbeats 2000000 in
theorem runes_is (l : List Int) (hc : ChOk l) (hl : l.length ≤ 1000000) (w : World) : Calls Try.prog 53 #[strV l] w fun e w' => ∃ g, e = .returned (.slice (some ⟨g, 0, none⟩) l.length l.length) ∧ w'.ownsRow w.heap.size 21 1 (.slice (some ⟨g, 0, none⟩) l.length l.length) l.length (i32s l) ∧ Below w.heap.size w w' := by
  obtain ⟨i0, hi, hz0, hz1, hz2⟩ := info_parts info_i32
  have HB : Hid (Below w.heap.size w (w.alloc (.cells #[.string (packV l).1, .bool (packV l).2] 39))) := Lib.hid ((Below.refl _ _).alloc (Nat.le_refl _) _)
  have HK := Lib.hid (heap_alloc_new w (.cells #[.string (packV l).1, .bool (packV l).2] 39))
  have HL := fun W => Lib.hid (len_is l hl W)
  have HC := fun (k : Nat) hk W => Lib.hid (char_is l hc hl k hk W)
  unfold strV at HL HC ⊢
  generalize (packV l).1 = c at *
  generalize (packV l).2 = wd at *
  clear hc
  go_enter Try.func53, Try.ntmps53
  go_wp2_with (first
    | (go_at_call 32; refine (HL _).out.mono ?_; rintro e w1 ⟨rfl, hb1⟩
       have HB1 := Lib.hid (HB.out.trans (hb1.mono HB.out.size))
       have HK1 := Lib.hid ((hb1.block _ (lt_of_heap HK.out)).trans HK.out)
       clear hb1)
    | (at_make
       refine wpList_make_full _ rfl _ _ _ rfl w.heap.size 21 i0 (.int .i32 0) 1 Try.underlying90 hi hz0 hz1 .i64 .i64 _ _ l.length rfl rfl rfl rfl (by rw [hz2]; omega) (by unfold maxLen; omega) HB1.out.size ?_
       intro w2 ho hg
       have HO : Hid (w2.ownsRow w.heap.size 21 1 (.slice (some ⟨w1.heap.size, 0, none⟩) l.length l.length) l.length (i32s (fillL l 0)) ∧ Below w.heap.size w w2 ∧ w2.heap[w.heap.size]? = some (.cells #[.string c, .bool wd] 39 (0, 0))) := Lib.hid (by
         refine ⟨?_, HB1.out.grown hg HB1.out.size (fun k hk => by cases hk), (hg.block _ (lt_of_heap HK1.out) (fun e => by cases e)).trans HK1.out⟩
         have e1 : fillL l 0 = List.replicate l.length 0 := by simp [fillL]
         rw [e1, ← made_i32]
         exact ho)
       generalize w1.heap.size = g at *
       clear ho hg))
  go_loopw [10] (fun p wr => ∃ j : Nat, j ≤ l.length ∧ p = .int .i64 (j : Nat) ∧ Hid (wr.ownsRow w.heap.size 21 1 (.slice (some ⟨g, 0, none⟩) l.length l.length) l.length (i32s (fillL l j)) ∧ Below w.heap.size w wr ∧ wr.heap[w.heap.size]? = some (.cells #[.string c, .bool wd] 39 (0, 0)))) (fun i _ => l.length - (intOf i).toNat)
  case atStart => exact ⟨0, Nat.zero_le _, rfl, HO⟩
  case round =>
    obtain ⟨j, hj, rfl, HR⟩ := hrel
    clear HO
    by_cases hlt : j < l.length
    · have q : (j : Int) < (l.length : Int) := by omega
      have HC1 := HC j hlt
      have HS := Lib.hid (fillL_set l j hlt)
      generalize l[j] = v at *
      have b0 := cell_of_heap (v := .string c) HR.out.2.2 (j := 0) rfl
      have b1 := cell_of_heap (v := .bool wd) HR.out.2.2 (j := 1) rfl
      clear hlt
      go_wp2_with (first
        | (go_at_call 64; refine (HC1 _).out.mono ?_; rintro e w3 ⟨rfl, hb3⟩
           have ho3 := own_below HR.out.1 hb3
           have hk3 := (hb3.block _ (lt_of_heap HR.out.2.2)).trans HR.out.2.2
           obtain ⟨g', hA, hBg, hg, hcell, hfz, hput⟩ := own_put ho3 j (by omega) (.int .i32 v)
           obtain rfl : g = g' := by injection hA with hA; injection hA
           have hm : Mut (· = g) w3 (w3.setCell ⟨g, j, none⟩ (.int .i32 v)) := Mut.setCell _ _ _ _ rfl
           obtain ⟨curg, hcg⟩ := own_ty ho3 _ rfl
           have HR3 : Hid ((w3.setCell ⟨g, j, none⟩ (.int .i32 v)).ownsRow w.heap.size 21 1 (.slice (some ⟨g, 0, none⟩) l.length l.length) l.length (i32s (fillL l (j + 1))) ∧ Below w.heap.size w (w3.setCell ⟨g, j, none⟩ (.int .i32 v)) ∧ (w3.setCell ⟨g, j, none⟩ (.int .i32 v)).heap[w.heap.size]? = some (.cells #[.string c, .bool wd] 39 (0, 0))) := Lib.hid ⟨by rw [← HS.out, ← i32s_set]; exact hput, (HR.out.2.1.trans (hb3.mono HR.out.2.1.size)).trans (hm.to_below (Nat.le_trans HR.out.2.1.size hb3.size) fun k hk => hk ▸ hBg), (hm.block _ (lt_of_heap hk3) fun e => ne_ty hcg hk3 (by decide) e.symm).trans hk3⟩
           have hcell2 : ∃ u, w3.cell? ⟨g, j, none⟩ = some u := by
             rw [hcell]
             exact ⟨_, List.getElem?_eq_getElem (by simp [i32s, fillL]; omega)⟩
           obtain ⟨u, hcell3⟩ := hcell2
           clear hb3 ho3 hk3 hput hm hcg hcell hA hBg))
      go_roundw
      case rel => exact ⟨j + 1, by omega, by go_num, HR3⟩
      case measure => simp [intOf]; omega
    · obtain rfl : j = l.length := by omega
      clear hlt hj
      go_wp2
      go_ret
      refine ⟨g, rfl, ?_, HR.out.2.1⟩
      have := HR.out.1
      rwa [fillL_end] at this
end Go.Proofs.Ytcajnmhbkjngbaa

/- A part of a string; its encoding. -/
namespace Go.Proofs.Ytcajnmhbkjngbaa
open Go.RowKit Go.Shelf
set_option maxRecDepth 100000

theorem extract_narrow (l : List Int) (a b : Nat) (hab : a ≤ b) (hb : b ≤ l.length) : (⟨(l.map u8of).toArray⟩ : ByteArray).extract a b = ⟨((partL l a b).map u8of).toArray⟩ := by
  have h1 : ((⟨(l.map u8of).toArray⟩ : ByteArray).extract a b).data = ((partL l a b).map u8of).toArray := by
    rw [ByteArray.data_extract]
    apply Array.ext'
    simp [partL, List.map_take, List.map_drop, List.extract]
  cases h : (⟨(l.map u8of).toArray⟩ : ByteArray).extract a b with
  | mk d => rw [h] at h1; simp only at h1; rw [h1]
theorem partL_mem {l : List Int} {a b : Nat} {x : Int} (h : x ∈ partL l a b) : x ∈ l := List.mem_of_mem_drop (List.mem_of_mem_take h)
theorem ChOk.part {l : List Int} (h : ChOk l) (a b : Nat) : ChOk (partL l a b) := fun x hx => h x (partL_mem hx)
set_option maxHeartbeats 2000000 in
theorem slice_is (l : List Int) (hc : ChOk l) (hl : l.length ≤ 1000000) (a b : Nat) (hab : a ≤ b) (hb : b ≤ l.length) (w : World) : Calls Try.prog 33 #[strV l, .int .i64 (a : Nat), .int .i64 (b : Nat)] w fun e w' => e = .returned (.tuple #[strV (partL l a b), .int .i64 0]) ∧ Below w.heap.size w w' := by
  have HL := fun W => Lib.hid (len_is l hl W)
  have HR := fun W => Lib.hid (runes_is l hc hl W)
  have q1 : ¬ (b : Int) < (a : Int) := by omega
  have q2 : ¬ (l.length : Int) < (b : Int) := by omega
  have q3 : (a : Int) ≤ (b : Int) := by omega
  have q4 : (b : Int) ≤ (l.length : Int) := by omega
  have hp := len_partL (l := l) (a := a) hb
  have HZ := Lib.hid hp
  rcases packV_cases l with ⟨hn, h⟩ | ⟨hn, h⟩
  · have HP : Hid (packV (partL l a b) = (⟨((partL l a b).map u8of).toArray⟩, false)) := Lib.hid (by
      rcases packV_cases (partL l a b) with ⟨_, h2⟩ | ⟨⟨x, hx, h2⟩, _⟩
      · exact h2
      · exact absurd h2 (hn x (partL_mem hx)))
    have hex := extract_narrow l a b hab hb
    unfold strV at HL HR ⊢
    rw [h] at HL HR ⊢
    have hs : ((⟨(l.map u8of).toArray⟩ : ByteArray).size) = l.length := by show (l.map u8of).toArray.size = _; simp
    simp only at HL HR ⊢
    generalize (⟨(l.map u8of).toArray⟩ : ByteArray) = c at *
    have HB : Hid (Below w.heap.size w ((w.alloc (.cells #[.string c, .bool false] 39)).alloc (.cells #[.string ⟨#[]⟩, .bool false] 39))) := Lib.hid (((Below.refl _ _).alloc (Nat.le_refl _) _).alloc (by simp) _)
    have HK := Lib.hid (heap2 w (.cells #[.string c, .bool false] 39) (.cells #[.string ⟨#[]⟩, .bool false] 39))
    clear hc hn h HR
    go_enter Try.func33, Try.ntmps33
    go_wp2_with (go_at_call 32; refine (HL _).out.mono ?_; rintro e w1 ⟨rfl, hb1⟩; have HB1 := Lib.hid (HB.out.trans (hb1.mono HB.out.size)); have hk0 := (hb1.block _ (lt_of_heap HK.out.1)).trans HK.out.1; have hk1 := (hb1.block _ (lt_of_heap HK.out.2)).trans HK.out.2; have b0 := cell_of_heap (v := .string c) hk0 (j := 0) rfl; have b1 := cell_of_heap (v := .bool false) hk0 (j := 1) rfl; have e0 := cell_of_heap (v := .string ⟨#[]⟩) hk1 (j := 0) rfl; have e1 := cell_of_heap (v := .bool false) hk1 (j := 1) rfl; have f0 := frozen_of_heap hk1 0; have f1 := frozen_of_heap hk1 1; clear hk0 hk1 hb1)
    rw [HP.out]
    exact bodyPost_ret (v := .tuple #[.agg #[.string ⟨((partL l a b).map u8of).toArray⟩, .bool false], .int .i64 0]) (by simp [results, Try.results33, go_sem, e0, e1]) rfl ⟨rfl, (HB1.out.setCell (p := ⟨w.heap.size + 1, 0, none⟩) (by simp) _).setCell (p := ⟨w.heap.size + 1, 1, none⟩) (by simp) _⟩
  · unfold strV at HL HR ⊢
    rw [h] at HL HR
    simp only at HL HR
    have HPV := Lib.hid h
    rw [h]
    simp only
    generalize (⟨(wideB l).toArray⟩ : ByteArray) = c at *
    have HB : Hid (Below w.heap.size w ((w.alloc (.cells #[.string c, .bool true] 39)).alloc (.cells #[.string ⟨#[]⟩, .bool false] 39))) := Lib.hid (((Below.refl _ _).alloc (Nat.le_refl _) _).alloc (by simp) _)
    have HK := Lib.hid (heap2 w (.cells #[.string c, .bool true] 39) (.cells #[.string ⟨#[]⟩, .bool false] 39))
    have HPK := fun W A C hr => Lib.hid (pack_is (w := W) (ad := A) (l := partL l a b) C hr (by have := HZ.out; omega))
    rw [hp] at HPK
    generalize (packV (partL l a b)).1 = c2 at *
    generalize (packV (partL l a b)).2 = wd2 at *
    clear hc hn h hp
    go_enter Try.func33, Try.ntmps33
    go_wp2_with (first
      | (go_at_call 32; refine (HL _).out.mono ?_; rintro e w1 ⟨rfl, hb1⟩
         have HB1 := Lib.hid (HB.out.trans (hb1.mono HB.out.size))
         have HK0 := Lib.hid ((hb1.block _ (lt_of_heap HK.out.1)).trans HK.out.1)
         have HK1 := Lib.hid ((hb1.block _ (lt_of_heap HK.out.2)).trans HK.out.2)
         have b0 := cell_of_heap (v := .string c) HK0.out (j := 0) rfl
         have b1 := cell_of_heap (v := .bool true) HK0.out (j := 1) rfl
         clear hb1)
      | (go_at_call 53; refine (HR _).out.mono ?_; rintro e w2 ⟨g, rfl, ho, hb2⟩
         have HB2 := Lib.hid (HB1.out.trans (hb2.mono HB1.out.size))
         have HK2 := Lib.hid ((hb2.block _ (lt_of_heap HK1.out)).trans HK1.out)
         have HRD : Hid (RdRo w2 (if l.length = a then some ⟨g, 0, none⟩ else some ⟨g, a, none⟩) (partL l a b)) := Lib.hid fun j hj => by
           have hz := HZ.out
           rw [if_neg (by omega)]
           obtain ⟨g', hA, _, hg, hcell, _⟩ := own_cell ho (a + j) (by omega)
           obtain rfl : g = g' := by injection hA with hA; injection hA
           refine ⟨g, a, rfl, hg, hcell.trans ?_⟩
           have h1 := partL_get (l := l) (a := a) (b := b) (i := a + j) (by omega) (by omega)
           rw [Nat.add_sub_cancel_left] at h1
           rw [List.getElem?_eq_getElem hj] at h1
           simp [i32s, ← h1]
         clear ho hb2)
      | (go_at_call 57; refine (HPK w2 (if l.length = a then some ⟨g, 0, none⟩ else some ⟨g, a, none⟩) _ HRD.out).out.mono ?_; rintro e w3 ⟨rfl, hb3⟩
         have HB3 := Lib.hid (HB2.out.trans (hb3.mono HB2.out.size))
         have hk3 := (hb3.block _ (lt_of_heap HK2.out)).trans HK2.out
         have e0 := cell_of_heap (v := .string ⟨#[]⟩) hk3 (j := 0) rfl
         have e1 := cell_of_heap (v := .bool false) hk3 (j := 1) rfl
         have f0 := frozen_of_heap hk3 0
         have f1 := frozen_of_heap hk3 1
         clear hk3 hb3))
    all_goals exact bodyPost_ret (v := .tuple #[.agg #[.string c2, .bool wd2], .int .i64 0]) (by simp [results, Try.results33, go_sem, e0, e1]) rfl ⟨rfl, (HB3.out.setCell (p := ⟨w.heap.size + 1, 0, none⟩) (by simp) _).setCell (p := ⟨w.heap.size + 1, 1, none⟩) (by simp) _⟩
end Go.Proofs.Ytcajnmhbkjngbaa

