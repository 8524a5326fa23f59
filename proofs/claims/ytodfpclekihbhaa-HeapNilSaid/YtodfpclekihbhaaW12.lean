/- word: the place of a word of an object. -/
import Derived.Test.YtodfpclekihbhaaW11
import Derived.Deep.QuietTactic
namespace Go.Proofs.Ytodfpclekihbhaa
open Go.RowKit Go.Shelf

variable {w : World} {hb : Nat} {A : HA} {H : Hp} {S : Nat → Prop}
def WdErr (w : World) (n : Int) (e : Ending) (w' : World) : Prop := e = .returned (.tuple #[.pointer none, .pointer none, .int .i64 n]) ∧ Below w.heap.size w w'
theorem word_nil (r i : Int) (l : Bool) (w : World) : Calls Try.prog 73 #[.pointer none, .int .i64 r, .int .i64 i, .bool l] w (WdErr w 4) := by
  have HF := Lib.hid (find_nil r w)
  go_enter Try.func73, Try.ntmps73
  go_wp2_with (go_at_call 57; refine HF.out.mono ?_; rintro e w1 ⟨rfl, rfl⟩)
  all_goals go_ret3
  all_goals exact ⟨rfl, Below.refl _ _⟩
theorem word_none (h : HpAt w hb A H S) {r : Int} (ho : Mp.get H.objs r = none) (i : Int) (l : Bool) : Calls Try.prog 73 #[.pointer (some ⟨hb, 0, none⟩), .int .i64 r, .int .i64 i, .bool l] w (WdErr w 4) := by
  have HF := Lib.hid (find_none h ho)
  clear h ho
  go_enter Try.func73, Try.ntmps73
  go_wp2_with (go_at_call 57; refine HF.out.mono ?_; rintro e w1 ⟨rfl, rfl⟩)
  all_goals go_ret3
  all_goals exact ⟨rfl, Below.refl _ _⟩
theorem word_kind (h : HpAt w hb A H S) {r : Int} {o : Ob} (ho : Mp.get H.objs r = some o) (i : Int) (l : Bool) (hk : o.kind ≠ 4 ∧ o.kind ≠ 6 ∧ o.kind ≠ 7 ∧ o.kind ≠ 3) : Calls Try.prog 73 #[.pointer (some ⟨hb, 0, none⟩), .int .i64 r, .int .i64 i, .bool l] w (WdErr w 13) := by
  have HF := Lib.hid (find_some h ho)
  obtain ⟨d0, _⟩ := h.ocells ho
  obtain ⟨h1, h2, h3, h4⟩ := hk
  have k1 : (o.kind == 4) = false := by simpa using h1
  have k2 : (o.kind == 6) = false := by simpa using h2
  have k3 : (o.kind == 7) = false := by simpa using h3
  have k4 : (o.kind == 3) = false := by simpa using h4
  clear h ho h1 h2 h3 h4
  go_enter Try.func73, Try.ntmps73
  go_wp2_with (go_at_call 57; refine HF.out.mono ?_; rintro e w1 ⟨rfl, rfl⟩)
  all_goals go_ret3
  all_goals exact ⟨rfl, Below.refl _ _⟩
theorem word_list (h : HpAt w hb A H S) {r : Int} {o : Ob} (ho : Mp.get H.objs r = some o) (i : Int) (hk : o.kind = 3) : Calls Try.prog 73 #[.pointer (some ⟨hb, 0, none⟩), .int .i64 r, .int .i64 i, .bool false] w (WdErr w 13) := by
  have HF := Lib.hid (find_some h ho)
  obtain ⟨d0, _⟩ := h.ocells ho
  rw [hk] at d0
  clear h ho hk
  go_enter Try.func73, Try.ntmps73
  go_wp2_with (go_at_call 57; refine HF.out.mono ?_; rintro e w1 ⟨rfl, rfl⟩)
  all_goals go_ret3
  all_goals exact ⟨rfl, Below.refl _ _⟩
theorem word_neg3 (h : HpAt w hb A H S) {r : Int} {o : Ob} (ho : Mp.get H.objs r = some o) (i : Int) (hk : o.kind = 3) (hi : i < 0) : Calls Try.prog 73 #[.pointer (some ⟨hb, 0, none⟩), .int .i64 r, .int .i64 i, .bool true] w (WdErr w 11) := by
  have HF := Lib.hid (find_some h ho)
  obtain ⟨d0, d1, d2, d3, _⟩ := h.ocells ho
  rw [hk] at d0
  have g1 : decide (i < 0) = true := by simpa using hi
  clear h ho hk
  go_enter Try.func73, Try.ntmps73
  go_wp2_with (go_at_call 57; refine HF.out.mono ?_; rintro e w1 ⟨rfl, rfl⟩)
  all_goals go_ret3
  all_goals exact ⟨rfl, Below.refl _ _⟩
theorem word_far3 (h : HpAt w hb A H S) {r : Int} {o : Ob} (ho : Mp.get H.objs r = some o) (i : Nat) (hk : o.kind = 3) (hi : (H.rowOf o.row).length ≤ i) : Calls Try.prog 73 #[.pointer (some ⟨hb, 0, none⟩), .int .i64 r, .int .i64 (i : Int), .bool true] w (WdErr w 11) := by
  have HF := Lib.hid (find_some h ho)
  obtain ⟨d0, d1, d2, d3, _⟩ := h.ocells ho
  rw [hk] at d0
  rw [show A.wF o (H.rowOf o.row).length = .slice (A.wA o.row) (H.rowOf o.row).length (A.wC o.row) from if_neg (by rw [hk]; decide)] at d3
  generalize (H.rowOf o.row).length = n at *
  have g2 : (n : Int) ≤ (i : Int) := by omega
  clear h ho hk
  go_enter Try.func73, Try.ntmps73
  go_wp2_with (go_at_call 57; refine HF.out.mono ?_; rintro e w1 ⟨rfl, rfl⟩)
  all_goals go_ret3
  all_goals exact ⟨rfl, Below.refl _ _⟩
theorem word_ok3 (h : HpAt w hb A H S) {r : Int} {o : Ob} (ho : Mp.get H.objs r = some o) (i : Nat) (hk : o.kind = 3) (hi : i < (H.rowOf o.row).length) {g : Nat} (hA : A.wA o.row = some ⟨g, 0, none⟩) (hC : (H.rowOf o.row).length ≤ A.wC o.row) : Calls Try.prog 73 #[.pointer (some ⟨hb, 0, none⟩), .int .i64 r, .int .i64 (i : Int), .bool true] w fun e w' => e = .returned (.tuple #[.pointer (some ⟨A.ob r, 0, none⟩), .pointer (some ⟨g, i * 2, none⟩), .int .i64 0]) ∧ Below w.heap.size w w' := by
  have HF := Lib.hid (find_some h ho)
  obtain ⟨d0, d1, d2, d3, _⟩ := h.ocells ho
  rw [hk] at d0
  rw [show A.wF o (H.rowOf o.row).length = .slice (A.wA o.row) (H.rowOf o.row).length (A.wC o.row) from if_neg (by rw [hk]; decide), hA] at d3
  generalize (H.rowOf o.row).length = n at *
  have g2 : ¬ (n : Int) ≤ (i : Int) := by omega
  have g3 : (0 : Int) ≤ (i : Int) := by omega
  have g4 : (i : Int) < (n : Int) := by omega
  clear h ho hk hA
  go_enter Try.func73, Try.ntmps73
  go_wp2_with (go_at_call 57; refine HF.out.mono ?_; rintro e w1 ⟨rfl, rfl⟩)
  go_quiet (fail)
  go_wp2
  all_goals go_ret3
  all_goals exact ⟨rfl, (Below.refl _ _).dn _⟩
theorem word_neg4 (h : HpAt w hb A H S) {r : Int} {o : Ob} (ho : Mp.get H.objs r = some o) (i : Int) (l : Bool) (hk : o.kind = 4) (hi : i < 0) : Calls Try.prog 73 #[.pointer (some ⟨hb, 0, none⟩), .int .i64 r, .int .i64 i, .bool l] w (WdErr w 11) := by
  have HF := Lib.hid (find_some h ho)
  obtain ⟨d0, d1, d2, d3, _⟩ := h.ocells ho
  rw [hk] at d0
  have g1 : decide (i < 0) = true := by simpa using hi
  clear h ho hk
  go_enter Try.func73, Try.ntmps73
  go_wp2_with (go_at_call 57; refine HF.out.mono ?_; rintro e w1 ⟨rfl, rfl⟩)
  all_goals go_ret3
  all_goals exact ⟨rfl, Below.refl _ _⟩
theorem word_far4 (h : HpAt w hb A H S) {r : Int} {o : Ob} (ho : Mp.get H.objs r = some o) (i : Nat) (l : Bool) (hk : o.kind = 4) (hi : (H.rowOf o.row).length ≤ i) : Calls Try.prog 73 #[.pointer (some ⟨hb, 0, none⟩), .int .i64 r, .int .i64 (i : Int), .bool l] w (WdErr w 11) := by
  have HF := Lib.hid (find_some h ho)
  obtain ⟨d0, d1, d2, d3, _⟩ := h.ocells ho
  rw [hk] at d0
  rw [show A.wF o (H.rowOf o.row).length = .slice (A.wA o.row) (H.rowOf o.row).length (A.wC o.row) from if_neg (by rw [hk]; decide)] at d3
  generalize (H.rowOf o.row).length = n at *
  have g2 : (n : Int) ≤ (i : Int) := by omega
  clear h ho hk
  go_enter Try.func73, Try.ntmps73
  go_wp2_with (go_at_call 57; refine HF.out.mono ?_; rintro e w1 ⟨rfl, rfl⟩)
  all_goals go_ret3
  all_goals exact ⟨rfl, Below.refl _ _⟩
theorem word_ok4 (h : HpAt w hb A H S) {r : Int} {o : Ob} (ho : Mp.get H.objs r = some o) (i : Nat) (l : Bool) (hk : o.kind = 4) (hi : i < (H.rowOf o.row).length) {g : Nat} (hA : A.wA o.row = some ⟨g, 0, none⟩) (hC : (H.rowOf o.row).length ≤ A.wC o.row) : Calls Try.prog 73 #[.pointer (some ⟨hb, 0, none⟩), .int .i64 r, .int .i64 (i : Int), .bool l] w fun e w' => e = .returned (.tuple #[.pointer (some ⟨A.ob r, 0, none⟩), .pointer (some ⟨g, i * 2, none⟩), .int .i64 0]) ∧ Below w.heap.size w w' := by
  have HF := Lib.hid (find_some h ho)
  obtain ⟨d0, d1, d2, d3, _⟩ := h.ocells ho
  rw [hk] at d0
  rw [show A.wF o (H.rowOf o.row).length = .slice (A.wA o.row) (H.rowOf o.row).length (A.wC o.row) from if_neg (by rw [hk]; decide), hA] at d3
  generalize (H.rowOf o.row).length = n at *
  have g2 : ¬ (n : Int) ≤ (i : Int) := by omega
  have g3 : (0 : Int) ≤ (i : Int) := by omega
  have g4 : (i : Int) < (n : Int) := by omega
  clear h ho hk hA
  go_enter Try.func73, Try.ntmps73
  go_wp2_with (go_at_call 57; refine HF.out.mono ?_; rintro e w1 ⟨rfl, rfl⟩)
  go_quiet (fail)
  go_wp2
  all_goals go_ret3
  all_goals exact ⟨rfl, (Below.refl _ _).dn _⟩
theorem word_neg6 (h : HpAt w hb A H S) {r : Int} {o : Ob} (ho : Mp.get H.objs r = some o) (i : Int) (l : Bool) (hk : o.kind = 6) (hi : i < 0) : Calls Try.prog 73 #[.pointer (some ⟨hb, 0, none⟩), .int .i64 r, .int .i64 i, .bool l] w (WdErr w 11) := by
  have HF := Lib.hid (find_some h ho)
  obtain ⟨d0, d1, d2, d3, _⟩ := h.ocells ho
  rw [hk] at d0
  have g1 : decide (i < 0) = true := by simpa using hi
  clear h ho hk
  go_enter Try.func73, Try.ntmps73
  go_wp2_with (go_at_call 57; refine HF.out.mono ?_; rintro e w1 ⟨rfl, rfl⟩)
  all_goals go_ret3
  all_goals exact ⟨rfl, Below.refl _ _⟩
theorem word_far6 (h : HpAt w hb A H S) {r : Int} {o : Ob} (ho : Mp.get H.objs r = some o) (i : Nat) (l : Bool) (hk : o.kind = 6) (hi : (H.rowOf o.row).length ≤ i) : Calls Try.prog 73 #[.pointer (some ⟨hb, 0, none⟩), .int .i64 r, .int .i64 (i : Int), .bool l] w (WdErr w 11) := by
  have HF := Lib.hid (find_some h ho)
  obtain ⟨d0, d1, d2, d3, _⟩ := h.ocells ho
  rw [hk] at d0
  rw [show A.wF o (H.rowOf o.row).length = .slice (A.wA o.row) (H.rowOf o.row).length (A.wC o.row) from if_neg (by rw [hk]; decide)] at d3
  generalize (H.rowOf o.row).length = n at *
  have g2 : (n : Int) ≤ (i : Int) := by omega
  clear h ho hk
  go_enter Try.func73, Try.ntmps73
  go_wp2_with (go_at_call 57; refine HF.out.mono ?_; rintro e w1 ⟨rfl, rfl⟩)
  all_goals go_ret3
  all_goals exact ⟨rfl, Below.refl _ _⟩
theorem word_ok6 (h : HpAt w hb A H S) {r : Int} {o : Ob} (ho : Mp.get H.objs r = some o) (i : Nat) (l : Bool) (hk : o.kind = 6) (hi : i < (H.rowOf o.row).length) {g : Nat} (hA : A.wA o.row = some ⟨g, 0, none⟩) (hC : (H.rowOf o.row).length ≤ A.wC o.row) : Calls Try.prog 73 #[.pointer (some ⟨hb, 0, none⟩), .int .i64 r, .int .i64 (i : Int), .bool l] w fun e w' => e = .returned (.tuple #[.pointer (some ⟨A.ob r, 0, none⟩), .pointer (some ⟨g, i * 2, none⟩), .int .i64 0]) ∧ Below w.heap.size w w' := by
  have HF := Lib.hid (find_some h ho)
  obtain ⟨d0, d1, d2, d3, _⟩ := h.ocells ho
  rw [hk] at d0
  rw [show A.wF o (H.rowOf o.row).length = .slice (A.wA o.row) (H.rowOf o.row).length (A.wC o.row) from if_neg (by rw [hk]; decide), hA] at d3
  generalize (H.rowOf o.row).length = n at *
  have g2 : ¬ (n : Int) ≤ (i : Int) := by omega
  have g3 : (0 : Int) ≤ (i : Int) := by omega
  have g4 : (i : Int) < (n : Int) := by omega
  clear h ho hk hA
  go_enter Try.func73, Try.ntmps73
  go_wp2_with (go_at_call 57; refine HF.out.mono ?_; rintro e w1 ⟨rfl, rfl⟩)
  go_quiet (fail)
  go_wp2
  all_goals go_ret3
  all_goals exact ⟨rfl, (Below.refl _ _).dn _⟩
theorem word_neg7 (h : HpAt w hb A H S) {r : Int} {o : Ob} (ho : Mp.get H.objs r = some o) (i : Int) (l : Bool) (hk : o.kind = 7) (hi : i < 0) : Calls Try.prog 73 #[.pointer (some ⟨hb, 0, none⟩), .int .i64 r, .int .i64 i, .bool l] w (WdErr w 11) := by
  have HF := Lib.hid (find_some h ho)
  obtain ⟨d0, d1, d2, d3, _⟩ := h.ocells ho
  rw [hk] at d0
  have g1 : decide (i < 0) = true := by simpa using hi
  clear h ho hk
  go_enter Try.func73, Try.ntmps73
  go_wp2_with (go_at_call 57; refine HF.out.mono ?_; rintro e w1 ⟨rfl, rfl⟩)
  all_goals go_ret3
  all_goals exact ⟨rfl, Below.refl _ _⟩
theorem word_far7 (h : HpAt w hb A H S) {r : Int} {o : Ob} (ho : Mp.get H.objs r = some o) (i : Nat) (l : Bool) (hk : o.kind = 7) (hi : (H.rowOf o.row).length ≤ i) : Calls Try.prog 73 #[.pointer (some ⟨hb, 0, none⟩), .int .i64 r, .int .i64 (i : Int), .bool l] w (WdErr w 11) := by
  have HF := Lib.hid (find_some h ho)
  obtain ⟨d0, d1, d2, d3, _⟩ := h.ocells ho
  rw [hk] at d0
  rw [show A.wF o (H.rowOf o.row).length = .slice (A.wA o.row) (H.rowOf o.row).length (A.wC o.row) from if_neg (by rw [hk]; decide)] at d3
  generalize (H.rowOf o.row).length = n at *
  have g2 : (n : Int) ≤ (i : Int) := by omega
  clear h ho hk
  go_enter Try.func73, Try.ntmps73
  go_wp2_with (go_at_call 57; refine HF.out.mono ?_; rintro e w1 ⟨rfl, rfl⟩)
  all_goals go_ret3
  all_goals exact ⟨rfl, Below.refl _ _⟩
theorem word_ok7 (h : HpAt w hb A H S) {r : Int} {o : Ob} (ho : Mp.get H.objs r = some o) (i : Nat) (l : Bool) (hk : o.kind = 7) (hi : i < (H.rowOf o.row).length) {g : Nat} (hA : A.wA o.row = some ⟨g, 0, none⟩) (hC : (H.rowOf o.row).length ≤ A.wC o.row) : Calls Try.prog 73 #[.pointer (some ⟨hb, 0, none⟩), .int .i64 r, .int .i64 (i : Int), .bool l] w fun e w' => e = .returned (.tuple #[.pointer (some ⟨A.ob r, 0, none⟩), .pointer (some ⟨g, i * 2, none⟩), .int .i64 0]) ∧ Below w.heap.size w w' := by
  have HF := Lib.hid (find_some h ho)
  obtain ⟨d0, d1, d2, d3, _⟩ := h.ocells ho
  rw [hk] at d0
  rw [show A.wF o (H.rowOf o.row).length = .slice (A.wA o.row) (H.rowOf o.row).length (A.wC o.row) from if_neg (by rw [hk]; decide), hA] at d3
  generalize (H.rowOf o.row).length = n at *
  have g2 : ¬ (n : Int) ≤ (i : Int) := by omega
  have g3 : (0 : Int) ≤ (i : Int) := by omega
  have g4 : (i : Int) < (n : Int) := by omega
  clear h ho hk hA
  go_enter Try.func73, Try.ntmps73
  go_wp2_with (go_at_call 57; refine HF.out.mono ?_; rintro e w1 ⟨rfl, rfl⟩)
  go_quiet (fail)
  go_wp2
  all_goals go_ret3
  all_goals exact ⟨rfl, (Below.refl _ _).dn _⟩
end Go.Proofs.Ytodfpclekihbhaa
