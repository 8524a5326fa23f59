/- Make. -/
import Derived.Test.YtodfpclekihbhaaW10
namespace Go.Proofs.Ytodfpclekihbhaa
open Go.RowKit Go.Shelf

variable {w : World} {hb : Nat} {A : HA} {H : Hp} {S : Nat → Prop}
theorem RdB.mut {T : Nat → Prop} {w w' : World} {ad : Option Addr} {C : Nat} {refs : List Bool} (h : RdB w ad C refs) (hm : Mut T w w') (hT : ∀ a, ad = some a → ¬ T a.block) : RdB w' ad C refs :=
  ⟨fun a ha j u hj => by
    have h1 := h.cell a ha j u hj
    have h2 := lt_of_cell h1
    have hbk : (a.add j).block = a.block := by unfold Addr.add; split <;> rfl
    exact (World.cell?_of_block (hm.block _ h2 (by rw [hbk]; exact hT a ha))).trans h1, h.nil⟩
theorem make_nil (kind cls : Int) (ad : Option Addr) (n C : Nat) (w : World) : Calls Try.prog 29 #[.pointer none, .int .i64 kind, .agg #[.int .i64 cls, .slice ad n C]] w fun e w' => e = .returned (.tuple #[.int .i64 0, .int .i64 4]) ∧ Below w.heap.size w w' := by
  go_enter Try.func29, Try.ntmps29
  go_wp2
  all_goals go_ret2
  all_goals exact ⟨rfl, (Below.refl _ _).alloc (Nat.le_refl _) _⟩
/-- What a call that makes an object leaves. -/
def MkPost (w : World) (hb : Nat) (S : Nat → Prop) (R : Hp × Int × Int) (e : Ending) (w' : World) : Prop := e = .returned (.tuple #[.int .i64 R.2.1, .int .i64 R.2.2]) ∧ Nx w hb S R.1 w'
theorem MkPost.err (h : HpAt w hb A H S) (n : Int) {w' : World} (hb' : Below w.heap.size w w') : MkPost w hb S (H, 0, n) (.returned (.tuple #[.int .i64 0, .int .i64 n])) w' :=
  ⟨rfl, Nx.same (h.below hb') (Mut.of_below hb')⟩
theorem make_bad (h : HpAt w hb A H S) (kind cls : Int) (ad : Option Addr) (n C : Nat) (hk : kind ≠ 4 ∧ kind ≠ 5 ∧ kind ≠ 6 ∧ kind ≠ 7) : Calls Try.prog 29 #[.pointer (some ⟨hb, 0, none⟩), .int .i64 kind, .agg #[.int .i64 cls, .slice ad n C]] w (MkPost w hb S (H, 0, 13)) := by
  obtain ⟨h1, h2, h3, h4⟩ := hk
  have k1 : (kind != 4) = !false := by simpa using h1
  have k2 : (kind != 5) = !false := by simpa using h2
  have k3 : (kind != 6) = !false := by simpa using h3
  have k4 : (kind != 7) = !false := by simpa using h4
  have HH := Lib.hid h
  clear h h1 h2 h3 h4
  go_enter Try.func29, Try.ntmps29
  go_wp2
  all_goals go_ret2
  all_goals exact MkPost.err HH.out 13 ((Below.refl _ _).alloc (Nat.le_refl _) _)
theorem make_long4 (h : HpAt w hb A H S) (cls : Int) (ad : Option Addr) (n C : Nat) (hn : 256 < n) : Calls Try.prog 29 #[.pointer (some ⟨hb, 0, none⟩), .int .i64 4, .agg #[.int .i64 cls, .slice ad n C]] w (MkPost w hb S (H, 0, 3)) := by
  have HH := Lib.hid h
  have k1 : decide ((n : Int) > 256) = true := by simp; omega
  have k2 : (256 : Int) < (n : Int) := by omega
  clear h
  go_enter Try.func29, Try.ntmps29
  go_wp2
  all_goals go_ret2
  all_goals exact MkPost.err HH.out 3 ((Below.refl _ _).alloc (Nat.le_refl _) _)
set_option maxHeartbeats 2000000 in
theorem make_ok4 (h : HpAt w hb A H S) (hi : Inv H []) (hk : ∀ r o, Mp.get H.objs r = some o → o.row ≤ H.last) (hn : H.last ≤ 1000000) (cls : Int) {ad : Option Addr} {C : Nat} {refs : List Bool} (hr : RdB w ad C refs) (hl : refs.length ≤ 256) :
    Calls Try.prog 29 #[.pointer (some ⟨hb, 0, none⟩), .int .i64 4, .agg #[.int .i64 cls, .slice ad refs.length C]] w (MkPost w hb S (makeH H 4 cls refs)) := by
  have HH := Lib.hid h
  have HI := Lib.hid hi
  have HK := Lib.hid hk
  have HR := Lib.hid hr
  have HE : Hid (makeH H 4 cls refs = (addH (newRow H ⟨List.replicate refs.length ⟨0, 0⟩, 1, false⟩) ⟨4, cls, refs, emptyB, false, 0, H.last + 1, 0, 0, 0, 0⟩, (H.last : Int) + 1, 0)) := Lib.hid (by
    unfold makeH
    rw [if_neg (by simp), if_neg (by omega)]
    simp)
  have k1 : ¬ (256 : Int) < (refs.length : Int) := by omega
  have hmk := fun w => run_mkW w refs.length (by omega)
  have HL : Hid (refs.length ≤ 100000000) := Lib.hid (by omega)
  have hlen : (refs.length : Int) ≤ 256 := by omega
  have HB0 : Hid (Below w.heap.size w (w.alloc (.cells #[.int .i64 cls, .slice ad refs.length C] 32))) := Lib.hid ((Below.refl _ _).alloc (Nat.le_refl _) _)
  have HK0 := Lib.hid (heap_alloc_new w (.cells #[.int .i64 cls, .slice ad refs.length C] 32))
  clear h hi hk hr hl
  go_enter Try.func29, Try.ntmps29
  go_wp2_with (first
    | (go_at_call 56; refine (copied_calls cls (HR.out.below HB0.out) HL.out).mono ?_; rintro e w1 ⟨A1, C1, rfl, ho, hb1⟩
       have HO := Lib.hid ho
       have HB1 := Lib.hid (HB0.out.trans (hb1.mono HB0.out.size))
       have hz : w.heap.size < w1.heap.size := by have := hb1.size; simp at this; omega
       have e0 := keep3 hb1 (cell_of_heap (v := .slice ad refs.length C) HK0.out (j := 1) rfl)
       clear ho hb1)
    | (go_at_call 55; refine (addNew_calls HH.out HI.out HK.out hn ?c1 ⟨4, cls, refs, emptyB, false, 0, (H.last : Int) + 1, 0, 0, 0, 0⟩ ⟨List.replicate refs.length ⟨0, 0⟩, 1, false⟩ rfl rfl rfl w1.heap.size (by omega) (some ⟨w1.heap.size + 1, 0, none⟩) refs.length 0 A1 C1 ?c3 ?c4 ?c5 ?c6 ?c7).mono ?_
       case c1 => exact (HB1.out.alloc HB1.out.size _).alloc (by have := HB1.out.size; simp; omega) _
       case c3 => exact WordsAt.made _ HL.out (heap2 w1 _ _).2
       case c4 => intro a ha; injection ha with ha; subst ha; simp; omega
       case c5 => have := (heap2 w1 (.cells #[.int .i64 4, .int .i64 cls, .slice A1 refs.length C1, .slice (some ⟨w1.heap.size + 1, 0, none⟩) refs.length refs.length, .string { data := #[] }, .bool false, .int .i64 0, .pointer none, .int .i64 0, .int .i64 0, .int .i64 0, .int .i64 0] 104) (.cells (madeCells #[.int .i64 0, .int .i64 0] (refs.length * 2)) 42)).1; simpa [newC, emptyB] using this
       case c6 => exact (ShpAt.of_own HO.out).mut (T := fun _ => False) (Mut.of_below (((Below.refl _ _).alloc (Nat.le_refl _) _).alloc (by simp) _)) fun _ h => h.elim
       case c7 => rintro k ⟨_, a, ha, rfl⟩; exact .inr (by have := (own_blk HO.out a ha).1; simp at this; omega)
       rintro e w3 ⟨rfl, hp, hm, hs, _⟩
       have HN : Hid (Nx w hb S _ w3) := Lib.hid ⟨_, _, hp, hm, hs⟩
       clear hp hm hs))
  go_ret2
  exact ⟨by rw [HE.out]; rfl, by rw [HE.out]; exact HN.out⟩
theorem make_long5 (h : HpAt w hb A H S) (cls : Int) (ad : Option Addr) (n C : Nat) (hn : 256 < n) : Calls Try.prog 29 #[.pointer (some ⟨hb, 0, none⟩), .int .i64 5, .agg #[.int .i64 cls, .slice ad n C]] w (MkPost w hb S (H, 0, 3)) := by
  have HH := Lib.hid h
  have k1 : decide ((n : Int) > 256) = true := by simp; omega
  have k2 : (256 : Int) < (n : Int) := by omega
  clear h
  go_enter Try.func29, Try.ntmps29
  go_wp2
  all_goals go_ret2
  all_goals exact MkPost.err HH.out 3 ((Below.refl _ _).alloc (Nat.le_refl _) _)
set_option maxHeartbeats 2000000 in
theorem make_ok5 (h : HpAt w hb A H S) (hi : Inv H []) (hk : ∀ r o, Mp.get H.objs r = some o → o.row ≤ H.last) (hn : H.last ≤ 1000000) (cls : Int) {ad : Option Addr} {C : Nat} {refs : List Bool} (hr : RdB w ad C refs) (hl : refs.length ≤ 256) :
    Calls Try.prog 29 #[.pointer (some ⟨hb, 0, none⟩), .int .i64 5, .agg #[.int .i64 cls, .slice ad refs.length C]] w (MkPost w hb S (makeH H 5 cls refs)) := by
  have HH := Lib.hid h
  have HI := Lib.hid hi
  have HK := Lib.hid hk
  have HR := Lib.hid hr
  have HE : Hid (makeH H 5 cls refs = (addH (newRow H ⟨[], 1, false⟩) ⟨5, cls, refs, emptyB, false, 0, H.last + 1, 0, 0, 0, 0⟩, (H.last : Int) + 1, 0)) := Lib.hid (by
    unfold makeH
    rw [if_neg (by simp), if_neg (by omega)]
    simp)
  have k1 : ¬ (256 : Int) < (refs.length : Int) := by omega
  have hmk := fun w => run_mkW w refs.length (by omega)
  have HL : Hid (refs.length ≤ 100000000) := Lib.hid (by omega)
  have hlen : (refs.length : Int) ≤ 256 := by omega
  have HB0 : Hid (Below w.heap.size w (w.alloc (.cells #[.int .i64 cls, .slice ad refs.length C] 32))) := Lib.hid ((Below.refl _ _).alloc (Nat.le_refl _) _)
  have HK0 := Lib.hid (heap_alloc_new w (.cells #[.int .i64 cls, .slice ad refs.length C] 32))
  clear h hi hk hr hl
  go_enter Try.func29, Try.ntmps29
  go_wp2_with (first
    | (go_at_call 56; refine (copied_calls cls (HR.out.below HB0.out) HL.out).mono ?_; rintro e w1 ⟨A1, C1, rfl, ho, hb1⟩
       have HO := Lib.hid ho
       have HB1 := Lib.hid (HB0.out.trans (hb1.mono HB0.out.size))
       have hz : w.heap.size < w1.heap.size := by have := hb1.size; simp at this; omega
       have e0 := keep3 hb1 (cell_of_heap (v := .slice ad refs.length C) HK0.out (j := 1) rfl)
       clear ho hb1)
    | (go_at_call 55; refine (addNew_calls HH.out HI.out HK.out hn ?c1 ⟨5, cls, refs, emptyB, false, 0, (H.last : Int) + 1, 0, 0, 0, 0⟩ ⟨[], 1, false⟩ rfl rfl rfl w1.heap.size (by omega) none 0 0 A1 C1 ?c3 ?c4 ?c5 ?c6 ?c7).mono ?_
       case c1 => exact HB1.out.alloc HB1.out.size _
       case c3 => exact WordsAt.none _
       case c4 => intro a ha; cases ha
       case c5 => have := heap_alloc_new w1 (.cells #[.int .i64 5, .int .i64 cls, .slice A1 refs.length C1, .slice none 0 0, .string { data := #[] }, .bool false, .int .i64 0, .pointer none, .int .i64 0, .int .i64 0, .int .i64 0, .int .i64 0] 104); simpa [newC, emptyB] using this
       case c6 => exact (ShpAt.of_own HO.out).mut (T := fun _ => False) (Mut.of_below ((Below.refl _ _).alloc (Nat.le_refl _) _)) fun _ h => h.elim
       case c7 => rintro k ⟨_, a, ha, rfl⟩; exact .inr (by have := (own_blk HO.out a ha).1; simp at this; omega)
       rintro e w3 ⟨rfl, hp, hm, hs, _⟩
       have HN : Hid (Nx w hb S _ w3) := Lib.hid ⟨_, _, hp, hm, hs⟩
       clear hp hm hs))
  go_ret2
  exact ⟨by rw [HE.out]; rfl, by rw [HE.out]; exact HN.out⟩
theorem make_long6 (h : HpAt w hb A H S) (cls : Int) (ad : Option Addr) (n C : Nat) (hn : 256 < n) : Calls Try.prog 29 #[.pointer (some ⟨hb, 0, none⟩), .int .i64 6, .agg #[.int .i64 cls, .slice ad n C]] w (MkPost w hb S (H, 0, 3)) := by
  have HH := Lib.hid h
  have k1 : decide ((n : Int) > 256) = true := by simp; omega
  have k2 : (256 : Int) < (n : Int) := by omega
  clear h
  go_enter Try.func29, Try.ntmps29
  go_wp2
  all_goals go_ret2
  all_goals exact MkPost.err HH.out 3 ((Below.refl _ _).alloc (Nat.le_refl _) _)
set_option maxHeartbeats 2000000 in
theorem make_ok6 (h : HpAt w hb A H S) (hi : Inv H []) (hk : ∀ r o, Mp.get H.objs r = some o → o.row ≤ H.last) (hn : H.last ≤ 1000000) (cls : Int) {ad : Option Addr} {C : Nat} {refs : List Bool} (hr : RdB w ad C refs) (hl : refs.length ≤ 256) :
    Calls Try.prog 29 #[.pointer (some ⟨hb, 0, none⟩), .int .i64 6, .agg #[.int .i64 cls, .slice ad refs.length C]] w (MkPost w hb S (makeH H 6 cls refs)) := by
  have HH := Lib.hid h
  have HI := Lib.hid hi
  have HK := Lib.hid hk
  have HR := Lib.hid hr
  have HE : Hid (makeH H 6 cls refs = (addH (newRow H ⟨List.replicate refs.length ⟨0, 0⟩, 1, false⟩) ⟨6, cls, refs, emptyB, false, 0, H.last + 1, 0, 0, 0, 0⟩, (H.last : Int) + 1, 0)) := Lib.hid (by
    unfold makeH
    rw [if_neg (by simp), if_neg (by omega)]
    simp)
  have k1 : ¬ (256 : Int) < (refs.length : Int) := by omega
  have hmk := fun w => run_mkW w refs.length (by omega)
  have HL : Hid (refs.length ≤ 100000000) := Lib.hid (by omega)
  have hlen : (refs.length : Int) ≤ 256 := by omega
  have HB0 : Hid (Below w.heap.size w (w.alloc (.cells #[.int .i64 cls, .slice ad refs.length C] 32))) := Lib.hid ((Below.refl _ _).alloc (Nat.le_refl _) _)
  have HK0 := Lib.hid (heap_alloc_new w (.cells #[.int .i64 cls, .slice ad refs.length C] 32))
  clear h hi hk hr hl
  go_enter Try.func29, Try.ntmps29
  go_wp2_with (first
    | (go_at_call 56; refine (copied_calls cls (HR.out.below HB0.out) HL.out).mono ?_; rintro e w1 ⟨A1, C1, rfl, ho, hb1⟩
       have HO := Lib.hid ho
       have HB1 := Lib.hid (HB0.out.trans (hb1.mono HB0.out.size))
       have hz : w.heap.size < w1.heap.size := by have := hb1.size; simp at this; omega
       have e0 := keep3 hb1 (cell_of_heap (v := .slice ad refs.length C) HK0.out (j := 1) rfl)
       clear ho hb1)
    | (go_at_call 55; refine (addNew_calls HH.out HI.out HK.out hn ?c1 ⟨6, cls, refs, emptyB, false, 0, (H.last : Int) + 1, 0, 0, 0, 0⟩ ⟨List.replicate refs.length ⟨0, 0⟩, 1, false⟩ rfl rfl rfl w1.heap.size (by omega) (some ⟨w1.heap.size + 1, 0, none⟩) refs.length 0 A1 C1 ?c3 ?c4 ?c5 ?c6 ?c7).mono ?_
       case c1 => exact (HB1.out.alloc HB1.out.size _).alloc (by have := HB1.out.size; simp; omega) _
       case c3 => exact WordsAt.made _ HL.out (heap2 w1 _ _).2
       case c4 => intro a ha; injection ha with ha; subst ha; simp; omega
       case c5 => have := (heap2 w1 (.cells #[.int .i64 6, .int .i64 cls, .slice A1 refs.length C1, .slice (some ⟨w1.heap.size + 1, 0, none⟩) refs.length refs.length, .string { data := #[] }, .bool false, .int .i64 0, .pointer none, .int .i64 0, .int .i64 0, .int .i64 0, .int .i64 0] 104) (.cells (madeCells #[.int .i64 0, .int .i64 0] (refs.length * 2)) 42)).1; simpa [newC, emptyB] using this
       case c6 => exact (ShpAt.of_own HO.out).mut (T := fun _ => False) (Mut.of_below (((Below.refl _ _).alloc (Nat.le_refl _) _).alloc (by simp) _)) fun _ h => h.elim
       case c7 => rintro k ⟨_, a, ha, rfl⟩; exact .inr (by have := (own_blk HO.out a ha).1; simp at this; omega)
       rintro e w3 ⟨rfl, hp, hm, hs, _⟩
       have HN : Hid (Nx w hb S _ w3) := Lib.hid ⟨_, _, hp, hm, hs⟩
       clear hp hm hs))
  go_ret2
  exact ⟨by rw [HE.out]; rfl, by rw [HE.out]; exact HN.out⟩
theorem make_long7 (h : HpAt w hb A H S) (cls : Int) (ad : Option Addr) (n C : Nat) (hn : 256 < n) : Calls Try.prog 29 #[.pointer (some ⟨hb, 0, none⟩), .int .i64 7, .agg #[.int .i64 cls, .slice ad n C]] w (MkPost w hb S (H, 0, 3)) := by
  have HH := Lib.hid h
  have k1 : decide ((n : Int) > 256) = true := by simp; omega
  have k2 : (256 : Int) < (n : Int) := by omega
  clear h
  go_enter Try.func29, Try.ntmps29
  go_wp2
  all_goals go_ret2
  all_goals exact MkPost.err HH.out 3 ((Below.refl _ _).alloc (Nat.le_refl _) _)
set_option maxHeartbeats 2000000 in
theorem make_ok7 (h : HpAt w hb A H S) (hi : Inv H []) (hk : ∀ r o, Mp.get H.objs r = some o → o.row ≤ H.last) (hn : H.last ≤ 1000000) (cls : Int) {ad : Option Addr} {C : Nat} {refs : List Bool} (hr : RdB w ad C refs) (hl : refs.length ≤ 256) :
    Calls Try.prog 29 #[.pointer (some ⟨hb, 0, none⟩), .int .i64 7, .agg #[.int .i64 cls, .slice ad refs.length C]] w (MkPost w hb S (makeH H 7 cls refs)) := by
  have HH := Lib.hid h
  have HI := Lib.hid hi
  have HK := Lib.hid hk
  have HR := Lib.hid hr
  have HE : Hid (makeH H 7 cls refs = (addH (newRow H ⟨List.replicate refs.length ⟨0, 0⟩, 1, false⟩) ⟨7, cls, refs, emptyB, false, 0, H.last + 1, 0, 0, 0, 0⟩, (H.last : Int) + 1, 0)) := Lib.hid (by
    unfold makeH
    rw [if_neg (by simp), if_neg (by omega)]
    simp)
  have k1 : ¬ (256 : Int) < (refs.length : Int) := by omega
  have hmk := fun w => run_mkW w refs.length (by omega)
  have HL : Hid (refs.length ≤ 100000000) := Lib.hid (by omega)
  have hlen : (refs.length : Int) ≤ 256 := by omega
  have HB0 : Hid (Below w.heap.size w (w.alloc (.cells #[.int .i64 cls, .slice ad refs.length C] 32))) := Lib.hid ((Below.refl _ _).alloc (Nat.le_refl _) _)
  have HK0 := Lib.hid (heap_alloc_new w (.cells #[.int .i64 cls, .slice ad refs.length C] 32))
  clear h hi hk hr hl
  go_enter Try.func29, Try.ntmps29
  go_wp2_with (first
    | (go_at_call 56; refine (copied_calls cls (HR.out.below HB0.out) HL.out).mono ?_; rintro e w1 ⟨A1, C1, rfl, ho, hb1⟩
       have HO := Lib.hid ho
       have HB1 := Lib.hid (HB0.out.trans (hb1.mono HB0.out.size))
       have hz : w.heap.size < w1.heap.size := by have := hb1.size; simp at this; omega
       have e0 := keep3 hb1 (cell_of_heap (v := .slice ad refs.length C) HK0.out (j := 1) rfl)
       clear ho hb1)
    | (go_at_call 55; refine (addNew_calls HH.out HI.out HK.out hn ?c1 ⟨7, cls, refs, emptyB, false, 0, (H.last : Int) + 1, 0, 0, 0, 0⟩ ⟨List.replicate refs.length ⟨0, 0⟩, 1, false⟩ rfl rfl rfl w1.heap.size (by omega) (some ⟨w1.heap.size + 1, 0, none⟩) refs.length 0 A1 C1 ?c3 ?c4 ?c5 ?c6 ?c7).mono ?_
       case c1 => exact (HB1.out.alloc HB1.out.size _).alloc (by have := HB1.out.size; simp; omega) _
       case c3 => exact WordsAt.made _ HL.out (heap2 w1 _ _).2
       case c4 => intro a ha; injection ha with ha; subst ha; simp; omega
       case c5 => have := (heap2 w1 (.cells #[.int .i64 7, .int .i64 cls, .slice A1 refs.length C1, .slice (some ⟨w1.heap.size + 1, 0, none⟩) refs.length refs.length, .string { data := #[] }, .bool false, .int .i64 0, .pointer none, .int .i64 0, .int .i64 0, .int .i64 0, .int .i64 0] 104) (.cells (madeCells #[.int .i64 0, .int .i64 0] (refs.length * 2)) 42)).1; simpa [newC, emptyB] using this
       case c6 => exact (ShpAt.of_own HO.out).mut (T := fun _ => False) (Mut.of_below (((Below.refl _ _).alloc (Nat.le_refl _) _).alloc (by simp) _)) fun _ h => h.elim
       case c7 => rintro k ⟨_, a, ha, rfl⟩; exact .inr (by have := (own_blk HO.out a ha).1; simp at this; omega)
       rintro e w3 ⟨rfl, hp, hm, hs, _⟩
       have HN : Hid (Nx w hb S _ w3) := Lib.hid ⟨_, _, hp, hm, hs⟩
       clear hp hm hs))
  go_ret2
  exact ⟨by rw [HE.out]; rfl, by rw [HE.out]; exact HN.out⟩
/-- Make. -/
theorem make_calls (h : HpAt w hb A H S) (hi : Inv H []) (hk : ∀ r o, Mp.get H.objs r = some o → o.row ≤ H.last) (hn : H.last ≤ 1000000) (kind cls : Int) {ad : Option Addr} {C : Nat} {refs : List Bool} (hr : RdB w ad C refs) :
    Calls Try.prog 29 #[.pointer (some ⟨hb, 0, none⟩), .int .i64 kind, .agg #[.int .i64 cls, .slice ad refs.length C]] w (MkPost w hb S (makeH H kind cls refs)) := by
  by_cases hb' : kind ≠ 4 ∧ kind ≠ 5 ∧ kind ≠ 6 ∧ kind ≠ 7
  · rw [show makeH H kind cls refs = (H, 0, 13) from if_pos hb']
    exact make_bad h kind cls ad _ C hb'
  · have hkk : kind = 4 ∨ kind = 5 ∨ kind = 6 ∨ kind = 7 := by omega
    by_cases hl : 256 < refs.length
    · rw [show makeH H kind cls refs = (H, 0, 3) from by unfold makeH; rw [if_neg hb', if_pos hl]]
      rcases hkk with rfl | rfl | rfl | rfl
      · exact make_long4 h cls ad _ C hl
      · exact make_long5 h cls ad _ C hl
      · exact make_long6 h cls ad _ C hl
      · exact make_long7 h cls ad _ C hl
    · rcases hkk with rfl | rfl | rfl | rfl
      · exact make_ok4 h hi hk hn cls hr (by omega)
      · exact make_ok5 h hi hk hn cls hr (by omega)
      · exact make_ok6 h hi hk hn cls hr (by omega)
      · exact make_ok7 h hi hk hn cls hr (by omega)
end Go.Proofs.Ytodfpclekihbhaa
