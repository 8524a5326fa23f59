/- Texts on the heap, merged: W25, W26, W27, W28. -/
import Derived.Test.YtodfpclekihbhaaG08
/- HeapNil: a heap that is nil has no objects. -/
namespace Go.Proofs.Ytodfpclekihbhaa
open Go.RowKit Go.Shelf

theorem watch_nil (on : Bool) (w : World) : Calls Try.prog 36 #[.pointer none, .bool on] w fun e w' => e = .returned (.tuple #[]) ∧ Below w.heap.size w w' := by
  go_enter Try.func36, Try.ntmps36
  go_wp2
  all_goals go_end0
  all_goals exact ⟨rfl, Below.refl _ _⟩
theorem seen_nil (w : World) : Calls Try.prog 42 #[.pointer none] w fun e w' => e = .returned (.slice none 0 0) ∧ w = w' := by
  go_enter Try.func42, Try.ntmps42
  go_wp2
  all_goals go_ret
  all_goals exact ⟨rfl, rfl⟩
theorem fours (W : World) (b : Nat) (h : W.heap[b]? = some (.cells #[.int .i64 4, .int .i64 4, .int .i64 4, .int .i64 4, .int .i64 4, .int .i64 4, .int .i64 4, .int .i64 4, .int .i64 4, .int .i64 4, .int .i64 4, .int .i64 4, .int .i64 4, .int .i64 4] 27 (0, 0))) (j : Nat) (hj : j < 14) : W.cell? ⟨b, j, none⟩ = some (.int .i64 4) := by
  refine cell_of_heap h ?_
  match j, hj with
  | 0, _ => rfl
  | 1, _ => rfl
  | 2, _ => rfl
  | 3, _ => rfl
  | 4, _ => rfl
  | 5, _ => rfl
  | 6, _ => rfl
  | 7, _ => rfl
  | 8, _ => rfl
  | 9, _ => rfl
  | 10, _ => rfl
  | 11, _ => rfl
  | 12, _ => rfl
  | 13, _ => rfl
  | (j + 14), h => exact absurd h (by omega)
set_option maxRecDepth 100000 in
set_option maxHeartbeats 4000000 in
theorem law_heapnil (r i j : Int) (w : World) : Calls Try.prog 5 #[.int .i64 r, .int .i64 i, .int .i64 j] w fun e w' => e = .returned (.bool true) ∧ Below w.heap.size w w' := by
  go_enter Try.func5, Try.ntmps5
  go_wp2_with (first
    | (go_at_call 11; refine (awake17 w).mono ?_; rintro e w0 ⟨rfl, hb⟩
       have HB0 := Lib.hid hb
       have B0 : Hid (Bx ((w0.alloc (.cells #[.bool true] 4)).alloc (.cells #[.int .i64 0, .slice (some ⟨w0.heap.size, 0, none⟩) 1 1] 32)) w0.heap.size (w0.heap.size + 1)) := Lib.hid ⟨(heap2 w0 _ _).1, (heap2 w0 _ _).2⟩
       have HB0' : Hid (Below w.heap.size w ((w0.alloc (.cells #[.bool true] 4)).alloc (.cells #[.int .i64 0, .slice (some ⟨w0.heap.size, 0, none⟩) 1 1] 32))) := Lib.hid (hb.trans ((((Below.refl _ _).alloc (Nat.le_refl _) _).alloc (by simp) _).mono hb.size))
       clear hb)
    | (go_at_call 28; refine (text_nil _ _ _).mono ?_; rintro e w1 ⟨rfl, hb⟩
       have HB1 := Lib.hid (HB0'.out.trans (hb.mono HB0'.out.size))
       have b1 := B0.out.below hb
       have B1 := Lib.hid b1
       have e10 := cell_of_heap (v := .int .i64 0) b1.k2 (j := 0) rfl
       have e11 := cell_of_heap (v := .slice (some ⟨w0.heap.size, 0, none⟩) 1 1) b1.k2 (j := 1) rfl
       have l1 := lt_of_heap b1.k2
       clear hb b1)
    | (go_at_call 13; refine (array_nil _ _ _ _ _ _).mono ?_; rintro e w2 ⟨rfl, hb⟩
       have HB2 := Lib.hid (HB1.out.trans (hb.mono HB1.out.size))
       have b1 := B1.out.below hb
       have B2 := Lib.hid b1
       have e20 := cell_of_heap (v := .int .i64 0) b1.k2 (j := 0) rfl
       have e21 := cell_of_heap (v := .slice (some ⟨w0.heap.size, 0, none⟩) 1 1) b1.k2 (j := 1) rfl
       have l2 := lt_of_heap b1.k2
       clear hb b1)
    | (go_at_call 14; refine (part_nil _ _ _ _).mono ?_; rintro e w3 ⟨rfl, hb⟩
       have HB3 := Lib.hid (HB2.out.trans (hb.mono HB2.out.size))
       have b1 := B2.out.below hb
       have B3 := Lib.hid b1
       have e30 := cell_of_heap (v := .int .i64 0) b1.k2 (j := 0) rfl
       have e31 := cell_of_heap (v := .slice (some ⟨w0.heap.size, 0, none⟩) 1 1) b1.k2 (j := 1) rfl
       have l3 := lt_of_heap b1.k2
       clear hb b1)
    | (go_at_call 29; refine (make_nil _ _ _ _ _ _).mono ?_; rintro e w4 ⟨rfl, hb⟩
       have HB4 := Lib.hid (HB3.out.trans (hb.mono HB3.out.size))
       have b1 := B3.out.below hb
       have B4 := Lib.hid b1
       have e40 := cell_of_heap (v := .int .i64 0) b1.k2 (j := 0) rfl
       have e41 := cell_of_heap (v := .slice (some ⟨w0.heap.size, 0, none⟩) 1 1) b1.k2 (j := 1) rfl
       have l4 := lt_of_heap b1.k2
       clear hb b1)
    | (go_at_call 30; refine (cons_nil _ _ _ _ _ _ _ _ _).mono ?_; rintro e w5 ⟨rfl, hb⟩
       have HB5 := Lib.hid (HB4.out.trans (hb.mono HB4.out.size))
       have b1 := B4.out.below hb
       have B5 := Lib.hid b1
       have e50 := cell_of_heap (v := .int .i64 0) b1.k2 (j := 0) rfl
       have e51 := cell_of_heap (v := .slice (some ⟨w0.heap.size, 0, none⟩) 1 1) b1.k2 (j := 1) rfl
       have l5 := lt_of_heap b1.k2
       clear hb b1)
    | (go_at_call 17; refine (len_nil _ _).mono ?_; rintro e w6 ⟨rfl, hb⟩
       have HB6 := Lib.hid (HB5.out.trans (hb.mono HB5.out.size))
       have b1 := B5.out.below hb
       have B6 := Lib.hid b1
       have e60 := cell_of_heap (v := .int .i64 0) b1.k2 (j := 0) rfl
       have e61 := cell_of_heap (v := .slice (some ⟨w0.heap.size, 0, none⟩) 1 1) b1.k2 (j := 1) rfl
       have l6 := lt_of_heap b1.k2
       clear hb b1)
    | (go_at_call 31; refine (get_err none _ _ 4 (by decide) fun W _ => word_nil _ _ _ W).mono ?_; rintro e w7 ⟨rfl, hb⟩
       have HB7 := Lib.hid (HB6.out.trans (hb.mono HB6.out.size))
       have b1 := B6.out.below hb
       have B7 := Lib.hid b1
       have e70 := cell_of_heap (v := .int .i64 0) b1.k2 (j := 0) rfl
       have e71 := cell_of_heap (v := .slice (some ⟨w0.heap.size, 0, none⟩) 1 1) b1.k2 (j := 1) rfl
       have l7 := lt_of_heap b1.k2
       clear hb b1)
    | (go_at_call 18; refine (at_err none _ _ _ 4 (by decide) fun W _ => el_nil _ _ _ W).mono ?_; rintro e w8 ⟨rfl, hb⟩
       have HB8 := Lib.hid ((HB7.out.alloc HB7.out.size (.cells #[.int .i64 0, .int .i64 0] 42)).trans (hb.mono (HB7.out.alloc HB7.out.size (.cells #[.int .i64 0, .int .i64 0] 42)).size))
       have b1 := (B7.out.below ((Below.refl _ _).alloc (Nat.le_refl _) (.cells #[.int .i64 0, .int .i64 0] 42))).below hb
       have B8 := Lib.hid b1
       have e80 := cell_of_heap (v := .int .i64 0) b1.k2 (j := 0) rfl
       have e81 := cell_of_heap (v := .slice (some ⟨w0.heap.size, 0, none⟩) 1 1) b1.k2 (j := 1) rfl
       have l8 := lt_of_heap b1.k2
       clear hb b1)
    | (go_at_call 32; refine (set_nil _ _ _ _ _).mono ?_; rintro e w9 ⟨rfl, hb⟩
       have HB9 := Lib.hid ((HB8.out.alloc HB8.out.size (.cells #[.int .i64 0, .int .i64 0] 42)).trans (hb.mono (HB8.out.alloc HB8.out.size (.cells #[.int .i64 0, .int .i64 0] 42)).size))
       have b1 := (B8.out.below ((Below.refl _ _).alloc (Nat.le_refl _) (.cells #[.int .i64 0, .int .i64 0] 42))).below hb
       have B9 := Lib.hid b1
       have e90 := cell_of_heap (v := .int .i64 0) b1.k2 (j := 0) rfl
       have e91 := cell_of_heap (v := .slice (some ⟨w0.heap.size, 0, none⟩) 1 1) b1.k2 (j := 1) rfl
       have l9 := lt_of_heap b1.k2
       clear hb b1)
    | (go_at_call 16; refine (put_nil _ _ _ _ _ _).mono ?_; rintro e w10 ⟨rfl, hb⟩
       have HB10 := Lib.hid (HB9.out.trans (hb.mono HB9.out.size))
       have b1 := B9.out.below hb
       have B10 := Lib.hid b1
       have e100 := cell_of_heap (v := .int .i64 0) b1.k2 (j := 0) rfl
       have e101 := cell_of_heap (v := .slice (some ⟨w0.heap.size, 0, none⟩) 1 1) b1.k2 (j := 1) rfl
       have l10 := lt_of_heap b1.k2
       clear hb b1)
    | (go_at_call 15; refine (copy_nil _ _ _ _).mono ?_; rintro e w11 ⟨rfl, hb⟩
       have HB11 := Lib.hid (HB10.out.trans (hb.mono HB10.out.size))
       have b1 := B10.out.below hb
       have B11 := Lib.hid b1
       have e110 := cell_of_heap (v := .int .i64 0) b1.k2 (j := 0) rfl
       have e111 := cell_of_heap (v := .slice (some ⟨w0.heap.size, 0, none⟩) 1 1) b1.k2 (j := 1) rfl
       have l11 := lt_of_heap b1.k2
       clear hb b1)
    | (go_at_call 33; refine (clear_nil _ _).mono ?_; rintro e w12 ⟨rfl, hb⟩
       have HB12 := Lib.hid (HB11.out.trans (hb.mono HB11.out.size))
       have b1 := B11.out.below hb
       have B12 := Lib.hid b1
       have e120 := cell_of_heap (v := .int .i64 0) b1.k2 (j := 0) rfl
       have e121 := cell_of_heap (v := .slice (some ⟨w0.heap.size, 0, none⟩) 1 1) b1.k2 (j := 1) rfl
       have l12 := lt_of_heap b1.k2
       clear hb b1)
    | (go_at_call 34; refine (hold_nil _ _).mono ?_; rintro e w13 ⟨rfl, hb⟩
       have HB13 := Lib.hid (HB12.out.trans (hb.mono HB12.out.size))
       have b1 := B12.out.below hb
       have B13 := Lib.hid b1
       have e130 := cell_of_heap (v := .int .i64 0) b1.k2 (j := 0) rfl
       have e131 := cell_of_heap (v := .slice (some ⟨w0.heap.size, 0, none⟩) 1 1) b1.k2 (j := 1) rfl
       have l13 := lt_of_heap b1.k2
       clear hb b1)
    | (go_at_call 35; refine (drop_nil _ _).mono ?_; rintro e w14 ⟨rfl, hb⟩
       have HB14 := Lib.hid (HB13.out.trans (hb.mono HB13.out.size))
       have b1 := B13.out.below hb
       have B14 := Lib.hid b1
       have e140 := cell_of_heap (v := .int .i64 0) b1.k2 (j := 0) rfl
       have e141 := cell_of_heap (v := .slice (some ⟨w0.heap.size, 0, none⟩) 1 1) b1.k2 (j := 1) rfl
       have l14 := lt_of_heap b1.k2
       clear hb b1))
  have HB := Lib.hid (HB14.out.alloc HB14.out.size (.cells #[.int .i64 4, .int .i64 4, .int .i64 4, .int .i64 4, .int .i64 4, .int .i64 4, .int .i64 4, .int .i64 4, .int .i64 4, .int .i64 4, .int .i64 4, .int .i64 4, .int .i64 4, .int .i64 4] 27))
  have HF := Lib.hid (fours _ _ (heap_alloc_new w14 (.cells #[.int .i64 4, .int .i64 4, .int .i64 4, .int .i64 4, .int .i64 4, .int .i64 4, .int .i64 4, .int .i64 4, .int .i64 4, .int .i64 4, .int .i64 4, .int .i64 4, .int .i64 4, .int .i64 4] 27)))
  generalize (w14.alloc (.cells #[.int .i64 4, .int .i64 4, .int .i64 4, .int .i64 4, .int .i64 4, .int .i64 4, .int .i64 4, .int .i64 4, .int .i64 4, .int .i64 4, .int .i64 4, .int .i64 4, .int .i64 4, .int .i64 4] 27)) = W at *
  go_loopw [124] (fun p wr => W = wr ∧ ∃ k : Nat, k ≤ 14 ∧ p = .int .i64 k) (fun i _ => 14 - (intOf i).toNat)
  case atStart => exact ⟨rfl, 0, by omega, rfl⟩
  case round =>
    obtain ⟨rfl, k, hk, rfl⟩ := hrel
    by_cases hlt : k < 14
    · have c1 := HF.out k hlt
      have q0 : (0 : Int) ≤ (k : Int) := by omega
      have q1 : (k : Int) < 14 := by omega
      go_wp2
      go_roundw
      case rel => exact ⟨by first | trivial | rfl, k + 1, by omega, by go_num⟩
      case measure => simp [intOf]; omega
    · obtain rfl : k = 14 := by omega
      go_wp2_with (first
        | (go_at_call 36; refine (watch_nil _ _).mono ?_; rintro e wa ⟨rfl, hb⟩; have HBa := Lib.hid (HB.out.trans (hb.mono HB.out.size)); clear hb)
        | (go_at_call 37; refine (kind_nil _ _).mono ?_; rintro e wb ⟨rfl, rfl⟩)
        | (go_at_call 38; refine (holds_nil _ _).mono ?_; rintro e wb ⟨rfl, rfl⟩)
        | (go_at_call 39; refine (Count_nil _ _).mono ?_; rintro e wb ⟨rfl, rfl⟩)
        | (go_at_call 40; refine (all_nil _).mono ?_; rintro e wb ⟨rfl, rfl⟩)
        | (go_at_call 41; refine (refs_nil _ _).mono ?_; rintro e wb ⟨rfl, rfl⟩)
        | (go_at_call 42; refine (seen_nil _).mono ?_; rintro e wb ⟨rfl, rfl⟩))
      go_ret
      exact ⟨rfl, HBa.out⟩
end Go.Proofs.Ytodfpclekihbhaa

/- Watch, Seen. -/
namespace Go.Proofs.Ytodfpclekihbhaa
open Go.RowKit Go.Maps Go.Shelf Go.Sort

variable {w : World} {hb : Nat} {A : HA} {H : Hp} {S : Nat → Prop}
/-- A number is appended to a slice of the call's own. -/
theorem app_ref {ops : Array Oper} {rest : List Oper} {o : Oper} {a : Act} {Q : Exit → Act → World → Prop} {w : World} (hgd : o.guard = none) (s x : Operand)
    (ho : o.op = .call { callee := .builtin .append, args := #[s, x], argTypes := #[35, 35] }) (B : Nat) (A : Option Addr) (C : Nat) (xs : List Int) (n : Int)
    (hs : a.eval s = .slice A xs.length C) (hown : w.ownsRow B 26 1 (.slice A xs.length C) xs.length (ints xs)) {p : Nat} (hx : a.eval x = .slice (some ⟨p, 0, none⟩) 1 1) (hp : p = w.heap.size)
    (hn : xs.length ≤ 100000000) (hB : B ≤ w.heap.size)
    (h : ∀ A1 C1 ys w', ys = xs ++ [n] → w'.ownsRow B 26 1 (.slice A1 ys.length C1) ys.length (ints ys) → Mut (fun k => ∃ a, A = some a ∧ a.block = k) w w' → (∀ a, A1 = some a → A = some a ∨ w.heap.size ≤ a.block) → wpList Try.prog ops Q rest (a.put o.dst (.slice A1 ys.length C1)) w') :
    wpList Try.prog ops Q (o :: rest) a (w.alloc (.cells #[.int .i64 n] 26)) := by
  subst hp
  obtain ⟨i0, hi, hz0, hz1, hz2⟩ := info_parts Try.infoRef
  have ba : Below w.heap.size w (w.alloc (.cells #[.int .i64 n] 26)) := (Below.refl _ _).alloc (Nat.le_refl _) _
  have hsz : (w.alloc (.cells #[.int .i64 n] 26)).heap.size = w.heap.size + 1 := World.size_alloc _ _
  refine wpList_append_own_at _ hgd s x 35 ho B 26 i0 (.int .i64 0) 1 8 Try.underlying35 hi hz0 hz1 hz2 rfl (by decide) (.slice A xs.length C) xs.length (ints xs) hs (hown.alloc _) ⟨w.heap.size, 0, none⟩ 1 1 [.int .i64 n] hx rfl ?c1 ?c2 ?c3 ?c4 ?c5 ?_
  case c1 => exact World.news_of_block (cs := #[.int .i64 n]) (t := 26) (fr := (0, 0)) (heap_alloc_new w _)
  case c2 => intro u hu; simp at hu; subst hu; rfl
  case c3 => simp only [maxLen]; omega
  case c4 => omega
  case c5 => simp; omega
  intro v1 w1 hown1 hgrow _ hblk
  obtain ⟨A1, C1, rfl⟩ := own_slice hown1
  have e1 : xs.length + 1 = (xs ++ [n]).length := by simp
  rw [e1] at hown1 ⊢
  refine h A1 C1 _ w1 rfl (by simpa [ints] using hown1) ((Mut.of_below ba).trans (Mut.of_grown (S := fun k => ∃ a, A = some a ∧ a.block = k) hgrow fun k hk => .inl (ownB hk)) fun i hi => .inl hi) ?_
  intro a1 ha1
  subst ha1
  rcases hblk with hq | hq
  · obtain ⟨a', ha', e⟩ := ownB hq.symm
    obtain ⟨e2, _⟩ := own_head hown a' ha'
    obtain ⟨e3, _⟩ := own_head hown1 a1 rfl
    refine .inl ?_
    rw [ha', e2, e3, e]
  · refine .inr ?_
    have : a1.block = w.heap.size + 1 := by simpa [Value.ownBlock, hsz] using hq
    omega
/-- The heap has a new map of what was seen. -/
theorem HpAt.newSeen {w' : World} (h : HpAt w hb A H S) (on : Bool) {b : Nat} (hb1 : w.heap.size ≤ b) (hblk : w'.heap[hb]? = some (.cells (hpC { A with sb := some b } { H with watched := on, seen := [] }) 95 (0, 0))) (hm : Mut (· = hb) w w') (hmap : Mp.MapIs w' b kV Value.bool []) :
    HpAt w' hb { A with sb := some b } { H with watched := on, seen := [] } (fun k => S k ∨ k = b) := by
  have hB := h.blk
  refine { blk := hblk, omap := ?_, smap := ?_, snil := fun e => (by cases e), obj := ?_, row := ?_, sto := ?_, shp := ?_, oinj := h.oinj, winj := h.winj, sinj := h.sinj, mne := ?_, Sh := .inl h.Sh, Sm := .inl h.Sm, Ss := ?_, So := fun r o ho => .inl (h.So r o ho), Sw := fun k x a hx ha => .inl (h.Sw k x a hx ha), St := fun k x hx hi => .inl (h.St k x hx hi), Sp := ?_, Slt := ?_ }
  · exact h.omap.of_block (hm.block _ h.omap.lt (ne_map hB h.omap))
  · intro c hc
    have : b = c := by injection hc
    subst this
    exact hmap
  · exact fun r o ho => (hm.block _ (lt_of_heap (h.obj r o ho)) (ne_ty (h.obj r o ho) hB (by decide))).trans (h.obj r o ho)
  · exact fun k x hx => own_mut2 (h.row k x hx) hm fun a ha e => by
      obtain ⟨cs, hcs, _⟩ := row_blk (h.row k x hx) a ha
      exact ne_ty hcs hB (by decide) e
  · exact fun k x hx hi => (hm.block _ (lt_of_heap (h.sto k x hx hi)) (ne_ty (h.sto k x hx hi) hB (by decide))).trans (h.sto k x hx hi)
  · exact fun r o ho => (h.shp r o ho).mut hm fun he a ha e2 => by
      obtain ⟨_, cs, fr, hcs⟩ := h.Sp r o a ho he ha
      exact ne_ty hcs hB (by decide) e2
  · intro e
    have e2 : b = A.mb := by injection e
    have := h.Slt _ h.Sm
    omega
  · intro c hc
    have : b = c := by injection hc
    exact .inr this.symm
  · intro r o a ho he ha
    obtain ⟨g1, cs, fr, g2⟩ := h.Sp r o a ho he ha
    exact ⟨.inl g1, cs, fr, (hm.block _ (lt_of_heap g2) (ne_ty g2 hB (by decide))).trans g2⟩
  · rintro k (h1 | rfl)
    · exact Nat.lt_of_lt_of_le (h.Slt k h1) hm.size
    · exact hmap.lt
set_option maxHeartbeats 1000000 in
theorem watch_calls (h : HpAt w hb A H S) (on : Bool) : Calls Try.prog 36 #[.pointer (some ⟨hb, 0, none⟩), .bool on] w fun e w' => e = .returned (.tuple #[]) ∧ Nx w hb S (watchH H on) w' := by
  have hmm := @run_makeMap Try.prog
  obtain ⟨c0, c1, c2, c3, hf⟩ := h.cells
  have hlt := lt_of_heap h.blk
  have HN : Hid (Nx w hb S (watchH H on) (((w.setCell ⟨hb, 2, none⟩ (.bool on)).setCell ⟨hb, 3, none⟩ (.map (some w.heap.size))).alloc (.map #[] 0))) := Lib.hid (by
    have hm1 : Mut (· = hb) w (w.setCell ⟨hb, 2, none⟩ (.bool on)) := Mut.setCell _ _ _ _ rfl
    have hm2 : Mut (· = hb) (w.setCell ⟨hb, 2, none⟩ (.bool on)) ((w.setCell ⟨hb, 2, none⟩ (.bool on)).setCell ⟨hb, 3, none⟩ (.map (some w.heap.size))) := Mut.setCell _ _ _ _ rfl
    have k1 := heap_setCell_same _ hb 2 _ _ (.bool on) h.blk
    have k2 := heap_setCell_same _ hb 3 _ _ (.map (some w.heap.size)) k1
    have hsz : ((w.setCell ⟨hb, 2, none⟩ (.bool on)).setCell ⟨hb, 3, none⟩ (.map (some w.heap.size))).heap.size = w.heap.size := by simp
    generalize (w.setCell ⟨hb, 2, none⟩ (.bool on)).setCell ⟨hb, 3, none⟩ (.map (some w.heap.size)) = W1 at *
    have ba : Below W1.heap.size W1 (W1.alloc (.map #[] 0)) := (Below.refl _ _).alloc (Nat.le_refl _) _
    have hm3 := (hm1.then hm2).then (Mut.of_below ba)
    have hmap := Mp.MapIs.made W1 kV Value.bool
    rw [hsz] at hmap
    exact ⟨_, _, h.newSeen on (Nat.le_refl _) ((ba.block _ (lt_of_heap k2)).trans k2) hm3 hmap, hm3.mono fun i hi => .inl (hi ▸ h.Sh), fun k hk => hk.imp id fun e => by omega⟩)
  clear h
  go_enter Try.func36, Try.ntmps36
  go_wp2
  go_end0
  exact ⟨rfl, HN.out⟩
set_option maxHeartbeats 1000000 in
theorem sortedB_nil (w : World) :
    Calls Try.prog 77 #[.func (.func 93) #[] #[.pointer (some ⟨w.heap.size, 0, none⟩)]] (w.alloc (.cells #[.map none] 79)) fun e w' => ∃ A C, e = .returned (.slice A 0 C) ∧ w'.ownsRow w.heap.size 26 1 (.slice A 0 C) 0 [] ∧ Below (w.alloc (.cells #[.map none] 79)).heap.size (w.alloc (.cells #[.map none] 79)) w' := by
  have hseq : SeqGives Fence.wide 2 Try.prog 93 #[.pointer (some ⟨w.heap.size, 0, none⟩)] Go.encZ (fun ss : List Int => ss = []) 0 (w.alloc (.cells #[.map none] 79)) :=
    AnyZI.keys_gives_nil (ρ := Try.keysB_ren) { Try.keysB with } Fence.wide _ trivial rfl w.heap.size _ (by simp) (by simp)
  have cS := AnyZI.sorted_in Try.sortedA Fence.wide 5 trivial trivial trivial trivial rfl (by omega) (sortsA _) (enters_of Try.func88 (by kernel_rfl) rfl) 93 #[.pointer (some ⟨w.heap.size, 0, none⟩)] trivial (enters_of Try.func93 (by kernel_rfl) rfl) _ 0 (Nat.zero_le _) (by omega) _ hseq
  change CallsIn _ _ Try.prog 77 _ _ _ at cS
  refine ((callsIn_wide (n := 5)).1 cS).mono fun e w' ⟨v, ss, e1, hS, hrow, _, hb⟩ => ?_
  subst hS
  have e2 : ([] : List Int).mergeSort (fun x y => decide (x ≤ y)) = [] := sort0
  rw [e2] at hrow
  obtain ⟨A, C, rfl⟩ := own_slice hrow
  exact ⟨A, C, e1, hrow.mono (by simp), hb⟩
/-- The keys of what was seen. -/
theorem sorted_seen (h : HpAt w hb A H S) (hk : KeysIn H.seen) (hn : H.seen.length ≤ 1000000) : Calls Try.prog 77 #[.func (.func 93) #[] #[.pointer (some ⟨w.heap.size, 0, none⟩)]] (w.alloc (.cells #[.map A.sb] 79)) fun e w' => ∃ A1 C, e = .returned (.slice A1 (keysS H.seen).length C) ∧ w'.ownsRow w.heap.size 26 1 (.slice A1 (keysS H.seen).length C) (keysS H.seen).length (ints (keysS H.seen)) ∧ Below w.heap.size w w' := by
  cases hsb : A.sb with
  | none =>
    rw [(h.snil hsb).2]
    rw [show keysS ([] : List (Int × Bool)) = [] from sort0]
    exact (sortedB_nil w).mono fun e w' ⟨A1, C, h1, h2, h3⟩ => ⟨A1, C, h1, h2, ((Below.refl _ _).alloc (Nat.le_refl _) _).trans (h3.mono (by simp))⟩
  | some b =>
    exact (sortedB_calls (h.smap b hsb) hk hn).mono fun e w' ⟨A1, C, h1, h2, h3⟩ => ⟨A1, C, h1, h2, ((Below.refl _ _).alloc (Nat.le_refl _) _).trans (h3.mono (by simp))⟩
set_option maxHeartbeats 2000000 in
theorem seen_calls (h : HpAt w hb A H S) (hk : KeysIn H.seen) (hn : H.seen.length ≤ 1000000) : Calls Try.prog 42 #[.pointer (some ⟨hb, 0, none⟩)] w fun e w' => ∃ LA LC, e = .returned (.slice LA (seenH H).2.length LC) ∧ w'.ownsRow w.heap.size 26 1 (.slice LA (seenH H).2.length LC) (seenH H).2.length (ints (seenH H).2) ∧ Nx w hb S (seenH H).1 w' := by
  have hmm := @run_makeMap Try.prog
  have HH := Lib.hid h
  have HK := Lib.hid (keysB_calls A.sb w)
  have HS := Lib.hid (sorted_seen h hk hn)
  have hl : (keysS H.seen).length ≤ 1000000 := by unfold keysS; rw [List.length_mergeSort, List.length_map]; exact hn
  obtain ⟨c0, c1, c2, c3, hf⟩ := h.cells
  have HE : Hid ((seenH H).2 = (keysS H.seen).filter fun r => (Mp.get H.objs r).isSome) := Lib.hid rfl
  have HE1 : Hid ((seenH H).1 = { H with watched := H.watched, seen := [] }) := Lib.hid rfl
  rw [HE.out]
  clear h hk hn
  generalize keysS H.seen = ks at *
  go_enter Try.func42, Try.ntmps42
  go_wp2_with (first
    | (go_at_call 79; refine HK.out.mono ?_; rintro e w1 ⟨rfl, rfl⟩)
    | (go_at_call 77; refine HS.out.mono ?_; rintro e w2 ⟨A1, C1, rfl, ho, hb2⟩; have HO := Lib.hid ho; have HB := Lib.hid hb2; clear ho hb2))
  have HR0 : Hid (w2.ownsRow w.heap.size 26 1 (.slice none 0 0) 0 (ints []) ∧ Below w2.heap.size w2 w2) := Lib.hid ⟨World.ownsRow_nil _ _ _ _, Below.refl _ _⟩
  go_loopw [3, 15] (fun v p wr => ∃ (j : Nat) (LA : Option Addr) (LC : Nat) (zs : List Int), j ≤ ks.length ∧ p = .int .i64 j ∧ v = .slice LA zs.length LC ∧ Hid (zs = (ks.take j).filter fun r => (Mp.get H.objs r).isSome) ∧ Hid (wr.ownsRow w.heap.size 26 1 (.slice LA zs.length LC) zs.length (ints zs) ∧ Below w2.heap.size w2 wr ∧ ∀ a, LA = some a → w2.heap.size ≤ a.block)) (fun _ i _ => ks.length - (intOf i).toNat)
  case atStart => exact ⟨0, none, 0, [], Nat.zero_le _, rfl, rfl, Lib.hid rfl, Lib.hid ⟨HR0.out.1, HR0.out.2, fun a ha => by cases ha⟩⟩
  case round =>
    clear HR0
    obtain ⟨j, LA, LC, zs, hj, rfl, rfl, HZ, HR⟩ := hrel
    have HPr := Lib.hid (HH.out.below (HB.out.trans (HR.out.2.1.mono HB.out.size)))
    by_cases hlt : j < ks.length
    · obtain ⟨g, hA, hg, hC, c5⟩ := ints_get hlt (own_mut2 HO.out (Mut.of_below (S := fun _ => False) HR.out.2.1) fun _ _ h => h)
      have q0 : (0 : Int) ≤ (j : Int) := by omega
      have q1 : (j : Int) < (ks.length : Int) := by omega
      have HT : Hid (ks.take (j + 1) = ks.take j ++ [ks[j]'hlt]) := Lib.hid (List.take_succ_eq_append_getElem hlt)
      obtain ⟨d0, _⟩ := HPr.out.cells
      have hzl : zs.length ≤ 100000000 := by
        rw [HZ.out]
        have := List.length_filter_le (fun r => (Mp.get H.objs r).isSome) (ks.take j)
        have := List.length_take_le j ks
        omega
      have hlook := HPr.out.look (ks[j]'hlt)
      rw [hA]
      clear hA
      generalize ks[j]'hlt = y at *
      cases hgy : Mp.get H.objs y with
      | none =>
        rw [HA.at_none hgy] at hlook
        have HZ2 : Hid (zs = (ks.take (j + 1)).filter fun r => (Mp.get H.objs r).isSome) := Lib.hid (by rw [HT.out, List.filter_append, ← HZ.out]; simp [hgy])
        clear hgy hzl
        go_wp2
        go_roundw
        case rel => exact ⟨j + 1, LA, LC, zs, by omega, by go_num, rfl, HZ2, HR⟩
        case measure => simp [intOf]; omega
      | some o =>
        rw [HA.at_some hgy] at hlook
        have HZ2 : Hid (zs ++ [y] = (ks.take (j + 1)).filter fun r => (Mp.get H.objs r).isSome) := Lib.hid (by rw [HT.out, List.filter_append, ← HZ.out]; simp [hgy])
        have HLE : Hid (w.heap.size ≤ wr.heap.size) := Lib.hid (Nat.le_trans HB.out.size HR.out.2.1.size)
        clear hgy
        go_wp2_with (at_builtin; refine app_ref rfl _ _ rfl w.heap.size LA LC zs y rfl HR.out.1 rfl rfl hzl HLE.out ?_
                     intro A3 C3 ys w3 hys ho hm hfr
                     have HR3 : Hid (w3.ownsRow w.heap.size 26 1 (.slice A3 ys.length C3) ys.length (ints ys) ∧ Below w2.heap.size w2 w3 ∧ ∀ a, A3 = some a → w2.heap.size ≤ a.block) := Lib.hid ⟨ho, HR.out.2.1.trans (hm.to_below HR.out.2.1.size fun k hk => by
                       obtain ⟨a, ha, e⟩ := hk
                       rw [← e]; exact HR.out.2.2 a ha), fun a ha => by
                       rcases hfr a ha with e | e
                       · exact HR.out.2.2 a e
                       · exact Nat.le_trans HR.out.2.1.size e⟩
                     have HYS := Lib.hid hys
                     clear hys ho hm hfr)
        go_roundw
        case rel => exact ⟨j + 1, A3, C3, ys, by omega, by go_num, rfl, by rw [HYS.out]; exact HZ2, HR3⟩
        case measure => simp [intOf]; omega
    · obtain rfl : j = ks.length := by omega
      rw [List.take_length] at HZ
      obtain ⟨d0, d1, d2, d3, df⟩ := HPr.out.cells
      have hlt2 := lt_of_heap HPr.out.blk
      have HN : Hid (Nx w hb S { H with watched := H.watched, seen := [] } ((wr.setCell ⟨hb, 3, none⟩ (.map (some wr.heap.size))).alloc (.map #[] 0)) ∧ Mut (· = hb) wr ((wr.setCell ⟨hb, 3, none⟩ (.map (some wr.heap.size))).alloc (.map #[] 0))) := Lib.hid (by
        have hm2 : Mut (· = hb) wr (wr.setCell ⟨hb, 3, none⟩ (.map (some wr.heap.size))) := Mut.setCell _ _ _ _ rfl
        have k2 := heap_setCell_same _ hb 3 _ _ (.map (some wr.heap.size)) HPr.out.blk
        have hsz : (wr.setCell ⟨hb, 3, none⟩ (.map (some wr.heap.size))).heap.size = wr.heap.size := by simp
        generalize wr.setCell ⟨hb, 3, none⟩ (.map (some wr.heap.size)) = W1 at *
        have ba : Below W1.heap.size W1 (W1.alloc (.map #[] 0)) := (Below.refl _ _).alloc (Nat.le_refl _) _
        have hm3 := hm2.then (Mut.of_below ba)
        have hmap := Mp.MapIs.made W1 kV Value.bool
        rw [hsz] at hmap
        have hbw := HB.out.trans (HR.out.2.1.mono HB.out.size)
        refine ⟨⟨_, _, HPr.out.newSeen H.watched (Nat.le_refl _) ((ba.block _ (lt_of_heap k2)).trans k2) hm3 hmap, (Mut.of_below hbw).trans hm3 fun i hi => .inl (hi ▸ HH.out.Sh), fun k hk => hk.imp id fun e => by have := hbw.size; omega⟩, hm3⟩)
      clear hlt hj
      go_wp2
      go_ret
      have hown := own_mut2 HR.out.1 HN.out.2 fun a ha e => by
        have h1 := HR.out.2.2 a ha
        have h2 := HH.out.Slt _ HH.out.Sh
        have h3 := HB.out.size
        omega
      exact ⟨LA, LC, by rw [← HZ.out]; rfl, by rw [← HZ.out]; exact hown, HN.out.1⟩
end Go.Proofs.Ytodfpclekihbhaa

/- Text, Array. -/
namespace Go.Proofs.Ytodfpclekihbhaa
open Go.RowKit Go.Shelf

variable {w : World} {hb : Nat} {A : HA} {H : Hp} {S : Nat → Prop}
def strLen (c : ByteArray) (wide : Bool) : Nat := if wide then c.size / 4 else c.size
theorem strlen_calls (c : ByteArray) (wide : Bool) (w : World) (hc : c.size ≤ 1000000000000) : Calls Try.prog 67 #[.agg #[.string c, .bool wide]] w fun e w' => e = .returned (.int .i64 (strLen c wide : Nat)) ∧ Below w.heap.size w w' := by
  cases wide with
  | false =>
    go_enter Try.func67, Try.ntmps67
    go_wp2
    all_goals go_ret
    all_goals exact ⟨rfl, (Below.refl _ _).alloc (Nat.le_refl _) _⟩
  | true =>
    have HE : Hid ((strLen c true : Nat) = c.size / 4) := Lib.hid rfl
    go_enter Try.func67, Try.ntmps67
    go_wp2
    all_goals go_ret
    all_goals refine ⟨?_, (Below.refl _ _).alloc (Nat.le_refl _) _⟩
    all_goals rw [HE.out]
    all_goals exact congrArg (fun z => Ending.returned (.int .i64 z)) (show ((c.size : Int) / 4) = ((c.size / 4 : Nat) : Int) by omega)
theorem text_zero (h : HpAt w hb A H S) (c : ByteArray) (wide : Bool) (hc : c.size ≤ 1000000000000) (h0 : strLen c wide = 0) : Calls Try.prog 28 #[.pointer (some ⟨hb, 0, none⟩), .agg #[.string c, .bool wide]] w (MkPost w hb S (textH H c wide (strLen c wide))) := by
  have HB : Hid (Below w.heap.size w (w.alloc (.cells #[.string c, .bool wide] 61))) := Lib.hid ((Below.refl _ _).alloc (Nat.le_refl _) _)
  have HL := Lib.hid (strlen_calls c wide (w.alloc (.cells #[.string c, .bool wide] 61)) hc)
  rw [h0] at HL ⊢
  have HH := Lib.hid h
  clear h h0 hc
  go_enter Try.func28, Try.ntmps28
  go_wp2_with (go_at_call 67; refine HL.out.mono ?_; rintro e w1 ⟨rfl, hb1⟩; have HB1 := Lib.hid (HB.out.trans (hb1.mono HB.out.size)); clear hb1)
  all_goals go_ret2
  all_goals exact ⟨rfl, Nx.same (HH.out.below HB1.out) (Mut.of_below HB1.out)⟩
set_option maxHeartbeats 2000000 in
theorem text_calls (h : HpAt w hb A H S) (hi : Inv H []) (hk : ∀ r o, Mp.get H.objs r = some o → o.row ≤ H.last) (hn : H.last ≤ 1000000) (c : ByteArray) (wide : Bool) (hc : c.size ≤ 1000000000000) : Calls Try.prog 28 #[.pointer (some ⟨hb, 0, none⟩), .agg #[.string c, .bool wide]] w (MkPost w hb S (textH H c wide (strLen c wide))) := by
  by_cases h0 : strLen c wide = 0
  · exact text_zero h c wide hc h0
  · have HB : Hid (Below w.heap.size w (w.alloc (.cells #[.string c, .bool wide] 61))) := Lib.hid ((Below.refl _ _).alloc (Nat.le_refl _) _)
    have HL := Lib.hid (strlen_calls c wide (w.alloc (.cells #[.string c, .bool wide] 61)) hc)
    have HK0 := Lib.hid (heap_alloc_new w (.cells #[.string c, .bool wide] 61))
    have HE : Hid (textH H c wide (strLen c wide) = (addH (newRow H ⟨[], 1, false⟩) ⟨1, 0, [], c, wide, 0, H.last + 1, 0, 0, 0, 0⟩, (H.last : Int) + 1, 0)) := Lib.hid (by unfold textH; rw [if_neg h0])
    generalize strLen c wide = n at *
    have k1 : ((n : Int) == 0) = false := beq_false_of_ne (by omega)
    have k2 : (n == 0) = false := by simpa using h0
    have HH := Lib.hid h
    have HI := Lib.hid hi
    have HK := Lib.hid hk
    clear h hi hk h0 hc
    go_enter Try.func28, Try.ntmps28
    go_wp2_with (first
      | (go_at_call 67; refine HL.out.mono ?_; rintro e w1 ⟨rfl, hb1⟩
         have HB1 := Lib.hid (HB.out.trans (hb1.mono HB.out.size))
         have b0 := keep3 hb1 (cell_of_heap (v := .string c) HK0.out (j := 0) rfl)
         have b1 := keep3 hb1 (cell_of_heap (v := .bool wide) HK0.out (j := 1) rfl)
         have hz : w.heap.size < w1.heap.size := by have := hb1.size; simp at this; omega
         clear hb1)
      | (go_at_call 55; refine (addNew_calls HH.out HI.out HK.out hn ?c1 ⟨1, 0, [], c, wide, 0, (H.last : Int) + 1, 0, 0, 0, 0⟩ ⟨[], 1, false⟩ rfl rfl rfl w1.heap.size (by omega) none 0 0 none 0 ?c3 ?c4 ?c5 ?c6 ?c7).mono ?_
         case c1 => exact HB1.out.alloc HB1.out.size _
         case c3 => exact WordsAt.none _
         case c4 => intro a ha; cases ha
         case c5 => have := heap_alloc_new w1 (.cells #[.int .i64 1, .int .i64 0, .slice none 0 0, .slice none 0 0, .string c, .bool wide, .int .i64 0, .pointer none, .int .i64 0, .int .i64 0, .int .i64 0, .int .i64 0] 104); simpa [newC] using this
         case c6 => exact ⟨fun j hj => absurd hj (Nat.not_lt_zero _), fun he => absurd rfl he⟩
         case c7 => rintro k ⟨he, _⟩; exact absurd rfl he
         rintro e w3 ⟨rfl, hp, hm, hs, _⟩
         have HN : Hid (Nx w hb S _ w3) := Lib.hid ⟨_, _, hp, hm, hs⟩
         clear hp hm hs))
    go_ret2
    exact ⟨by rw [HE.out]; rfl, by rw [HE.out]; exact HN.out⟩
theorem array_long (h : HpAt w hb A H S) (cls : Int) (ad : Option Addr) (m C : Nat) (hm : 256 < m) (n : Int) : Calls Try.prog 13 #[.pointer (some ⟨hb, 0, none⟩), .agg #[.int .i64 cls, .slice ad m C], .int .i64 n] w (MkPost w hb S (H, 0, 3)) := by
  have HH := Lib.hid h
  have k2 : (256 : Int) < (m : Int) := by omega
  clear h
  go_enter Try.func13, Try.ntmps13
  go_wp2
  all_goals go_ret2
  all_goals exact MkPost.err HH.out 3 ((Below.refl _ _).alloc (Nat.le_refl _) _)
theorem array_neg (h : HpAt w hb A H S) (cls : Int) (ad : Option Addr) (m C : Nat) (hm : m ≤ 256) (n : Int) (hn : n < 0) : Calls Try.prog 13 #[.pointer (some ⟨hb, 0, none⟩), .agg #[.int .i64 cls, .slice ad m C], .int .i64 n] w (MkPost w hb S (H, 0, 11)) := by
  have HH := Lib.hid h
  have k2 : ¬ (256 : Int) < (m : Int) := by omega
  clear h
  go_enter Try.func13, Try.ntmps13
  go_wp2
  all_goals go_ret2
  all_goals exact MkPost.err HH.out 11 ((Below.refl _ _).alloc (Nat.le_refl _) _)
theorem array_far (h : HpAt w hb A H S) (cls : Int) (ad : Option Addr) (m C : Nat) (hm : m ≤ 256) (n : Int) (hn : 65536 < n) : Calls Try.prog 13 #[.pointer (some ⟨hb, 0, none⟩), .agg #[.int .i64 cls, .slice ad m C], .int .i64 n] w (MkPost w hb S (H, 0, 11)) := by
  have HH := Lib.hid h
  have k2 : ¬ (256 : Int) < (m : Int) := by omega
  have k3 : ¬ n < 0 := by omega
  clear h
  go_enter Try.func13, Try.ntmps13
  go_wp2
  all_goals go_ret2
  all_goals exact MkPost.err HH.out 11 ((Below.refl _ _).alloc (Nat.le_refl _) _)
theorem array_great (h : HpAt w hb A H S) (cls : Int) (ad : Option Addr) (m C : Nat) (hm : m ≤ 256) (n p : Nat) (hn : n ≤ 65536) (hp : n * m = p) (hp2 : 1048576 < p) : Calls Try.prog 13 #[.pointer (some ⟨hb, 0, none⟩), .agg #[.int .i64 cls, .slice ad m C], .int .i64 (n : Int)] w (MkPost w hb S (H, 0, 3)) := by
  have HH := Lib.hid h
  have k2 : ¬ (256 : Int) < (m : Int) := by omega
  have k3 : ¬ (n : Int) < 0 := by omega
  have k4 : ¬ (65536 : Int) < (n : Int) := by omega
  have hmul : (n : Int) * (m : Int) = (p : Int) := by rw [← hp]; exact (Int.natCast_mul n m).symm
  have hp3 : p ≤ 65536 * 256 := by rw [← hp]; exact Nat.mul_le_mul hn hm
  have hp4 : (1048576 : Int) < (p : Int) := by omega
  clear h hp
  go_enter Try.func13, Try.ntmps13
  go_wp2
  all_goals go_ret2
  all_goals exact MkPost.err HH.out 3 ((Below.refl _ _).alloc (Nat.le_refl _) _)
end Go.Proofs.Ytodfpclekihbhaa

/- Array, where it makes one. -/
namespace Go.Proofs.Ytodfpclekihbhaa
open Go.RowKit Go.Shelf

variable {w : World} {hb : Nat} {A : HA} {H : Hp} {S : Nat → Prop}
theorem heap3 (w : World) (o1 o2 o3 : Obj) : (((w.alloc o1).alloc o2).alloc o3).heap[w.heap.size]? = some o1 ∧ (((w.alloc o1).alloc o2).alloc o3).heap[w.heap.size + 1]? = some o2 ∧ (((w.alloc o1).alloc o2).alloc o3).heap[w.heap.size + 2]? = some o3 := by
  obtain ⟨h1, h2⟩ := heap2 w o1 o2
  refine ⟨(Below.heap_alloc _ _ _ (by simp; omega)).trans h1, (Below.heap_alloc _ _ _ (by simp)).trans h2, ?_⟩
  have := heap_alloc_new ((w.alloc o1).alloc o2) o3
  rwa [World.size_alloc, World.size_alloc] at this
theorem seeH_updR (H : Hp) (r k : Int) (f : Rw → Rw) : (seeH H r).updR k f = seeH (H.updR k f) r := by
  unfold seeH
  by_cases h : H.watched = true ∧ r ≠ 0
  · have h' : (H.updR k f).watched = true ∧ r ≠ 0 := h
    rw [if_pos h, if_pos h']; rfl
  · have h' : ¬ ((H.updR k f).watched = true ∧ r ≠ 0) := h
    rw [if_neg h, if_neg h']
theorem addH_toA {H : Hp} (hf : Mp.get H.rows ((H.last : Int) + 1) = none) (ws : List Wd) (o : Ob) : (addH (newRow H ⟨ws, 1, false⟩) o).updR ((H.last : Int) + 1) Rw.toA = addH (newRow H ⟨ws, 1, true⟩) o := by
  have e : mapAt (Mp.put H.rows ((H.last : Int) + 1) ⟨ws, 1, false⟩) ((H.last : Int) + 1) Rw.toA = Mp.put H.rows ((H.last : Int) + 1) ⟨ws, 1, true⟩ := by
    rw [put_fresh hf, put_fresh hf]
    unfold mapAt
    rw [List.map_append]
    congr 1
    · conv => rhs; rw [← List.map_id H.rows]
      apply List.map_congr_left
      intro p hp
      have : p.1 ≠ (H.last : Int) + 1 := fun e => (Mp.get_none_iff H.rows _).1 hf p hp e
      rw [if_neg this]; rfl
    · simp [Rw.toA]
  unfold addH
  rw [seeH_updR]
  unfold Hp.updR newRow
  simp only [e]
/-- What lies in memory when an array's object has been added. -/
theorem array_end {w3 : World} {A2 : HA} {S2 : Nat → Prop} {G : Hp} (h : HpAt w3 hb A2 G S2) {k : Int} {x : Rw} (hx : Mp.get G.rows k = some x) {st : Nat} (hst : A2.st k = st) (hS : ¬ S2 st) (hB : w3.heap[st]? = some (.cells #[.int .i64 0, .slice (A2.wA k) x.words.length (A2.wC k), .int .i64 x.arr] 99 (0, 0))) :
    HpAt (w3.setCell ⟨st, 0, none⟩ (.int .i64 k)) hb A2 (G.updR k Rw.toA) (fun j => S2 j ∨ j = st) := by
  have hm : Mut (· = st) w3 (w3.setCell ⟨st, 0, none⟩ (.int .i64 k)) := Mut.setCell _ _ _ _ rfl
  have h4 := h.mut hm fun j hj e => hS (e ▸ hj)
  have h5 := h4.toA hx (by rw [hst, heap_setCell_same w3 st 0 _ _ _ hB]; rfl) (by rw [hst]; exact hS)
  rw [hst] at h5
  exact h5
set_option maxHeartbeats 4000000 in
theorem array_ok (h : HpAt w hb A H S) (hi : Inv H []) (hk : ∀ r o, Mp.get H.objs r = some o → o.row ≤ H.last) (hn : H.last ≤ 1000000) (cls : Int) {ad : Option Addr} {C : Nat} {refs : List Bool} (hr : RdB w ad C refs) (hl : refs.length ≤ 256) (n p : Nat) (hn2 : n ≤ 65536) (hp : n * refs.length = p) (hp2 : p ≤ 1048576) :
    Calls Try.prog 13 #[.pointer (some ⟨hb, 0, none⟩), .agg #[.int .i64 cls, .slice ad refs.length C], .int .i64 (n : Int)] w (MkPost w hb S (addH (newRow H ⟨List.replicate p ⟨0, 0⟩, 1, true⟩) ⟨2, cls, refs, emptyB, false, 0, H.last + 1, 0, n, 0, 0⟩, (H.last : Int) + 1, 0)) := by
  have HH := Lib.hid h
  have HI := Lib.hid hi
  have HK := Lib.hid hk
  have HR := Lib.hid hr
  have k1 : ¬ (256 : Int) < (refs.length : Int) := by omega
  have k3 : ¬ (n : Int) < 0 := by omega
  have k4 : ¬ (65536 : Int) < (n : Int) := by omega
  have hmul : (n : Int) * (refs.length : Int) = (p : Int) := by rw [← hp]; exact (Int.natCast_mul n refs.length).symm
  have hp4 : ¬ (1048576 : Int) < (p : Int) := by omega
  have hp5 : (p : Int) ≤ 1048576 := by omega
  have hmk := fun w => run_mkW w p (by omega)
  have HL : Hid (refs.length ≤ 100000000) := Lib.hid (by omega)
  have HP : Hid (p ≤ 100000000) := Lib.hid (by omega)
  obtain ⟨K0, K1, K2⟩ := heap3 w (.cells #[.int .i64 cls, .slice ad refs.length C] 32) (.cells (madeCells #[.int .i64 0, .int .i64 0] (p * 2)) 42) (.cells #[.int .i64 0, .slice (some ⟨w.heap.size + 1, 0, none⟩) p p, .int .i64 1] 99)
  have HB0 : Hid (Below w.heap.size w (((w.alloc (.cells #[.int .i64 cls, .slice ad refs.length C] 32)).alloc (.cells (madeCells #[.int .i64 0, .int .i64 0] (p * 2)) 42)).alloc (.cells #[.int .i64 0, .slice (some ⟨w.heap.size + 1, 0, none⟩) p p, .int .i64 1] 99))) := Lib.hid ((((Below.refl _ _).alloc (Nat.le_refl _) _).alloc (by simp) _).alloc (by simp; omega) _)
  have HK0 := Lib.hid K0
  have HK1 := Lib.hid K1
  have HK2 := Lib.hid K2
  have HFR := Lib.hid (not_row_fresh hi hk)
  clear K0 K1 K2 h hi hk hr hl hp
  go_enter Try.func13, Try.ntmps13
  go_wp2_with (first
    | (go_at_call 56; refine (copied_calls cls (HR.out.below HB0.out) HL.out).mono ?_; rintro e w1 ⟨A1, C1, rfl, ho, hb1⟩
       have HO := Lib.hid ho
       have HB1 := Lib.hid (HB0.out.trans (hb1.mono HB0.out.size))
       have k5 := (hb1.block _ (lt_of_heap HK1.out)).trans HK1.out
       have k6 := (hb1.block _ (lt_of_heap HK2.out)).trans HK2.out
       have hz : w.heap.size + 2 < w1.heap.size := lt_of_heap k6
       have HK5 := Lib.hid k5
       have HK6 := Lib.hid k6
       clear ho hb1 k5 k6)
    | (go_at_call 55; refine (addNew_calls HH.out HI.out HK.out hn ?c1 ⟨2, cls, refs, emptyB, false, 0, (H.last : Int) + 1, 0, n, 0, 0⟩ ⟨List.replicate p ⟨0, 0⟩, 1, false⟩ rfl rfl rfl w1.heap.size (by omega) (some ⟨w.heap.size + 1, 0, none⟩) p (w.heap.size + 2) A1 C1 ?c3 ?c4 ?c5 ?c6 ?c7).mono ?_
       case c1 => exact HB1.out.alloc HB1.out.size _
       case c3 => exact WordsAt.made _ HP.out ((Below.heap_alloc _ _ _ (by omega)).trans HK5.out)
       case c4 => intro a ha; injection ha with ha; subst ha; simp
       case c5 => have := heap_alloc_new w1 (.cells #[.int .i64 2, .int .i64 cls, .slice A1 refs.length C1, .slice none 0 0, .string { data := #[] }, .bool false, .int .i64 0, .pointer (some ⟨w.heap.size + 2, 0, none⟩), .int .i64 0, .int .i64 (n : Int), .int .i64 0, .int .i64 0] 104); simpa [newC, emptyB] using this
       case c6 => exact (ShpAt.of_own HO.out).mut (T := fun _ => False) (Mut.of_below ((Below.refl _ _).alloc (Nat.le_refl _) _)) fun _ h => h.elim
       case c7 => rintro k ⟨_, a, ha, rfl⟩; exact .inr (by have := (own_blk HO.out a ha).1; simp at this; omega)
       rintro e w3 ⟨rfl, hp, hm, hs, hm2⟩
       have hnS : ¬ ((S (w.heap.size + 2) ∨ LB (some ⟨w.heap.size + 1, 0, none⟩) (w.heap.size + 2)) ∨ w.heap.size + 2 = w1.heap.size ∨ shpB A1 refs (w.heap.size + 2)) := by
         rintro ((h1 | ⟨a, ha, e⟩) | h1 | ⟨_, a, ha, e⟩)
         · have := HH.out.Slt _ h1; omega
         · injection ha with ha; subst ha; simp at e
         · omega
         · have := (own_blk HO.out a ha).1; simp at this; omega
       have k7 : w3.heap[w.heap.size + 2]? = some (.cells #[.int .i64 0, .slice (some ⟨w.heap.size + 1, 0, none⟩) p p, .int .i64 1] 99 (0, 0)) := (hm2.block _ (by simp; omega) (fun h1 => hnS (by
         rcases h1 with h1 | h1 | h1
         · exact .inl (.inl h1)
         · exact .inl (.inr h1)
         · exact .inr (.inl h1)))).trans ((Below.heap_alloc _ _ _ (by omega)).trans HK6.out)
       have j0 := cell_of_heap (v := .int .i64 0) k7 (j := 0) rfl
       have jf := frozen_of_heap k7 0
       have hend := array_end hp (k := (H.last : Int) + 1) (x := ⟨List.replicate p ⟨0, 0⟩, 1, false⟩) (by rw [addH_rows]; show Mp.get (Mp.put H.rows _ _) _ = _; rw [Mp.get_put, if_pos rfl]) (st := w.heap.size + 2) (if_pos rfl) hnS (by
         rw [k7]
         have e1 := (addR_self A ((H.last : Int) + 1) (some ⟨w.heap.size + 1, 0, none⟩) p (w.heap.size + 2))
         have e2 : (HA.addO (A.addR ((H.last : Int) + 1) (some ⟨w.heap.size + 1, 0, none⟩) p (w.heap.size + 2)) ((H.last : Int) + 1) w1.heap.size A1 C1).wA ((H.last : Int) + 1) = some ⟨w.heap.size + 1, 0, none⟩ := e1.1
         have e3 : (HA.addO (A.addR ((H.last : Int) + 1) (some ⟨w.heap.size + 1, 0, none⟩) p (w.heap.size + 2)) ((H.last : Int) + 1) w1.heap.size A1 C1).wC ((H.last : Int) + 1) = p := e1.2.1
         rw [e2, e3, List.length_replicate])
       rw [addH_toA HFR.out] at hend
       have HN : Hid (Nx w hb S _ (w3.setCell ⟨w.heap.size + 2, 0, none⟩ (.int .i64 ((H.last : Int) + 1)))) := Lib.hid ⟨_, _, hend, hm.trans (Mut.setCell (S := (· = w.heap.size + 2)) _ _ _ _ rfl) fun i hi => .inr (by omega), fun k hk => by
         rcases hk with h1 | h1
         · exact hs k h1
         · exact .inr (by omega)⟩
       clear hp hm hs hm2 hnS k7 hend))
  go_ret2
  exact ⟨rfl, HN.out⟩
theorem array_calls (h : HpAt w hb A H S) (hi : Inv H []) (hk : ∀ r o, Mp.get H.objs r = some o → o.row ≤ H.last) (hn : H.last ≤ 1000000) (cls : Int) {ad : Option Addr} {C : Nat} {refs : List Bool} (hr : RdB w ad C refs) (n : Int) :
    Calls Try.prog 13 #[.pointer (some ⟨hb, 0, none⟩), .agg #[.int .i64 cls, .slice ad refs.length C], .int .i64 n] w (MkPost w hb S (arrayH H cls refs n)) := by
  unfold arrayH
  by_cases h1 : 256 < refs.length
  · rw [if_pos h1]; exact array_long h cls ad _ C h1 n
  · rw [if_neg h1]
    by_cases h2 : n < 0 ∨ 65536 < n
    · rw [if_pos h2]
      rcases h2 with h2 | h2
      · exact array_neg h cls ad _ C (by omega) n h2
      · exact array_far h cls ad _ C (by omega) n h2
    · rw [if_neg h2]
      obtain ⟨m, rfl⟩ : ∃ m : Nat, n = (m : Int) := ⟨n.toNat, by omega⟩
      have hmul : (m : Int) * (refs.length : Int) = ((m * refs.length : Nat) : Int) := (Int.natCast_mul m refs.length).symm
      rw [hmul, Int.toNat_natCast]
      by_cases h3 : (1048576 : Int) < ((m * refs.length : Nat) : Int)
      · rw [if_pos h3]; exact array_great h cls ad _ C (by omega) m _ (by omega) rfl (by omega)
      · rw [if_neg h3]; exact array_ok h hi hk hn cls hr (by omega) m _ (by omega) rfl (by omega)
end Go.Proofs.Ytodfpclekihbhaa

