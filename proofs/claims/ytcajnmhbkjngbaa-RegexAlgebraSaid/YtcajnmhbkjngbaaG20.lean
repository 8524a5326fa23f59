/- Texts on regular expressions, merged: U10, U11, U12. -/
import Derived.Test.YtcajnmhbkjngbaaG17
import Derived.Deep.RegionHeld3
import Derived.Test.YtcajnmhbkjngbaaG19
import Derived.Test.YtcajnmhbkjngbaaG16
/- The two closures that a search tells of matches. -/
namespace Go.Proofs.Ytcajnmhbkjngbaa
open Go.RowKit Go.Shelf
set_option maxRecDepth 100000

theorem find1_is {w : World} {p1 p2 : Nat} {u1 u2 v : Value} (h1 : w.heap[p1]? = some (.cells #[u1, u2] 43 (0, 0))) (h2 : w.heap[p2]? = some (.cells #[v] 4 (0, 0))) (k i : Nat) :
    Calls Try.prog 47 #[.agg #[.int .i64 (k : Nat), .int .i64 (i : Nat)], .pointer (some ⟨p1, 0, none⟩), .pointer (some ⟨p2, 0, none⟩)] w fun e w' => e = .returned (.bool true) ∧ w'.heap[p1]? = some (.cells #[.int .i64 (k : Nat), .int .i64 (i : Nat)] 43 (0, 0)) ∧ w'.heap[p2]? = some (.cells #[.bool true] 4 (0, 0)) ∧ Mut (fun j => j = p1 ∨ j = p2) w w' := by
  have hb : Below w.heap.size w (w.alloc (.cells #[.int .i64 (k : Nat), .int .i64 (i : Nat)] 43)) := (Below.refl _ _).alloc (Nat.le_refl _) _
  have hk := heap_alloc_new w (.cells #[.int .i64 (k : Nat), .int .i64 (i : Nat)] 43)
  have g1 := (hb.block _ (lt_of_heap h1)).trans h1
  have g2 := (hb.block _ (lt_of_heap h2)).trans h2
  have HP : Hid (∀ W, W.heap[p1]? = some (.cells #[u1, u2] 43 (0, 0)) → W.heap[p2]? = some (.cells #[v] 4 (0, 0)) → Mut (fun j => j = p1 ∨ j = p2) w W → (((W.setCell ⟨p1, 0, none⟩ (.int .i64 (k : Nat))).setCell ⟨p1, 1, none⟩ (.int .i64 (i : Nat))).setCell ⟨p2, 0, none⟩ (.bool true)).heap[p1]? = some (.cells #[.int .i64 (k : Nat), .int .i64 (i : Nat)] 43 (0, 0)) ∧ (((W.setCell ⟨p1, 0, none⟩ (.int .i64 (k : Nat))).setCell ⟨p1, 1, none⟩ (.int .i64 (i : Nat))).setCell ⟨p2, 0, none⟩ (.bool true)).heap[p2]? = some (.cells #[.bool true] 4 (0, 0)) ∧ Mut (fun j => j = p1 ∨ j = p2) w (((W.setCell ⟨p1, 0, none⟩ (.int .i64 (k : Nat))).setCell ⟨p1, 1, none⟩ (.int .i64 (i : Nat))).setCell ⟨p2, 0, none⟩ (.bool true))) := Lib.hid fun W e1 e2 hm => by
    have hne : p1 ≠ p2 := ne_ty e1 e2 (by decide)
    have m1 : Mut (· = p1) W (W.setCell ⟨p1, 0, none⟩ (.int .i64 (k : Nat))) := Mut.setCell _ _ _ _ rfl
    have m2 : Mut (· = p1) (W.setCell ⟨p1, 0, none⟩ (.int .i64 (k : Nat))) ((W.setCell ⟨p1, 0, none⟩ (.int .i64 (k : Nat))).setCell ⟨p1, 1, none⟩ (.int .i64 (i : Nat))) := Mut.setCell _ _ _ _ rfl
    have m3 : Mut (· = p2) ((W.setCell ⟨p1, 0, none⟩ (.int .i64 (k : Nat))).setCell ⟨p1, 1, none⟩ (.int .i64 (i : Nat))) (((W.setCell ⟨p1, 0, none⟩ (.int .i64 (k : Nat))).setCell ⟨p1, 1, none⟩ (.int .i64 (i : Nat))).setCell ⟨p2, 0, none⟩ (.bool true)) := Mut.setCell _ _ _ _ rfl
    have a1 := heap_setCell_same W p1 0 _ _ (.int .i64 (k : Nat)) e1
    have a2 := heap_setCell_same _ p1 1 _ _ (.int .i64 (i : Nat)) a1
    have b2 := (m2.block _ (Nat.lt_of_lt_of_le (lt_of_heap e2) m1.size) fun e => hne e.symm).trans ((m1.block _ (lt_of_heap e2) fun e => hne e.symm).trans e2)
    have b3 := heap_setCell_same _ p2 0 _ _ (.bool true) b2
    exact ⟨(m3.block _ (lt_of_heap a2) hne).trans a2, b3, ((hm.then (m1.mono fun k hk => .inl (.inl hk))).then (m2.mono fun k hk => .inl (.inl hk))).then (m3.mono fun k hk => .inl (.inr hk))⟩
  have HM : Hid (Mut (fun j => j = p1 ∨ j = p2) w (w.alloc (.cells #[.int .i64 (k : Nat), .int .i64 (i : Nat)] 43))) := Lib.hid (Mut.of_below hb)
  have l1 := lt_of_heap h1
  have l2 := lt_of_heap h2
  have n1 : p1 ≠ p2 := ne_ty h1 h2 (by decide)
  have c0 := cell_of_heap (j := 0) h1 rfl
  have c1 := cell_of_heap (j := 1) h1 rfl
  have c2 := cell_of_heap (j := 0) h2 rfl
  have f1 := frozen_of_heap h1
  have f2 := frozen_of_heap h2
  have HH := Lib.hid (HP.out w h1 h2 (Mut.refl _ _))
  clear h1 h2 hb hk g1 g2 HP HM
  go_enter Try.func47, Try.ntmps47
  go_wp2
  go_ret
  obtain ⟨r1, r2, r3⟩ := HH.out
  generalize (((w.setCell ⟨p1, 0, none⟩ (.int .i64 (k : Nat))).setCell ⟨p1, 1, none⟩ (.int .i64 (i : Nat))).setCell ⟨p2, 0, none⟩ (.bool true)) = w5 at *
  have hb5 : Below w5.heap.size w5 (w5.alloc (.cells #[.int .i64 (k : Nat), .int .i64 (i : Nat)] 43)) := (Below.refl _ _).alloc (Nat.le_refl _) _
  exact ⟨rfl, (hb5.block _ (lt_of_heap r1)).trans r1, (hb5.block _ (lt_of_heap r2)).trans r2, r3.then (Mut.of_below hb5)⟩
theorem whole1_is {w : World} {p1 p2 : Nat} {l : List Int} (hl : l.length ≤ 1000000) {v : Value} (h1 : w.heap[p1]? = some (.cells #[.string (packV l).1, .bool (packV l).2] 39 (0, 0))) (h2 : w.heap[p2]? = some (.cells #[v] 4 (0, 0))) (k i : Nat) :
    Calls Try.prog 44 #[.agg #[.int .i64 (k : Nat), .int .i64 (i : Nat)], .pointer (some ⟨p1, 0, none⟩), .pointer (some ⟨p2, 0, none⟩)] w fun e w' => e = .returned (.bool true) ∧ w'.heap[p1]? = some (.cells #[.string (packV l).1, .bool (packV l).2] 39 (0, 0)) ∧ w'.heap[p2]? = some (.cells #[.bool (decide (i = l.length))] 4 (0, 0)) ∧ Mut (· = p2) w w' := by
  have HLEN := fun W => Lib.hid (len_is l hl W)
  unfold strV at HLEN
  generalize (packV l).1 = str at *
  generalize (packV l).2 = wide at *
  have hE : ((i : Int) == (l.length : Int)) = decide (i = l.length) := by rw [ibeq]; by_cases h : i = l.length <;> simp [h]; omega
  have HE := Lib.hid hE
  have hb0 : Below w.heap.size w (w.alloc (.cells #[.int .i64 (k : Nat), .int .i64 (i : Nat)] 43)) := (Below.refl _ _).alloc (Nat.le_refl _) _
  have HK : Hid (∀ W, Below w.heap.size w W → W.heap[p1]? = some (.cells #[.string str, .bool wide] 39 (0, 0)) ∧ W.heap[p2]? = some (.cells #[v] 4 (0, 0))) := Lib.hid fun W hW => ⟨(hW.block _ (lt_of_heap h1)).trans h1, (hW.block _ (lt_of_heap h2)).trans h2⟩
  have HB0 := Lib.hid hb0
  have HKM := Lib.hid (heap_alloc_new w (.cells #[.int .i64 (k : Nat), .int .i64 (i : Nat)] 43))
  have l1 := lt_of_heap h1
  have l2 := lt_of_heap h2
  have d0 := cell_of_heap (v := .string str) h1 (j := 0) rfl
  have d1 := cell_of_heap (v := .bool wide) h1 (j := 1) rfl
  have HNE : Hid (p1 ≠ p2) := Lib.hid (ne_ty h1 h2 (by decide))
  have HF : Hid (∀ W, Below w.heap.size w W → (W.setCell ⟨p2, 0, none⟩ (.bool ((i : Int) == (l.length : Int)))).heap[p1]? = some (.cells #[.string str, .bool wide] 39 (0, 0)) ∧ (W.setCell ⟨p2, 0, none⟩ (.bool ((i : Int) == (l.length : Int)))).heap[p2]? = some (.cells #[.bool (decide (i = l.length))] 4 (0, 0)) ∧ Mut (· = p2) w (W.setCell ⟨p2, 0, none⟩ (.bool ((i : Int) == (l.length : Int))))) := Lib.hid fun W hW => by
    obtain ⟨g1, g2⟩ := HK.out W hW
    rw [HE.out]
    have m3 : Mut (· = p2) W (W.setCell ⟨p2, 0, none⟩ (.bool (decide (i = l.length)))) := Mut.setCell _ _ _ _ rfl
    exact ⟨(m3.block _ (lt_of_heap g1) HNE.out).trans g1, heap_setCell_same W p2 0 _ _ _ g2, (Mut.of_below hW).then m3⟩
  clear h1 h2 hb0 hE hl
  go_enter Try.func44, Try.ntmps44
  go_wp2_with (fail)
  go_region_with (go_at_call 32; refine (HLEN _).out.mono ?_; rintro e w1 ⟨rfl, hb⟩
                  have HB1 : Hid (Below w.heap.size w w1) := Lib.hid (by first | exact HB0.out.trans (hb.mono HB0.out.size) | exact HB0.out.drew.trans (hb.mono HB0.out.drew.size))
                  have HP := Lib.hid (HK.out w1 HB1.out)
                  have c2 := cell_of_heap (j := 0) HP.out.2 rfl
                  have f2 := frozen_of_heap HP.out.2
                  have cm := cell_of_heap (v := .int .i64 (i : Nat)) ((hb.block _ (lt_of_heap HKM.out)).trans HKM.out) (j := 1) rfl
                  clear hb)
  go_wp2
  all_goals go_ret
  all_goals first | exact ⟨rfl, HF.out _ HB1.out⟩ | exact ⟨rfl, HF.out _ HB1.out.drew⟩
/-- What Whole's closure has stored. -/
def wholeV (N : Nat) (m : Option (Nat × Nat)) : Bool := match m with
  | none => false
  | some (_, i) => decide (i = N)
theorem clo_whole {p1 p2 B : Nat} {l : List Int} (hl : l.length ≤ 1000000) (hB : p2 < B) : Clo 44 [.pointer (some ⟨p1, 0, none⟩), .pointer (some ⟨p2, 0, none⟩)] B (fun w m => w.heap[p1]? = some (.cells #[.string (packV l).1, .bool (packV l).2] 39 (0, 0)) ∧ w.heap[p2]? = some (.cells #[.bool (wholeV l.length m)] 4 (0, 0))) (· = p2) where
  below := fun h hb => ⟨(hb.block _ (lt_of_heap h.1)).trans h.1, (hb.block _ (lt_of_heap h.2)).trans h.2⟩
  lt := fun k hk => by rw [hk]; exact hB
  ty := fun h k hk => by rw [hk]; exact ⟨_, .inl h.2⟩
  call := fun k i h _ _ => (whole1_is hl h.1 h.2 k i).mono fun e w' ⟨h1, h2, h3, h4⟩ => ⟨h1, ⟨h2, h3⟩, h4⟩
/-- What Find's closure has stored. -/
def findV (m : Option (Nat × Nat)) : Nat × Nat × Bool := match m with
  | none => (0, 0, false)
  | some (k, i) => (k, i, true)
theorem clo_find {p1 p2 B : Nat} (hB1 : p1 < B) (hB2 : p2 < B) : Clo 47 [.pointer (some ⟨p1, 0, none⟩), .pointer (some ⟨p2, 0, none⟩)] B (fun w m => w.heap[p1]? = some (.cells #[.int .i64 ((findV m).1 : Nat), .int .i64 ((findV m).2.1 : Nat)] 43 (0, 0)) ∧ w.heap[p2]? = some (.cells #[.bool (findV m).2.2] 4 (0, 0))) (fun j => j = p1 ∨ j = p2) where
  below := fun h hb => ⟨(hb.block _ (lt_of_heap h.1)).trans h.1, (hb.block _ (lt_of_heap h.2)).trans h.2⟩
  lt := fun k hk => by rcases hk with rfl | rfl <;> assumption
  ty := fun h k hk => by
    rcases hk with rfl | rfl
    · exact ⟨_, .inr h.1⟩
    · exact ⟨_, .inl h.2⟩
  call := fun k i h _ _ => (find1_is h.1 h.2 k i).mono fun e w' ⟨h1, h2, h3, h4⟩ => ⟨h1, ⟨h2, h3⟩, h4⟩
end Go.Proofs.Ytcajnmhbkjngbaa

/- Whole, Find. -/
namespace Go.Proofs.Ytcajnmhbkjngbaa
open Go.RowKit Go.Shelf
set_option maxRecDepth 100000

/-- An expression in memory whose sets are small. -/
structure Rg (w : World) (rb : Nat) (s : ByteArray) (n : Nd) (t : Nat) : Prop where
  rx : Rx w rb s n t
  sp : Sp 1000000 n
theorem Rg.below {w w' : World} {rb : Nat} {s : ByteArray} {n : Nd} {t : Nat} (h : Rg w rb s n t) (hb : Below w.heap.size w w') : Rg w' rb s n t := ⟨h.rx.below hb, h.sp⟩
theorem Sp.mono {N M : Nat} (hNM : N ≤ M) {n : Nd} (h : Sp N n) : Sp M n := by
  induction h with
  | set h => exact .set (Nat.le_trans h hNM)
  | beg => exact .beg
  | fin => exact .fin
  | cat _ ih => exact .cat ih
  | alt _ ih => exact .alt ih
  | star _ ih => exact .star ih
  | plus _ ih => exact .plus ih
  | opt _ ih => exact .opt ih
theorem Rx.rg {w : World} {rb : Nat} {s : ByteArray} {l : List Nd} {t : Nat} (h : Rx w rb s (.alt l) t) (hc : compM s = .inr (l, t)) : Rg w rb s (.alt l) t := by
  refine ⟨h, ?_⟩
  unfold compM at hc
  split at hc
  · cases hc
  · rename_i hs
    split at hc
    · cases hc
    · rename_i l' j t' hp
      cases hc
      exact (pAll_sp hp).mono (by have := charsS_len s; omega)
set_option maxHeartbeats 2000000 in
theorem whole_is {w : World} {rb : Nat} {s : ByteArray} {n : Nd} {t : Nat} (h : Rg w rb s n t) {l : List Int} (hc : ChOk l) (hl : l.length ≤ 100000) :
    Calls Try.prog 15 #[.pointer (some ⟨rb, 0, none⟩), strV l] w fun e w' => (∃ b : Bool, e = .returned (.bool b) ∧ (b = true ↔ Mt l n 0 l.length)) ∧ Below w.heap.size w w' := by
  obtain ⟨A, C, code, hrx, hau⟩ := h.rx.open_
  have hb : ∀ v, Below w.heap.size w ((w.alloc (.cells #[.string (packV l).1, .bool (packV l).2] 39)).alloc (.cells #[.bool v] 4)) := fun v => ((Below.refl _ _).alloc (Nat.le_refl _) _).alloc (by simp) _
  have hk := heap2 w (.cells #[.string (packV l).1, .bool (packV l).2] 39) (.cells #[.bool false] 4)
  have HS := Lib.hid (searchW (n := n) (w := (w.alloc (.cells #[.string (packV l).1, .bool (packV l).2] 39)).alloc (.cells #[.bool false] 4)) (hrx.below (hb false)) hau hc hl (lo := 0) (Nat.zero_le _) true (fun k z hz => hau.sp h.sp k z hz) (clo_whole (p1 := w.heap.size) (p2 := w.heap.size + 1) (by omega) (by simp)) ⟨hk.1, hk.2⟩)
  have HB := Lib.hid (hb false)
  have HW : Hid (∀ m, Fnd l n 0 true m → (wholeV l.length m = true ↔ Mt l n 0 l.length)) := Lib.hid fun m hm => by
    rw [← hm.whole]
    cases m with
    | none => simp [wholeV]
    | some p => obtain ⟨b, e⟩ := p; simp [wholeV]
  clear hrx hau h hb hk
  unfold strV at HS ⊢
  generalize (packV l).1 = str at *
  generalize (packV l).2 = wide at *
  have hmf : ∀ (fn : Fn) (first cap : Array Value) (w : World), (Instr.makeFunc fn first cap).run Try.prog w = .ok (.func fn first cap) w := fun _ _ _ _ => rfl
  go_enter Try.func15, Try.ntmps15
  go_wp2_with (go_at_call 43; refine HS.out.mono ?_; rintro e w1 ⟨rfl, m, hf, hI, hm⟩
               have HR : Hid (wholeV l.length m = true ↔ Mt l n 0 l.length) := Lib.hid (HW.out m hf)
               have HB1 : Hid (Below w.heap.size w w1) := Lib.hid (HB.out.trans (hm.to_below HB.out.size fun k hk => by have hk : k = w.heap.size + 1 := hk; omega))
               have d0 := cell_of_heap (j := 0) hI.2 rfl
               clear hf hI hm)
  go_ret
  exact ⟨⟨_, rfl, HR.out⟩, HB1.out⟩
theorem whole_nil (l : List Int) (w : World) : Calls Try.prog 15 #[.pointer none, strV l] w fun e w' => e = .returned (.bool false) ∧ Below w.heap.size w w' := by
  have HB : Hid (Below w.heap.size w (w.alloc (.cells #[.string (packV l).1, .bool (packV l).2] 39))) := Lib.hid ((Below.refl _ _).alloc (Nat.le_refl _) _)
  unfold strV
  generalize (packV l).1 = str at *
  generalize (packV l).2 = wide at *
  go_enter Try.func15, Try.ntmps15
  go_wp2
  go_ret
  exact ⟨rfl, HB.out⟩
end Go.Proofs.Ytcajnmhbkjngbaa

/- Find. -/
namespace Go.Proofs.Ytcajnmhbkjngbaa
open Go.RowKit Go.Shelf
set_option maxRecDepth 100000

/-- What Find answers. -/
def findE (m : Option (Nat × Nat)) (err : Int) : Ending := .returned (.tuple #[.agg #[.int .i64 ((findV m).1 : Nat), .int .i64 ((findV m).2.1 : Nat)], .bool (findV m).2.2, .int .i64 err])
theorem results_cell_tmp2 {fn : Func} {p u v : Tmp} {ty : TypeId} (h : fn.results = #[.cell p ty, .tmp u, .tmp v]) (tmps : Array Value) (P : Program) (w : World) :
    (results fn tmps).run P w =
      ((asAddr (tmps.getD p undef)).run P w).andThen fun a w₁ => ((loadVar ty a).run P w₁).andThen fun x w₂ => .ok (.tuple #[x, tmps.getD u undef, tmps.getD v undef]) w₂ := by
  simp only [results, h]
  simp [Sem.run_bind, Result.andThen]
/-- Ahead of the search: the string's box, the result's box. -/
structure FW (w W : World) (str : ByteArray) (wide : Bool) : Prop where
  s : W.heap[w.heap.size]? = some (.cells #[.string str, .bool wide] 39 (0, 0))
  r : ∃ u v, W.heap[w.heap.size + 1]? = some (.cells #[u, v] 43 (0, 0))
  b : Below w.heap.size w W
theorem FW.below {w W W' : World} {str : ByteArray} {wide : Bool} (h : FW w W str wide) (hb : Below W.heap.size W W') : FW w W' str wide :=
  ⟨(hb.block _ (lt_of_heap h.s)).trans h.s, by obtain ⟨u, v, h1⟩ := h.r; exact ⟨u, v, (hb.block _ (lt_of_heap h1)).trans h1⟩, h.b.trans (hb.mono h.b.size)⟩
theorem FW.start (w : World) (str : ByteArray) (wide : Bool) : FW w ((w.alloc (.cells #[.string str, .bool wide] 39)).alloc (.cells #[.int .i64 0, .int .i64 0] 43)) str wide :=
  ⟨(heap2 w _ _).1, ⟨_, _, (heap2 w _ _).2⟩, ((Below.refl _ _).alloc (Nat.le_refl _) _).alloc (by simp) _⟩
theorem FW.fin {w W : World} {str : ByteArray} {wide : Bool} (h : FW w W str wide) (a b : Value) : Below w.heap.size w ((W.setCell ⟨w.heap.size + 1, 0, none⟩ a).setCell ⟨w.heap.size + 1, 1, none⟩ b) :=
  h.b.trans (((Mut.setCell (S := (· = w.heap.size + 1)) _ _ _ _ rfl).then (Mut.setCell (S := (· = w.heap.size + 1)) _ _ _ _ rfl)).to_below h.b.size fun k hk => by omega)
set_option maxHeartbeats 2000000 in
theorem find_in {w : World} {rb : Nat} {s : ByteArray} {n : Nd} {t : Nat} (h : Rg w rb s n t) {l : List Int} (hc : ChOk l) (hl : l.length ≤ 100000) (k : Nat) (hk : k ≤ l.length) :
    Calls Try.prog 18 #[.pointer (some ⟨rb, 0, none⟩), strV l, .int .i64 (k : Nat)] w fun e w' => (∃ m, First l n k m ∧ e = findE m 0) ∧ Below w.heap.size w w' := by
  have HLEN := fun W => Lib.hid (len_is l (by omega) W)
  have HS : Hid (∀ w1, Below w.heap.size w w1 → Calls Try.prog 43 #[.pointer (some ⟨rb, 0, none⟩), strV l, .int .i64 (k : Nat), .bool false, .func (.func 47) #[] #[.pointer (some ⟨w1.heap.size, 0, none⟩), .pointer (some ⟨w1.heap.size + 1, 0, none⟩)]] ((w1.alloc (.cells #[.int .i64 0, .int .i64 0] 43)).alloc (.cells #[.bool false] 4)) fun e w' => e = .returned (.tuple #[]) ∧ ∃ m, First l n k m ∧ w'.heap[w1.heap.size]? = some (.cells #[.int .i64 ((findV m).1 : Nat), .int .i64 ((findV m).2.1 : Nat)] 43 (0, 0)) ∧ w'.heap[w1.heap.size + 1]? = some (.cells #[.bool (findV m).2.2] 4 (0, 0)) ∧ Below w1.heap.size w1 w') := Lib.hid fun w1 hb1 => by
    have h1 := h.below hb1
    obtain ⟨A, C, code, hrx, hau⟩ := h1.rx.open_
    have hb : Below w1.heap.size w1 ((w1.alloc (.cells #[.int .i64 0, .int .i64 0] 43)).alloc (.cells #[.bool false] 4)) := ((Below.refl _ _).alloc (Nat.le_refl _) _).alloc (by simp) _
    have hkk := heap2 w1 (.cells #[.int .i64 0, .int .i64 0] 43) (.cells #[.bool false] 4)
    refine (searchF (n := n) (w := (w1.alloc (.cells #[.int .i64 0, .int .i64 0] 43)).alloc (.cells #[.bool false] 4)) (hrx.below hb) hau hc hl hk false (fun k z hz => hau.sp h1.sp k z hz) (clo_find (p1 := w1.heap.size) (p2 := w1.heap.size + 1) (by simp; omega) (by simp)) ⟨hkk.1, hkk.2⟩).mono ?_
    rintro e w' ⟨h1, m, h2, h3, h4⟩
    exact ⟨h1, m, h2.first, h3.1, h3.2, hb.trans (h4.to_below hb.size fun k hk => by rcases hk with rfl | rfl <;> omega)⟩
  clear h hc
  have q1 : (k : Int) ≤ (l.length : Int) := by omega
  have q2 : 0 ≤ (k : Int) := by omega
  clear hk
  unfold strV at HS HLEN ⊢
  generalize (packV l).1 = str at *
  generalize (packV l).2 = wide at *
  have hmf : ∀ (fn : Fn) (first cap : Array Value) (w : World), (Instr.makeFunc fn first cap).run Try.prog w = .ok (.func fn first cap) w := fun _ _ _ _ => rfl
  have HW0 := Lib.hid (FW.start w str wide)
  go_enter Try.func18, Try.ntmps18
  go_upto_region 1 with (fail)
  generalize ((w.alloc (.cells #[.string str, .bool wide] 39)).alloc (.cells #[.int .i64 0, .int .i64 0] 43)) = W0 at *
  have d0 := cell_of_heap (v := .string str) HW0.out.s (j := 0) rfl
  have d1 := cell_of_heap (v := .bool wide) HW0.out.s (j := 1) rfl
  go_wp2_with (first
    | (go_at_call 32; refine (HLEN _).out.mono ?_; rintro e w1 ⟨rfl, hb⟩
       have HW1 : Hid (FW w w1 str wide) := Lib.hid (HW0.out.below (by first | exact hb | exact (Below.refl _ _).drew.trans hb))
       have d0 := cell_of_heap (v := .string str) HW1.out.s (j := 0) rfl
       have d1 := cell_of_heap (v := .bool wide) HW1.out.s (j := 1) rfl
       have l1 := lt_of_heap HW1.out.s
       clear hb)
    | (go_at_call 43
       refine (HS.out w1 HW1.out.b).mono ?_
       rintro e w2 ⟨rfl, m, hf, h1, h2, hb⟩
       have HF := Lib.hid hf
       have HW2 := Lib.hid (HW1.out.below hb)
       have d2 := cell_of_heap (v := .int .i64 ((findV m).1 : Nat)) h1 (j := 0) rfl
       have d3 := cell_of_heap (v := .int .i64 ((findV m).2.1 : Nat)) h1 (j := 1) rfl
       have d4 := cell_of_heap (v := .bool (findV m).2.2) h2 (j := 0) rfl
       obtain ⟨u, v, hr⟩ := HW2.out.r
       have r0 := cell_of_heap (v := u) hr (j := 0) rfl
       have r1 := cell_of_heap (v := v) hr (j := 1) rfl
       have rf := frozen_of_heap hr
       clear hf h1 h2 hb hr))
  go_region
  all_goals (try go_wp2)
  all_goals (try simp only [Exit.inBlock, Exit.then])
  all_goals refine bodyPost_ret (v := .tuple #[.agg #[.int .i64 ((findV m).1 : Nat), .int .i64 ((findV m).2.1 : Nat)], .bool (findV m).2.2, .int .i64 0]) ?_ rfl ⟨⟨m, HF.out, rfl⟩, by first | exact HW2.out.fin _ _ | exact (HW2.out.fin _ _).drew⟩
  all_goals (rw [results_cell_tmp2 rfl]; go_simp)
theorem find_out {w : World} (p : Option Addr) {l : List Int} (hl : l.length ≤ 100000) (k : Int) (hk : k < 0 ∨ (l.length : Int) < k) :
    Calls Try.prog 18 #[.pointer p, strV l, .int .i64 k] w fun e w' => e = findE none 11 ∧ Below w.heap.size w w' := by
  have HLEN := fun W => Lib.hid (len_is l (by omega) W)
  unfold strV at HLEN ⊢
  generalize (packV l).1 = str at *
  generalize (packV l).2 = wide at *
  have HW0 := Lib.hid (FW.start w str wide)
  go_enter Try.func18, Try.ntmps18
  go_upto_region 1 with (fail)
  generalize ((w.alloc (.cells #[.string str, .bool wide] 39)).alloc (.cells #[.int .i64 0, .int .i64 0] 43)) = W0 at *
  have d0 := cell_of_heap (v := .string str) HW0.out.s (j := 0) rfl
  have d1 := cell_of_heap (v := .bool wide) HW0.out.s (j := 1) rfl
  by_cases h0 : k < 0
  · clear hk
    obtain ⟨u, v, hr⟩ := HW0.out.r
    have r0 := cell_of_heap (v := u) hr (j := 0) rfl
    have r1 := cell_of_heap (v := v) hr (j := 1) rfl
    have rf := frozen_of_heap hr
    clear hr
    go_wp2_with (fail)
    (try simp only [Exit.inBlock, Exit.then])
    refine bodyPost_ret (v := .tuple #[.agg #[.int .i64 0, .int .i64 0], .bool false, .int .i64 11]) ?_ rfl ⟨rfl, HW0.out.fin _ _⟩
    rw [results_cell_tmp2 rfl]
    go_simp
  · have h1 : (l.length : Int) < k := hk.resolve_left h0
    clear hk
    go_wp2_with (first
      | (go_at_call 32; refine (HLEN _).out.mono ?_; rintro e w1 ⟨rfl, hb⟩
         have HW1 : Hid (FW w w1 str wide) := Lib.hid (HW0.out.below (by first | exact hb | exact (Below.refl _ _).drew.trans hb))
         obtain ⟨u, v, hr⟩ := HW1.out.r
         have r0 := cell_of_heap (v := u) hr (j := 0) rfl
         have r1 := cell_of_heap (v := v) hr (j := 1) rfl
         have rf := frozen_of_heap hr
         clear hr hb d0 d1))
    (try simp only [Exit.inBlock, Exit.then])
    refine bodyPost_ret (v := .tuple #[.agg #[.int .i64 0, .int .i64 0], .bool false, .int .i64 11]) ?_ rfl ⟨rfl, HW1.out.fin _ _⟩
    rw [results_cell_tmp2 rfl]
    go_simp
theorem find_nil {w : World} {l : List Int} (hl : l.length ≤ 100000) (k : Nat) (hk : k ≤ l.length) :
    Calls Try.prog 18 #[.pointer none, strV l, .int .i64 (k : Nat)] w fun e w' => e = findE none 0 ∧ Below w.heap.size w w' := by
  have HLEN := fun W => Lib.hid (len_is l (by omega) W)
  unfold strV at HLEN ⊢
  generalize (packV l).1 = str at *
  generalize (packV l).2 = wide at *
  have q1 : (k : Int) ≤ (l.length : Int) := by omega
  have q2 : 0 ≤ (k : Int) := by omega
  have HW0 := Lib.hid (FW.start w str wide)
  go_enter Try.func18, Try.ntmps18
  go_upto_region 1 with (fail)
  generalize ((w.alloc (.cells #[.string str, .bool wide] 39)).alloc (.cells #[.int .i64 0, .int .i64 0] 43)) = W0 at *
  have d0 := cell_of_heap (v := .string str) HW0.out.s (j := 0) rfl
  have d1 := cell_of_heap (v := .bool wide) HW0.out.s (j := 1) rfl
  go_upto_region 3 with (first
    | (go_at_call 32; refine (HLEN _).out.mono ?_; rintro e w1 ⟨rfl, hb⟩
       have HW1 : Hid (FW w w1 str wide) := Lib.hid (HW0.out.below (by first | exact hb | exact (Below.refl _ _).drew.trans hb))
       clear hb d0 d1))
  go_upto_region 4 with (fail)
  have hb2 : Below w1.heap.size w1 ((w1.alloc (.cells #[.int .i64 0, .int .i64 0] 43)).alloc (.cells #[.bool false] 4)) := ((Below.refl _ _).alloc (Nat.le_refl _) _).alloc (by simp) _
  have hkk := heap2 w1 (.cells #[.int .i64 0, .int .i64 0] 43) (.cells #[.bool false] 4)
  generalize ((w1.alloc (.cells #[.int .i64 0, .int .i64 0] 43)).alloc (.cells #[.bool false] 4)) = w2 at *
  have HW2 := Lib.hid (HW1.out.below hb2)
  have d2 := cell_of_heap (v := .int .i64 0) hkk.1 (j := 0) rfl
  have d3 := cell_of_heap (v := .int .i64 0) hkk.1 (j := 1) rfl
  have d4 := cell_of_heap (v := .bool false) hkk.2 (j := 0) rfl
  obtain ⟨u, v, hr⟩ := HW2.out.r
  have r0 := cell_of_heap (v := u) hr (j := 0) rfl
  have r1 := cell_of_heap (v := v) hr (j := 1) rfl
  have rf := frozen_of_heap hr
  have l1 := lt_of_heap HW1.out.s
  clear hr hb2 hkk
  go_wp2_with (fail)
  go_region
  all_goals (try go_wp2)
  all_goals (try simp only [Exit.inBlock, Exit.then])
  all_goals refine bodyPost_ret (v := .tuple #[.agg #[.int .i64 0, .int .i64 0], .bool false, .int .i64 0]) ?_ rfl ⟨rfl, by first | exact HW2.out.fin _ _ | exact (HW2.out.fin _ _).drew⟩
  all_goals (rw [results_cell_tmp2 rfl]; go_simp)
end Go.Proofs.Ytcajnmhbkjngbaa

