/- Texts on regular expressions, merged: U14, U15, U16. -/
import Derived.Test.YtcajnmhbkjngbaaG21
/- The law's small functions; Equal of matches. -/
namespace Go.Proofs.Ytcajnmhbkjngbaa
open Go.RowKit Go.Shelf
set_option maxRecDepth 100000

theorem runesFrom_scan (s : ByteArray) : ∀ (f i : Nat) (acc : Array Value), (Conv.runesFrom s f i acc).toList = acc.toList ++ (scanL s f i).map fun p => Value.int .i32 p.2
  | 0, i, acc => by simp [Conv.runesFrom, scanL]
  | f + 1, i, acc => by
    unfold Conv.runesFrom scanL
    split
    · rw [runesFrom_scan s f _ _, Array.toList_push]
      simp
    · simp
theorem runesL_eq (s : ByteArray) : runesL s = charsS s := by
  unfold runesL charsS scanS
  rw [runesFrom_scan s s.size 0 #[]]
  simp [intOf]
theorem chOk_runes (s : ByteArray) : ChOk (runesL s) := by rw [runesL_eq]; exact charsS_mem s
theorem two_put {W : World} {b : Nat} {x y : Value} {ty : TypeId} (hk : W.heap[b]? = some (.cells #[x, y] ty (0, 0))) (a c : Value) (o : Obj) : (((W.setCell ⟨b, 0, none⟩ a).setCell ⟨b, 1, none⟩ c).alloc o).cell? ⟨b, 0, none⟩ = some a ∧ (((W.setCell ⟨b, 0, none⟩ a).setCell ⟨b, 1, none⟩ c).alloc o).cell? ⟨b, 1, none⟩ = some c := by
  have h1 := heap_setCell_same W b 0 _ _ a hk
  have h2 := heap_setCell_same _ b 1 _ _ c h1
  have h3 := (Below.alloc (Below.refl ((W.setCell ⟨b, 0, none⟩ a).setCell ⟨b, 1, none⟩ c).heap.size _) (Nat.le_refl _) o).block _ (lt_of_heap h2)
  exact ⟨cell_of_heap (h3.trans h2) rfl, cell_of_heap (h3.trans h2) rfl⟩
theorem of_law {s : ByteArray} (hs : s.size ≤ 1000) (w : World) : Calls Try.prog 16 #[.string s] w fun e w' => e = .returned (strV (runesL s)) ∧ Below w.heap.size w w' := by
  have H := fun W => Lib.hid (of_is s hs W)
  unfold strV
  unfold textOf at H
  generalize (packV (runesL s)).1 = str at *
  generalize (packV (runesL s)).2 = wide at *
  have HB0 : Hid (Below w.heap.size w (w.alloc (.cells #[.string { data := #[] }, .bool false] 39)) ∧ (w.alloc (.cells #[.string { data := #[] }, .bool false] 39)).heap[w.heap.size]? = some (.cells #[.string { data := #[] }, .bool false] 39 (0, 0))) := Lib.hid ⟨(Below.refl _ _).alloc (Nat.le_refl _) _, heap_alloc_new _ _⟩
  go_enter Try.func16, Try.ntmps16
  go_wp2_with (go_at_call 45; refine (H _).out.mono ?_; rintro e w1 ⟨rfl, hb⟩
               have HB : Hid (Below w.heap.size w w1) := Lib.hid (HB0.out.1.trans (hb.mono HB0.out.1.size))
               have hk := (hb.block _ (lt_of_heap HB0.out.2)).trans HB0.out.2
               have e0 := cell_of_heap (v := .string { data := #[] }) hk (j := 0) rfl
               have e1 := cell_of_heap (v := .bool false) hk (j := 1) rfl
               have f0 := frozen_of_heap hk 0
               have f1 := frozen_of_heap hk 1
               have l0 := lt_of_heap hk
               have HG := Lib.hid (two_put hk (.string str) (.bool wide) (.cells #[.string str, .bool wide] 39))
               clear hb hk)
  all_goals exact bodyPost_ret (v := .agg #[.string str, .bool wide]) (by have g0 := HG.out.1; have g1 := HG.out.2; simp [results, Try.results16, go_sem, g0, g1]) rfl ⟨rfl, (fin2t HB.out (Nat.le_refl _) _ _).alloc (Nat.le_trans HB.out.size (by simp)) _⟩
theorem small_is (p s : ByteArray) (w : World) : Calls Try.prog 11 #[.string p, .string s] w fun e w' => e = .returned (.bool (decide (p.size ≤ 200) && decide (s.size ≤ 60))) ∧ w' = w := by
  by_cases h : p.size ≤ 200
  · have h1 : (p.size : Int) ≤ 200 := by omega
    go_enter Try.func11, Try.ntmps11
    go_wp2
    go_ret
    simp_all
    omega
  · have h1 : (200 : Int) < p.size := by omega
    go_enter Try.func11, Try.ntmps11
    go_wp2
    go_ret
    simp_all
def hasB (s : ByteArray) (c : UInt8) : Bool := decide (0 ≤ Lib.indexByte s.data.toList c)
theorem hasB_iff {s : ByteArray} {c : UInt8} : hasB s c = true ↔ c ∈ s.data.toList := by
  unfold hasB
  rw [decide_eq_true_iff]
  generalize s.data.toList = l
  induction l with
  | nil => simp [Lib.indexByte]
  | cons b l ih =>
    unfold Lib.indexByte
    by_cases hb : b = c
    · subst hb; simp
    · have : ¬ c = b := fun e => hb e.symm
      rw [if_neg (by simpa using hb), List.mem_cons, ← ih]
      by_cases h2 : Lib.indexByte l c = -1
      · rw [if_pos (by simpa using h2), h2]; simp [this]
      · rw [if_neg (by simpa using h2)]
        have h3 : -1 ≤ Lib.indexByte l c := by
          clear ih h2 this hb
          induction l with
          | nil => simp [Lib.indexByte]
          | cons d l ih =>
            unfold Lib.indexByte
            split
            · omega
            · split <;> omega
        simp [this]
        omega
theorem contains_is (p : ByteArray) (c : UInt8) (w : World) : Calls Try.prog 56 #[.string p, .string ⟨#[c]⟩] w fun e w' => e = .returned (.bool (hasB p c)) ∧ w' = w := Try.strings_Contains_one p c w
theorem anchored_is (p : ByteArray) (w : World) : Calls Try.prog 31 #[.string p] w fun e w' => e = .returned (.bool (hasB p 94 || hasB p 36)) ∧ w' = w := by
  have H1 := fun W => Lib.hid (contains_is p 94 W)
  have H2 := fun W => Lib.hid (contains_is p 36 W)
  generalize hasB p 94 = b1 at *
  generalize hasB p 36 = b2 at *
  have t1 : True := trivial
  cases b1
  · go_enter Try.func31, Try.ntmps31
    go_wp2_with (first
      | (go_at_call 56; have _t := t1; clear _t; refine (H1 _).out.mono ?_; rintro e w1 ⟨rfl, rfl⟩; clear t1)
      | (go_at_call 56; refine (H2 _).out.mono ?_; rintro e w1 ⟨rfl, rfl⟩))
    go_ret
    exact ⟨rfl, rfl⟩
  · go_enter Try.func31, Try.ntmps31
    go_wp2_with (first
      | (go_at_call 56; have _t := t1; clear _t; refine (H1 _).out.mono ?_; rintro e w1 ⟨rfl, rfl⟩; clear t1)
      | (go_at_call 56; refine (H2 _).out.mono ?_; rintro e w1 ⟨rfl, rfl⟩))
    go_ret
    exact ⟨rfl, rfl⟩
end Go.Proofs.Ytcajnmhbkjngbaa

/- Equal of matches; awake. -/
namespace Go.Proofs.Ytcajnmhbkjngbaa
open Go.RowKit Go.Shelf
set_option maxRecDepth 100000

structure RdM (w : World) (A : Option Addr) (ms : List (Nat × Nat)) : Prop where
  rd : ∀ j (hj : j < ms.length), ∃ g, A = some ⟨g, 0, none⟩ ∧ g < w.heap.size ∧ w.cell? ⟨g, j * 2, none⟩ = some (.int .i64 (ms[j].1 : Nat)) ∧ w.cell? ⟨g, j * 2 + 1, none⟩ = some (.int .i64 (ms[j].2 : Nat))
theorem RdM.below {w w' : World} {A : Option Addr} {ms : List (Nat × Nat)} (h : RdM w A ms) (hb : Below w.heap.size w w') : RdM w' A ms := ⟨fun j hj => by
  obtain ⟨g, h1, h2, h3, h4⟩ := h.rd j hj
  exact ⟨g, h1, Nat.lt_of_lt_of_le h2 hb.size, ((Mut.of_below hb).cell (S := fun _ => False) h2 fun e => e).trans h3, ((Mut.of_below hb).cell (S := fun _ => False) h2 fun e => e).trans h4⟩⟩
theorem mcells_len (ms : List (Nat × Nat)) : (mcells ms).length = ms.length * 2 := by
  induction ms with
  | nil => rfl
  | cons p ms ih =>
    have e : mcells (p :: ms) = [.int .i64 (p.1 : Nat), .int .i64 (p.2 : Nat)] ++ mcells ms := by simp [mcells]
    rw [e, List.length_append, ih, List.length_cons]
    simp
    omega
theorem mcells_get : ∀ (ms : List (Nat × Nat)) (j : Nat) (hj : j < ms.length), (mcells ms)[j * 2]? = some (.int .i64 (ms[j].1 : Nat)) ∧ (mcells ms)[j * 2 + 1]? = some (.int .i64 (ms[j].2 : Nat))
  | p :: ms, 0, _ => ⟨rfl, rfl⟩
  | p :: ms, j + 1, hj => by
    have h := mcells_get ms j (by simpa using hj)
    have e : mcells (p :: ms) = [.int .i64 (p.1 : Nat), .int .i64 (p.2 : Nat)] ++ mcells ms := by simp [mcells]
    rw [e, show (j + 1) * 2 = j * 2 + 2 by omega]
    exact ⟨by simpa using h.1, by simpa using h.2⟩
theorem rdM_own {w : World} {B n C : Nat} {A : Option Addr} {ms : List (Nat × Nat)} (h : w.ownsRow B 43 2 (.slice A n C) n (mcells ms)) (hn : n = ms.length) : RdM w A ms := ⟨fun j hj => by
  obtain ⟨g, h1, _, h2, h3, _⟩ := own_cell h (j * 2) (by omega)
  obtain ⟨g', h1', _, _, h4, _⟩ := own_cell h (j * 2 + 1) (by omega)
  rw [h1] at h1'
  injection h1' with e
  injection e with e
  subst e
  have := mcells_get ms j hj
  exact ⟨g, h1, h2, h3.trans this.1, h4.trans this.2⟩⟩
theorem eqM_is {w : World} {A A' : Option Addr} {ms : List (Nat × Nat)} (C C' : Nat) (h : RdM w A ms) (h' : RdM w A' ms) (hl : ms.length ≤ 1000000) :
    Calls Try.prog 38 #[.slice A ms.length C, .slice A' ms.length C'] w fun e w' => e = .returned (.bool true) ∧ Below w.heap.size w w' := by
  have H := Lib.hid (And.intro h h')
  clear h h'
  go_enter Try.func38, Try.ntmps38
  go_wp2_with (fail)
  go_loopw [13] (fun p wr => ∃ j : Nat, j ≤ ms.length ∧ p = .int .i64 (j : Nat) ∧ Hid (Below w.heap.size w wr)) (fun i _ => ms.length - (intOf i).toNat)
  case atStart => exact ⟨0, Nat.zero_le _, rfl, Lib.hid (Below.refl _ _)⟩
  case round =>
    obtain ⟨j, hj, rfl, HB⟩ := hrel
    by_cases hlt : j < ms.length
    · obtain ⟨g, hA, hg, c0, c1⟩ := (H.out.1.below HB.out).rd j hlt
      obtain ⟨g', hA', hg', c0', c1'⟩ := (H.out.2.below HB.out).rd j hlt
      have q1 : (j : Int) < (ms.length : Int) := by omega
      have HLT := Lib.hid hlt
      rw [hA, hA']
      clear hA hA'
      generalize ms[j].1 = x at *
      generalize ms[j].2 = y at *
      go_wp2
      go_region
      all_goals go_wp2
      go_roundw
      case rel => exact ⟨j + 1, by have := HLT.out; omega, by go_num, Lib.hid HB.out.drew⟩
      case measure => have := HLT.out; simp [intOf]; omega
    · obtain rfl : j = ms.length := by omega
      clear hlt hj
      go_wp2
      go_ret
      exact ⟨rfl, HB.out⟩
/-- What Compile answers to a text that is right. -/
theorem compile_ok {s : ByteArray} {l : List Nd} {t : Nat} (hc : compM s = .inr (l, t)) (W : World) : Calls Try.prog 20 #[.string s] W fun e w' => (∃ rb, e = .returned (.tuple #[.pointer (some ⟨rb, 0, none⟩), .agg #[.int .i64 0, .int .i64 0]]) ∧ Rg w' rb s (.alt l) t) ∧ Below W.heap.size W w' :=
  (compile_calls s W).mono fun e w' ⟨hb, h⟩ => by
    rw [hc] at h
    obtain ⟨rb, h1, h2⟩ := h
    exact ⟨⟨rb, h1, h2.rg hc⟩, hb⟩
theorem ex1_comp : compM ⟨#[97, 124, 97, 98]⟩ = .inr ([.cat [.set ⟨[(97, 97)], false⟩], .cat [.set ⟨[(97, 97)], false⟩, .set ⟨[(98, 98)], false⟩]], 3) := by kernel_rfl
theorem ex2_comp : compM ⟨#[120, 42]⟩ = .inr ([.cat [.star (.set ⟨[(120, 120)], false⟩)]], 1) := by kernel_rfl
theorem ex1_runes : runesL ⟨#[120, 97, 98, 99]⟩ = exL1 := by rfl
theorem ex2_runes : runesL ⟨#[97, 120, 98]⟩ = exL2 := by rfl
def exF2 (k : Nat) : Option (Nat × Nat) := if k = 1 then some (1, 2) else some (k, k)
theorem ex2_all_ : allF exF2 3 5 0 (-1) = [(0, 0), (1, 2), (3, 3)] := by rfl
end Go.Proofs.Ytcajnmhbkjngbaa

/- awake. -/
namespace Go.Proofs.Ytcajnmhbkjngbaa
open Go.RowKit Go.Shelf
set_option maxRecDepth 100000

/-- Other blocks are written. -/
theorem Rg.mut {T : Nat → Prop} {w w' : World} {rb : Nat} {s : ByteArray} {n : Nd} {t : Nat} (h : Rg w rb s n t) (hm : Mut T w w') (hT : ∀ k, T k → ∃ cur ty fr, w.heap[k]? = some (.cells cur ty fr) ∧ ty ≠ 101 ∧ ty ≠ 99 ∧ ty ≠ 151) : Rg w' rb s n t := by
  refine ⟨⟨?_⟩, h.sp⟩
  obtain ⟨A, C, code, h1, h2, h3⟩ := h.rx.ex
  have hn : ∀ {k : Nat} {cur : Array Value} {ty : TypeId} {fr : Nat × Nat}, w.heap[k]? = some (.cells cur ty fr) → ty = 101 ∨ ty = 99 ∨ ty = 151 → ¬ T k := fun hk ht e => by
    obtain ⟨c, ty', f', e1, e2, e3, e4⟩ := hT _ e
    rw [e1] at hk
    injection hk with hk
    injection hk with _ hk _
    rcases ht with rfl | rfl | rfl
    · exact e2 hk
    · exact e3 hk
    · exact e4 hk
  exact ⟨A, C, code, (hm.block _ (lt_of_heap h1) (hn h1 (.inl rfl))).trans h1, h2.mut hm (fun a ha => by obtain ⟨cur, fr, h5⟩ := h2.ty a ha; exact hn h5 (.inr (.inl rfl))) fun x hx a ha => by obtain ⟨cur, fr, h5⟩ := (h2.sp x hx).ty a ha; exact hn h5 (.inr (.inr rfl)), h3⟩
theorem rdM_lit (w : World) : RdM (w.alloc (.cells #[.int .i64 0, .int .i64 0, .int .i64 1, .int .i64 2, .int .i64 3, .int .i64 3] 43)) (some ⟨w.heap.size, 0, none⟩) [(0, 0), (1, 2), (3, 3)] := ⟨fun j hj => by
  have hk := heap_alloc_new w (.cells #[.int .i64 0, .int .i64 0, .int .i64 1, .int .i64 2, .int .i64 3, .int .i64 3] 43)
  refine ⟨_, rfl, by simp, ?_, ?_⟩
  · refine cell_of_heap hk ?_
    rcases j with _ | _ | _ | j
    · rfl
    · rfl
    · rfl
    · simp at hj
      omega
  · refine cell_of_heap hk ?_
    rcases j with _ | _ | _ | j
    · rfl
    · rfl
    · rfl
    · simp at hj
      omega⟩
theorem exF2_first : ∀ k, k ≤ exL2.length → First exL2 exN2 k (exF2 k) := fun k hk => by
  unfold exF2
  by_cases h : k = 1
  · rw [if_pos h, h]; exact ex2_first1
  · rw [if_neg h]; exact ex2_first hk h
set_option maxHeartbeats 4000000 in
theorem awake37 (w : World) : Calls Try.prog 10 #[] w fun e w' => e = .returned (.bool true) ∧ Below w.heap.size w w' := by
  have HC1 := fun W => Lib.hid (compile_ok ex1_comp W)
  have HC2 := fun W => Lib.hid (compile_ok ex2_comp W)
  have HO1 := fun W => Lib.hid (of_law (s := ⟨#[120, 97, 98, 99]⟩) (by decide) W)
  have HO2 := fun W => Lib.hid (of_law (s := ⟨#[97, 120, 98]⟩) (by decide) W)
  rw [ex1_runes] at HO1
  rw [ex2_runes] at HO2
  go_enter Try.func10, Try.ntmps10
  go_upto_region 2 with (go_at_call 20; refine (HC1 _).out.mono ?_; rintro e w1 ⟨⟨rb1, rfl, hr⟩, hb⟩
                         have HR1 := Lib.hid (And.intro hr hb)
                         clear hr hb)
  have hb2 : Below w1.heap.size w1 (w1.alloc (.cells #[.int .i64 0, .int .i64 0] 30)) := (Below.refl _ _).alloc (Nat.le_refl _) _
  have hk2 := heap_alloc_new w1 (.cells #[.int .i64 0, .int .i64 0] 30)
  generalize (w1.alloc (.cells #[.int .i64 0, .int .i64 0] 30)) = W2 at *
  have HR2 := Lib.hid (HR1.out.1.below hb2)
  have HB2 := Lib.hid (HR1.out.2.trans (hb2.mono HR1.out.2.size))
  have HFW : Hid (w.heap.size ≤ w1.heap.size) := Lib.hid HR1.out.2.size
  clear hb2
  generalize w1.heap.size = fb at *
  have HK2 := Lib.hid hk2
  have k0 := cell_of_heap (v := .int .i64 0) hk2 (j := 0) rfl
  have k1 := cell_of_heap (v := .int .i64 0) hk2 (j := 1) rfl
  clear hk2 HR1
  go_upto_region 5 with (first
    | (go_at_call 16; refine (HO1 _).out.mono ?_; rintro e w3 ⟨rfl, hb⟩
       have HR3 := Lib.hid (HR2.out.below hb)
       have HK3 := Lib.hid ((hb.block _ (lt_of_heap HK2.out)).trans HK2.out)
       have HB3 := Lib.hid (HB2.out.trans (hb.mono HB2.out.size))
       clear hb k0 k1)
    | (go_at_call 18; refine (find_in HR3.out (l := exL1) (by intro x hx; simp [exL1] at hx; omega) (by decide) 0 (by decide)).mono ?_
       rintro e w4 ⟨⟨m, hm, he⟩, hb⟩
       obtain rfl := hm.unique ex1_first
       obtain rfl : e = .returned (.tuple #[.agg #[.int .i64 1, .int .i64 3], .bool true, .int .i64 0]) := he
       have HK4 := Lib.hid ((hb.block _ (lt_of_heap HK3.out)).trans HK3.out)
       have HB4 := Lib.hid (HB3.out.trans (hb.mono HB3.out.size))
       clear hb hm))
  have hb5 : Below w4.heap.size w4 (w4.alloc (.cells #[.int .i64 1, .int .i64 3] 43)) := (Below.refl _ _).alloc (Nat.le_refl _) _
  have hk5 := heap_alloc_new w4 (.cells #[.int .i64 1, .int .i64 3] 43)
  generalize (w4.alloc (.cells #[.int .i64 1, .int .i64 3] 43)) = W5 at *
  have HB5 := Lib.hid (HB4.out.trans (hb5.mono HB4.out.size))
  have HK5 := Lib.hid (And.intro ((hb5.block _ (lt_of_heap HK4.out)).trans HK4.out) hk5)
  generalize w4.heap.size = mb at *
  clear hb5 hk5
  go_upto_region 6 with (first
    | (go_at_call 20; refine (HC2 _).out.mono ?_; rintro e w6 ⟨⟨rb2, rfl, hr⟩, hb⟩
       have HR6 := Lib.hid hr
       have HB6 := Lib.hid (HB5.out.trans (hb.mono HB5.out.size))
       have HK6 := Lib.hid (And.intro ((hb.block _ (lt_of_heap HK5.out.1)).trans HK5.out.1) ((hb.block _ (lt_of_heap HK5.out.2)).trans HK5.out.2))
       have k0 := cell_of_heap (v := .int .i64 0) HK6.out.1 (j := 0) rfl
       have k1 := cell_of_heap (v := .int .i64 0) HK6.out.1 (j := 1) rfl
       have kf := frozen_of_heap HK6.out.1
       clear hb hr))
  have hm1 : Mut (· = fb) w6 (w6.setCell ⟨fb, 0, none⟩ (.int .i64 0)) := Mut.setCell _ _ _ _ rfl
  have hm2 : Mut (· = fb) w6 ((w6.setCell ⟨fb, 0, none⟩ (.int .i64 0)).setCell ⟨fb, 1, none⟩ (.int .i64 0)) := hm1.then (Mut.setCell (S := (· = fb)) _ _ _ _ rfl)
  have hk7 := heap_setCell_same _ fb 1 _ _ (.int .i64 0) (heap_setCell_same w6 fb 0 _ _ (.int .i64 0) HK6.out.1)
  generalize ((w6.setCell ⟨fb, 0, none⟩ (.int .i64 0)).setCell ⟨fb, 1, none⟩ (.int .i64 0)) = w7 at *
  have HR7 := Lib.hid (HR6.out.mut hm2 fun k hk => by rw [hk]; exact ⟨_, _, _, HK6.out.1, by decide, by decide, by decide⟩)
  have hne : mb ≠ fb := fun e => by have h1 := HK6.out.1; have h2 := HK6.out.2; rw [e, h1] at h2; injection h2 with h2; injection h2 with _ h2 _; exact absurd h2 (by decide)
  have HK7 : Hid (w7.heap[fb]? = some (.cells #[.int .i64 0, .int .i64 0] 30 (0, 0)) ∧ w7.heap[mb]? = some (.cells #[.int .i64 1, .int .i64 3] 43 (0, 0))) := Lib.hid ⟨hk7, (hm2.block _ (lt_of_heap HK6.out.2) hne).trans HK6.out.2⟩
  have HB7 := Lib.hid (HB6.out.trans (hm2.to_below HB6.out.size fun k hk => by rw [hk]; exact HFW.out))
  clear k0 k1 kf hm1 hm2 hk7 hne
  have k0 := cell_of_heap (v := .int .i64 0) HK7.out.1 (j := 0) rfl
  have k1 := cell_of_heap (v := .int .i64 0) HK7.out.1 (j := 1) rfl
  have k2 := cell_of_heap (v := .int .i64 1) HK7.out.2 (j := 0) rfl
  have k3 := cell_of_heap (v := .int .i64 3) HK7.out.2 (j := 1) rfl
  go_wp2_with (first
    | (go_at_call 16; refine (HO2 _).out.mono ?_; rintro e w8 ⟨rfl, hb⟩
       have HR8 := Lib.hid (HR7.out.below hb)
       have HB8 := Lib.hid (HB7.out.trans (hb.mono HB7.out.size))
       clear hb k0 k1)
    | (go_at_call 23; refine (all_is (l := exL2) (by decide) (HR8.out.fi (l := exL2) (by intro x hx; simp [exL2] at hx; omega) (by decide) exF2_first) ex2_all_).mono ?_
       rintro e w9 ⟨A9, C9, he, ho, hb⟩
       obtain rfl : e = .returned (.slice A9 3 C9) := he
       have HM9 := Lib.hid (rdM_own ho rfl)
       have HB9 := Lib.hid (HB8.out.trans (hb.mono HB8.out.size))
       clear hb ho)
    | (go_at_call 38
       refine (eqM_is (ms := [(0, 0), (1, 2), (3, 3)]) C9 3 (HM9.out.below ((Below.refl _ _).alloc (Nat.le_refl _) _)) (rdM_lit w9) (by decide)).mono ?_
       rintro e w10 ⟨rfl, hb⟩
       have HB10 : Hid (Below w.heap.size w w10) := Lib.hid ((HB9.out.alloc HB9.out.size _).trans (hb.mono (HB9.out.alloc HB9.out.size _).size))
       clear hb))
  go_ret
  exact ⟨rfl, HB10.out⟩
end Go.Proofs.Ytcajnmhbkjngbaa

