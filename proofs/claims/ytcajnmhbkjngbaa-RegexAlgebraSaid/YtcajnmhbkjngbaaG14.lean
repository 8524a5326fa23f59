/- Texts on regular expressions, merged: U1, U2, U3, U4. -/
import Derived.Test.YtcajnmhbkjngbaaG13
/- set.has. -/
namespace Go.Proofs.Ytcajnmhbkjngbaa
open Go.RowKit Go.Shelf
set_option maxRecDepth 100000

def inP (c : Int) (p : Int × Int) : Bool := decide (p.1 ≤ c) && decide (c ≤ p.2)
theorem has1_is {w : World} {B3 : Nat} {c : Int} (h3 : w.cell? ⟨B3, 0, none⟩ = some (.int .i32 c)) (hlt : B3 < w.heap.size) (p : Int × Int) :
    Calls Try.prog 96 #[.agg #[.int .i32 p.1, .int .i32 p.2], .pointer (some ⟨B3, 0, none⟩)] w fun e w' => e = .returned (.bool (inP c p)) ∧ Below w.heap.size w w' := by
  obtain ⟨a, b⟩ := p
  simp only
  have HE : Hid (inP c (a, b) = (decide (a ≤ c) && decide (c ≤ b))) := Lib.hid rfl
  have HB : Hid (Below w.heap.size w (w.alloc (.cells #[.int .i32 a, .int .i32 b] 151))) := Lib.hid ((Below.refl _ _).alloc (Nat.le_refl _) _)
  by_cases k1 : a ≤ c
  · go_enter Try.func96, Try.ntmps96
    go_wp2
    go_ret
    exact ⟨by rw [HE.out, decide_eq_true k1]; simp, HB.out⟩
  · have k2 : c < a := by omega
    go_enter Try.func96, Try.ntmps96
    go_wp2
    go_ret
    exact ⟨by rw [HE.out, decide_eq_false (show ¬ a ≤ c by omega)]; simp, HB.out⟩
theorem idxS_is {w : World} {A : Option Addr} {l : List (Int × Int)} (C : Nat) (hr : RdP w A l) (hl : l.length ≤ 100000000) {B3 : Nat} {p : Int × Int → Bool} (hp : ∀ W, Below w.heap.size w W → ∀ x : Int × Int, Calls Try.prog 96 #[.agg #[.int .i32 x.1, .int .i32 x.2], .pointer (some ⟨B3, 0, none⟩)] W fun e w' => e = .returned (.bool (p x)) ∧ Below W.heap.size W w') :
    Calls Try.prog 114 #[.slice A l.length C, .func (.func 96) #[] #[.pointer (some ⟨B3, 0, none⟩)]] w fun e w' => (∃ i : Int, e = .returned (.int .i64 i) ∧ (l.any p = true ↔ 0 ≤ i)) ∧ Below w.heap.size w w' := by
  have HR := Lib.hid hr
  have HP := Lib.hid hp
  clear hr hp
  go_enter Try.func114, Try.ntmps114
  go_wp2
  go_loopw [8] (fun v wr => ∃ j : Nat, j ≤ l.length ∧ v = .int .i64 j ∧ Hid ((l.take j).any p = false) ∧ Hid (Below w.heap.size w wr)) (fun i _ => l.length - (intOf i).toNat)
  case atStart => exact ⟨0, Nat.zero_le _, rfl, Lib.hid (by simp), Lib.hid (Below.refl _ _)⟩
  case round =>
    obtain ⟨j, hj, rfl, HT, HB⟩ := hrel
    by_cases hlt : j < l.length
    · obtain ⟨g, hA, hg, c1, c2⟩ := (HR.out.below HB.out).rd j hlt
      have q0 : (0 : Int) ≤ (j : Int) := by omega
      have q1 : (j : Int) < (l.length : Int) := by omega
      have HX : Hid (l.take (j + 1) = l.take j ++ [l[j]'hlt] ∧ l[j]'hlt ∈ l) := Lib.hid ⟨List.take_succ_eq_append_getElem hlt, List.getElem_mem _⟩
      rw [Nat.mul_comm] at c1 c2
      rw [hA]
      clear hA
      generalize l[j]'hlt = y at *
      have HY := Lib.hid (HP.out wr HB.out y)
      obtain ⟨ya, yb⟩ := y
      simp only at c1 c2 HY
      by_cases he : p (ya, yb) = true
      · have HY2 : Hid (Calls Try.prog 96 #[.agg #[.int .i32 ya, .int .i32 yb], .pointer (some ⟨B3, 0, none⟩)] wr fun e w' => e = .returned (.bool true) ∧ Below wr.heap.size wr w') := Lib.hid (by have := HY.out; rw [he] at this; exact this)
        have HAN : Hid (l.any p = true) := Lib.hid (List.any_eq_true.2 ⟨_, HX.out.2, he⟩)
        clear HY he
        go_wp2_with (go_at_call 96; refine HY2.out.mono ?_; rintro e w1 ⟨rfl, hb⟩; have HB2 := Lib.hid (HB.out.trans (hb.mono HB.out.size)); clear hb)
        go_ret
        exact ⟨⟨_, rfl, fun _ => q0, fun _ => HAN.out⟩, HB2.out⟩
      · have he2 : p (ya, yb) = false := by simpa using he
        have HY2 : Hid (Calls Try.prog 96 #[.agg #[.int .i32 ya, .int .i32 yb], .pointer (some ⟨B3, 0, none⟩)] wr fun e w' => e = .returned (.bool false) ∧ Below wr.heap.size wr w') := Lib.hid (by have := HY.out; rw [he2] at this; exact this)
        have HE : Hid ((l.take (j + 1)).any p = false) := Lib.hid (by rw [HX.out.1, List.any_append, HT.out]; simp [he2])
        clear he he2 HY
        go_wp2_with (go_at_call 96; refine HY2.out.mono ?_; rintro e w1 ⟨rfl, hb⟩; have HB2 := Lib.hid (HB.out.trans (hb.mono HB.out.size)); clear hb)
        go_roundw
        case rel => exact ⟨j + 1, by omega, by go_num, HE, HB2⟩
        case measure => simp [intOf]; omega
    · obtain rfl : j = l.length := by omega
      rw [List.take_length] at HT
      clear hlt hj
      go_wp2
      go_ret
      exact ⟨⟨_, rfl, ⟨fun h => (by rw [HT.out] at h; cases h), fun h => absurd h (by decide)⟩⟩, HB.out⟩
theorem contS_is {w : World} {A : Option Addr} {l : List (Int × Int)} (C : Nat) (hr : RdP w A l) (hl : l.length ≤ 100000000) {B3 : Nat} {p : Int × Int → Bool} (hp : ∀ W, Below w.heap.size w W → ∀ x : Int × Int, Calls Try.prog 96 #[.agg #[.int .i32 x.1, .int .i32 x.2], .pointer (some ⟨B3, 0, none⟩)] W fun e w' => e = .returned (.bool (p x)) ∧ Below W.heap.size W w') :
    Calls Try.prog 95 #[.slice A l.length C, .func (.func 96) #[] #[.pointer (some ⟨B3, 0, none⟩)]] w fun e w' => e = .returned (.bool (l.any p)) ∧ Below w.heap.size w w' := by
  have HC := Lib.hid (idxS_is C hr hl hp)
  clear hr hp
  generalize l.any p = b at *
  go_enter Try.func95, Try.ntmps95
  go_wp2_with (go_at_call 114; refine HC.out.mono ?_; rintro e w1 ⟨⟨i, rfl, hi⟩, hb⟩
               have HI := Lib.hid hi
               have HB := Lib.hid hb
               clear hi hb)
  go_ret
  refine ⟨?_, HB.out⟩
  have h1 : b = decide (0 ≤ i) := by
    have hi := HI.out
    cases b with
    | false => exact (decide_eq_false fun h => by have := hi.2 h; cases this).symm
    | true => exact (decide_eq_true (hi.1 rfl)).symm
  rw [h1]
  rfl
set_option maxHeartbeats 2000000 in
theorem has_is {w : World} {A : Option Addr} (s : CSet) (C : Nat) (hr : RdP w A s.spans) (hl : s.spans.length ≤ 100000000) (c : Int) :
    Calls Try.prog 75 #[.agg #[.slice A s.spans.length C, .bool s.inv], .int .i32 c] w fun e w' => e = .returned (.bool (s.has c)) ∧ Below w.heap.size w w' := by
  obtain ⟨l, inv⟩ := s
  simp only at hr hl ⊢
  have hE : CSet.has ⟨l, inv⟩ c = if inv then !(l.any (inP c)) && decide (c ≠ 10) else l.any (inP c) := rfl
  have HE := Lib.hid hE
  clear hE
  have hmf : ∀ (fn : Fn) (first cap : Array Value) (w : World), (Instr.makeFunc fn first cap).run Try.prog w = .ok (.func fn first cap) w := fun _ _ _ _ => rfl
  have HB : Hid (Below w.heap.size w ((w.alloc (.cells #[.slice A l.length C, .bool inv] 97)).alloc (.cells #[.int .i32 c] 21))) := Lib.hid (((Below.refl _ _).alloc (Nat.le_refl _) _).alloc (by simp) _)
  have HK := Lib.hid (heap2 w (.cells #[.slice A l.length C, .bool inv] 97) (.cells #[.int .i32 c] 21))
  have HC := Lib.hid (contS_is C (hr.below HB.out) hl (B3 := w.heap.size + 1) (p := inP c) fun W hW x => has1_is (cell_of_heap (v := .int .i32 c) ((hW.block _ (lt_of_heap HK.out.2)).trans HK.out.2) (j := 0) rfl) (lt_of_heap ((hW.block _ (lt_of_heap HK.out.2)).trans HK.out.2)) x)
  clear hr
  generalize l.any (inP c) = b at *
  cases inv
  · replace HE : Hid (CSet.has ⟨l, false⟩ c = b) := HE
    go_enter Try.func75, Try.ntmps75
    go_wp2_with (go_at_call 95; refine HC.out.mono ?_; rintro e w1 ⟨rfl, hb⟩
                 have HB1 := Lib.hid (HB.out.trans (hb.mono HB.out.size))
                 have hk0 := (hb.block _ (lt_of_heap HK.out.1)).trans HK.out.1
                 have hk1 := (hb.block _ (lt_of_heap HK.out.2)).trans HK.out.2
                 have d0 := cell_of_heap (v := .slice A l.length C) hk0 (j := 0) rfl
                 have d1 := cell_of_heap (v := .bool false) hk0 (j := 1) rfl
                 have d2 := cell_of_heap (v := .int .i32 c) hk1 (j := 0) rfl
                 clear hb hk0 hk1)
    go_ret
    refine ⟨?_, HB1.out⟩
    rw [HE.out]
    rfl
  · replace HE : Hid (CSet.has ⟨l, true⟩ c = (!b && decide (c ≠ 10))) := HE
    cases b
    · by_cases h10 : c = 10
      · have k1 : (c != 10) = false := by simpa using h10
        replace HE : Hid (CSet.has ⟨l, true⟩ c = false) := Lib.hid (by rw [HE.out]; simp [h10])
        clear h10
        go_enter Try.func75, Try.ntmps75
        go_wp2_with (go_at_call 95; refine HC.out.mono ?_; rintro e w1 ⟨rfl, hb⟩
                     have HB1 := Lib.hid (HB.out.trans (hb.mono HB.out.size))
                     have hk0 := (hb.block _ (lt_of_heap HK.out.1)).trans HK.out.1
                     have hk1 := (hb.block _ (lt_of_heap HK.out.2)).trans HK.out.2
                     have d0 := cell_of_heap (v := .slice A l.length C) hk0 (j := 0) rfl
                     have d1 := cell_of_heap (v := .bool true) hk0 (j := 1) rfl
                     have d2 := cell_of_heap (v := .int .i32 c) hk1 (j := 0) rfl
                     clear hb hk0 hk1)
        go_ret
        refine ⟨?_, HB1.out⟩
        rw [HE.out]
        rfl
      · have k1 : (c != 10) = true := by simpa using h10
        replace HE : Hid (CSet.has ⟨l, true⟩ c = true) := Lib.hid (by rw [HE.out]; simp [h10])
        go_enter Try.func75, Try.ntmps75
        go_wp2_with (go_at_call 95; refine HC.out.mono ?_; rintro e w1 ⟨rfl, hb⟩
                     have HB1 := Lib.hid (HB.out.trans (hb.mono HB.out.size))
                     have hk0 := (hb.block _ (lt_of_heap HK.out.1)).trans HK.out.1
                     have hk1 := (hb.block _ (lt_of_heap HK.out.2)).trans HK.out.2
                     have d0 := cell_of_heap (v := .slice A l.length C) hk0 (j := 0) rfl
                     have d1 := cell_of_heap (v := .bool true) hk0 (j := 1) rfl
                     have d2 := cell_of_heap (v := .int .i32 c) hk1 (j := 0) rfl
                     clear hb hk0 hk1)
        go_ret
        refine ⟨?_, HB1.out⟩
        rw [HE.out]
        rfl
    · go_enter Try.func75, Try.ntmps75
      go_wp2_with (go_at_call 95; refine HC.out.mono ?_; rintro e w1 ⟨rfl, hb⟩
                   have HB1 := Lib.hid (HB.out.trans (hb.mono HB.out.size))
                   have hk0 := (hb.block _ (lt_of_heap HK.out.1)).trans HK.out.1
                   have hk1 := (hb.block _ (lt_of_heap HK.out.2)).trans HK.out.2
                   have d0 := cell_of_heap (v := .slice A l.length C) hk0 (j := 0) rfl
                   have d1 := cell_of_heap (v := .bool true) hk0 (j := 1) rfl
                   have d2 := cell_of_heap (v := .int .i32 c) hk1 (j := 0) rfl
                   clear hb hk0 hk1)
      go_ret
      refine ⟨?_, HB1.out⟩
      rw [HE.out]
      rfl
end Go.Proofs.Ytcajnmhbkjngbaa

/- line; empty. -/
namespace Go.Proofs.Ytcajnmhbkjngbaa
open Go.RowKit Go.Shelf
set_option maxRecDepth 100000

theorem atM_beg (l : List Int) (i : Nat) : begL l i = (decide ((i : Int) = 0) || decide ((atM l ((i : Int) - 1)).1 = 10)) := by
  unfold begL atM
  by_cases h : i = 0
  · subst h; simp
  · have e : ((i : Int) - 1).toNat = i - 1 := by omega
    have e2 : ¬ ((i : Int) = 0) := by omega
    by_cases h2 : i - 1 < l.length
    · rw [if_pos ⟨by omega, by omega⟩, e]
      simp [h, List.getElem?_eq_getElem h2, List.getD_eq_getElem?_getD]
    · rw [if_neg (by omega), List.getElem?_eq_none (by omega)]
      simp [h]
theorem atM_fin (l : List Int) (i : Nat) : finL l i = (!decide ((atM l (i : Int)).2 = 0) || decide ((atM l (i : Int)).1 = 10)) := by
  unfold finL atM
  by_cases h2 : i < l.length
  · rw [if_pos ⟨by omega, by omega⟩]
    have e3 : ¬ l.length ≤ i := by omega
    simp [List.getD_eq_getElem?_getD, h2, e3]
  · rw [if_neg (by omega)]
    have e3 : l.length ≤ i := by omega
    simp [e3]
theorem ibeq (a b : Int) : (a == b) = decide (a = b) := by by_cases h : a = b <;> simp [h]
set_option maxHeartbeats 1000000 in
theorem line_is (l : List Int) (hc : ChOk l) (hl : l.length ≤ 1000000) (i : Nat) (hi : i ≤ 1000000) (w : World) : Calls Try.prog 71 #[strV l, .int .i64 (i : Nat)] w fun e w' => e = .returned (.tuple #[.bool (begL l i), .bool (finL l i)]) ∧ Below w.heap.size w w' := by
  have HB : Hid (Below w.heap.size w (w.alloc (.cells #[.string (packV l).1, .bool (packV l).2] 39))) := Lib.hid ((Below.refl _ _).alloc (Nat.le_refl _) _)
  have HK := Lib.hid (heap_alloc_new w (.cells #[.string (packV l).1, .bool (packV l).2] 39))
  have H1 := fun W => Lib.hid (at_is l hc hl ((i : Int) - 1) W)
  have H2 := fun W => Lib.hid (at_is l hc hl (i : Int) W)
  rw [atM_beg, atM_fin]
  unfold strV at H1 H2 ⊢
  generalize (packV l).1 = c at *
  generalize (packV l).2 = wd at *
  generalize (atM l ((i : Int) - 1)).1 = v1 at *
  generalize (atM l ((i : Int) - 1)).2 = e1 at *
  generalize (atM l (i : Int)).1 = v2 at *
  generalize (atM l (i : Int)).2 = e2 at *
  clear hc hl
  have t1 : True := trivial
  go_enter Try.func71, Try.ntmps71
  go_wp2_with (first
    | (go_at_call 74; have _t := t1; clear _t; refine (H1 _).out.mono ?_; rintro e w1 ⟨rfl, hb⟩
       have HB1 := Lib.hid (HB.out.trans (hb.mono HB.out.size))
       have hk0 := (hb.block _ (lt_of_heap HK.out)).trans HK.out
       have d0 := cell_of_heap (v := .string c) hk0 (j := 0) rfl
       have d1 := cell_of_heap (v := .bool wd) hk0 (j := 1) rfl
       clear hb hk0 t1)
    | (go_at_call 74; refine (H2 _).out.mono ?_; rintro e w2 ⟨rfl, hb⟩
       have HB2 := Lib.hid (HB1.out.trans (hb.mono HB1.out.size))
       clear hb))
  all_goals go_ret2
  all_goals refine ⟨?_, HB2.out⟩
  all_goals clear H1 H2 HB HK HB1 HB2 d0 d1
  all_goals simp_all [ibeq]
end Go.Proofs.Ytcajnmhbkjngbaa

/- Threads in memory; empty. -/
namespace Go.Proofs.Ytcajnmhbkjngbaa
open Go.RowKit Go.Shelf
set_option maxRecDepth 100000

/-- An expression in memory, laid open. -/
structure RxO (w : World) (rb : Nat) (s : ByteArray) (t : Nat) (A : Option Addr) (C : Nat) (code : List CI) : Prop where
  blk : w.heap[rb]? = some (.cells #[.string s, .int .i64 (t : Nat), .slice A code.length C] 101 (0, 0))
  rdc : RdC w A code
  small : code.length ≤ 20001
  nb : NBd code code.length
theorem RxO.below {w w' : World} {rb : Nat} {s : ByteArray} {t : Nat} {A : Option Addr} {C : Nat} {code : List CI} (h : RxO w rb s t A C code) (hb : Below w.heap.size w w') : RxO w' rb s t A C code :=
  ⟨(hb.block _ (lt_of_heap h.blk)).trans h.blk, h.rdc.below hb, h.small, h.nb⟩
theorem RxO.c2 {w : World} {rb : Nat} {s : ByteArray} {t : Nat} {A : Option Addr} {C : Nat} {code : List CI} (h : RxO w rb s t A C code) : w.cell? ⟨rb, 2, none⟩ = some (.slice A code.length C) := cell_of_heap h.blk rfl
theorem RxO.c0 {w : World} {rb : Nat} {s : ByteArray} {t : Nat} {A : Option Addr} {C : Nat} {code : List CI} (h : RxO w rb s t A C code) : w.cell? ⟨rb, 0, none⟩ = some (.string s) := cell_of_heap h.blk rfl
theorem RxO.c1 {w : World} {rb : Nat} {s : ByteArray} {t : Nat} {A : Option Addr} {C : Nat} {code : List CI} (h : RxO w rb s t A C code) : w.cell? ⟨rb, 1, none⟩ = some (.int .i64 (t : Nat)) := cell_of_heap h.blk rfl
theorem Rx.open_ {w : World} {rb : Nat} {s : ByteArray} {n : Nd} {t : Nat} (h : Rx w rb s n t) : ∃ A C code, RxO w rb s t A C code ∧ Auto (toIn (riL code)) n := by
  obtain ⟨A, C, code, h1, h2, h3, h4, h5⟩ := h.ex
  exact ⟨A, C, code, ⟨h1, h2, h4, h5⟩, h3⟩
/-- Threads in memory. -/
structure ThAt (B : Nat) (w : World) (tb : Nat) (oA : Option Addr) (oC : Nat) (fA : Option Addr) (fC : Nat) (ord : List Nat) (fr : List Int) : Prop where
  blk : w.heap[tb]? = some (.cells #[.slice oA ord.length oC, .slice fA fr.length fC] 133 (0, 0))
  o : w.ownsRow B 3 1 (.slice oA ord.length oC) ord.length (ints (nats ord))
  f : w.ownsRow B 3 1 (.slice fA fr.length fC) fr.length (ints fr)
  ne : ∀ a b, oA = some a → fA = some b → a.block ≠ b.block
  le : B ≤ tb
variable {B tb oC fC : Nat} {w w' : World} {oA fA : Option Addr} {ord : List Nat} {fr : List Int}
theorem ThAt.below (h : ThAt B w tb oA oC fA fC ord fr) (hb : Below w.heap.size w w') : ThAt B w' tb oA oC fA fC ord fr :=
  ⟨(hb.block _ (lt_of_heap h.blk)).trans h.blk, own_below h.o hb, own_below h.f hb, h.ne, h.le⟩
theorem ThAt.t0 (h : ThAt B w tb oA oC fA fC ord fr) : w.cell? ⟨tb, 0, none⟩ = some (.slice oA ord.length oC) := cell_of_heap h.blk rfl
theorem ThAt.t1 (h : ThAt B w tb oA oC fA fC ord fr) : w.cell? ⟨tb, 1, none⟩ = some (.slice fA fr.length fC) := cell_of_heap h.blk rfl
/-- A place is written. -/
theorem ThAt.put (h : ThAt B w tb oA oC fA fC ord fr) {i : Nat} (hi : i < fr.length) (v : Int) :
    ∃ g, fA = some ⟨g, 0, none⟩ ∧ w.cell? ⟨g, i, none⟩ = some (.int .i64 fr[i]) ∧ w.frozen? ⟨g, i, none⟩ = false ∧ ThAt B (w.setCell ⟨g, i, none⟩ (.int .i64 v)) tb oA oC fA fC ord (fr.set i v) ∧ Mut (· = g) w (w.setCell ⟨g, i, none⟩ (.int .i64 v)) ∧ B ≤ g ∧ g < w.heap.size := by
  obtain ⟨g, hA, hBg, hg, hcell, hfz, hput⟩ := own_put h.f i (by omega) (.int .i64 v)
  have hm : Mut (· = g) w (w.setCell ⟨g, i, none⟩ (.int .i64 v)) := Mut.setCell _ _ _ _ rfl
  obtain ⟨cur, hcg⟩ := own_ty h.f _ hA
  refine ⟨g, hA, ?_, hfz, ⟨?_, own_mut2 h.o hm fun a ha e => h.ne a _ ha hA e, ?_, h.ne, h.le⟩, hm, hBg, hg⟩
  · rw [hcell]; simp [ints, List.getElem?_eq_getElem hi]
  · rw [List.length_set]; exact (hm.block _ (lt_of_heap h.blk) fun e => ne_ty hcg h.blk (by decide) e.symm).trans h.blk
  · rw [List.length_set]
    have e : ints (fr.set i v) = (ints fr).set i (.int .i64 v) := by simp [ints]
    rw [e]; exact hput
def fillM (n j : Nat) : List Int := List.replicate j (-1) ++ List.replicate (n - j) 0
theorem fillM_len {n j : Nat} (h : j ≤ n) : (fillM n j).length = n := by simp [fillM]; omega
theorem fillM_set {n j : Nat} (h : j < n) : (fillM n j).set j (-1) = fillM n (j + 1) := by
  unfold fillM
  have h1 : (List.replicate j (-1 : Int)).length = j := by simp
  rw [List.set_append_right _ _ (by omega), h1, Nat.sub_self]
  obtain ⟨m, hm⟩ : ∃ m, n - j = m + 1 := ⟨n - j - 1, by omega⟩
  rw [hm, List.replicate_succ, List.set_cons_zero, List.replicate_succ', show n - (j + 1) = m by omega, List.append_assoc]
  rfl
theorem fillM_end (n : Nat) : fillM n n = List.replicate n (-1) := by simp [fillM]
theorem made_int (n : Nat) : (madeCells #[.int .i64 0] (n * 1)).toList = ints (List.replicate n 0) := by
  simp [madeCells, ints]
  apply List.ext_getElem
  · simp
  · intro i h1 h2
    simp [Nat.mod_one]
set_option maxHeartbeats 2000000 in
theorem empty_is {rb : Nat} {s : ByteArray} {t : Nat} {A : Option Addr} {C : Nat} {code : List CI} (h : RxO w rb s t A C code) : Calls Try.prog 72 #[.pointer (some ⟨rb, 0, none⟩)] w fun e w' => ∃ tb fA fC, e = .returned (.pointer (some ⟨tb, 0, none⟩)) ∧ ThAt w.heap.size w' tb none 0 fA fC [] (List.replicate code.length (-1)) ∧ Below w.heap.size w w' := by
  obtain ⟨i0, hi, hz0, hz1, hz2⟩ := info_parts info_int
  have c2 := h.c2
  have hn := h.small
  clear h
  generalize code.length = n at *
  go_enter Try.func72, Try.ntmps72
  go_wp2_with (first
    | (at_make
       refine wpList_make_full _ rfl _ _ _ rfl w.heap.size 3 i0 (.int .i64 0) 1 Try.underlying24 hi hz0 hz1 .i64 .i64 _ _ n rfl rfl rfl rfl ?c1 ?c2 (Nat.le_refl _) ?_
       case c1 => rw [hz2]; omega
       case c2 => unfold maxLen; omega
       intro w2 ho hg
       have hb2 : Below w.heap.size w w2 := (Below.refl _ _).grown hg (Nat.le_refl _) (fun k hk => by cases hk)
       have HO : Hid (ThAt w.heap.size (w2.alloc (.cells #[.slice none 0 0, .slice (some ⟨w.heap.size, 0, none⟩) n n] 133)) w2.heap.size none 0 (some ⟨w.heap.size, 0, none⟩) n [] (fillM n 0) ∧ Below w.heap.size w (w2.alloc (.cells #[.slice none 0 0, .slice (some ⟨w.heap.size, 0, none⟩) n n] 133))) := Lib.hid (by
         have e1 : fillM n 0 = List.replicate n 0 := by simp [fillM]
         have e2 : (fillM n 0).length = n := fillM_len (Nat.zero_le _)
         have hba : Below w2.heap.size w2 (w2.alloc (.cells #[.slice none 0 0, .slice (some ⟨w.heap.size, 0, none⟩) n n] 133)) := (Below.refl _ _).alloc (Nat.le_refl _) _
         refine ⟨⟨?_, World.ownsRow_nil _ _ _ _, ?_, fun a b ha => (by cases ha), hb2.size⟩, hb2.trans (hba.mono hb2.size)⟩
         · rw [e2]; exact heap_alloc_new w2 _
         · rw [e2, e1, ← made_int]; exact own_below ho hba)
       clear ho hg hb2))
  go_loopw [18] (fun p wr => ∃ j : Nat, j ≤ n ∧ p = .int .i64 (j : Nat) ∧ Hid (ThAt w.heap.size wr w2.heap.size none 0 (some ⟨w.heap.size, 0, none⟩) n [] (fillM n j) ∧ Below w.heap.size w wr)) (fun i _ => n - (intOf i).toNat)
  case atStart => exact ⟨0, Nat.zero_le _, rfl, HO⟩
  case round =>
    obtain ⟨j, hj, rfl, HR⟩ := hrel
    clear HO
    have t1 := HR.out.1.t1
    rw [fillM_len hj] at t1
    by_cases hlt : j < n
    · have q : (j : Int) < (n : Int) := by omega
      obtain ⟨g, hA, hcell, hfz, hput, hm, hBg, hg⟩ := HR.out.1.put (i := j) (by rw [fillM_len hj]; exact hlt) (-1)
      obtain rfl : w.heap.size = g := by injection hA with hA; injection hA
      rw [fillM_set hlt] at hput
      have HP : Hid (ThAt w.heap.size (wr.setCell ⟨w.heap.size, j, none⟩ (.int .i64 (-1))) w2.heap.size none 0 (some ⟨w.heap.size, 0, none⟩) n [] (fillM n (j + 1)) ∧ Below w.heap.size w (wr.setCell ⟨w.heap.size, j, none⟩ (.int .i64 (-1)))) := Lib.hid ⟨hput, HR.out.2.trans (hm.to_below HR.out.2.size fun k hk => hk ▸ hBg)⟩
      obtain ⟨u, hc3⟩ : ∃ u, wr.cell? ⟨w.heap.size, j, none⟩ = some u := ⟨_, hcell⟩
      clear hcell hA hput hm hBg hlt
      go_wp2
      go_roundw
      case rel => exact ⟨j + 1, by omega, by go_num, HP⟩
      case measure => simp [intOf]; omega
    · obtain rfl : j = n := by omega
      clear hlt hj
      rw [fillM_end] at HR
      go_wp2
      go_ret
      exact ⟨_, _, _, rfl, HR.out.1, HR.out.2⟩
end Go.Proofs.Ytcajnmhbkjngbaa

/- add: what its walk goes by. -/
namespace Go.Proofs.Ytcajnmhbkjngbaa
open Go.RowKit Go.Shelf

/-- Some elements, laid in a block of their own, are appended to a row of the call's own. -/
theorem app_genm {t e : TypeId} {z : Value} {size bytes : Nat} (ht : Try.prog.underlying t = some (.slice e)) (hi : (Try.prog.info? e).map (fun i => (i.zero, i.size, i.bytes)) = some (some z, size, bytes)) (hzs : z.cells.size = size) (hsz : 0 < size) (hb100 : bytes ≤ 1000)
    {ops : Array Oper} {rest : List Oper} {o : Oper} {a : Act} {Q : Exit → Act → World → Prop} (hgd : o.guard = none) (s x : Operand)
    (ho : o.op = .call { callee := .builtin .append, args := #[s, x], argTypes := #[t, t] }) {w : World} (B : Nat) (A : Option Addr) (C n m : Nat) (xs : List Value) (vs : Array Value)
    (hs : a.eval s = .slice A n C) (hown : w.ownsRow B e size (.slice A n C) n xs) {p : Nat} (hx : a.eval x = .slice (some ⟨p, 0, none⟩) m m) (hp : p = w.heap.size)
    (hv : vs.size = m * size) (h1 : ∀ u ∈ vs.toList, u.oneCell' = true) (hn : n ≤ 100000000) (hm10 : m ≤ 10) (hm0 : 0 < m) (hB : B ≤ w.heap.size)
    (h : ∀ A1 C1 w', w'.ownsRow B e size (.slice A1 (n + m) C1) (n + m) (xs ++ vs.toList) → Mut (fun k => ∃ a, A = some a ∧ a.block = k) w w' → (∀ a1, A1 = some a1 → (∃ a, A = some a ∧ a.block = a1.block) ∨ w.heap.size ≤ a1.block) → wpList Try.prog ops Q rest (a.put o.dst (.slice A1 (n + m) C1)) w') :
    wpList Try.prog ops Q (o :: rest) a (w.alloc (.cells vs e)) := by
  subst hp
  obtain ⟨i0, hi0, hz0, hz1, hz2⟩ := info_parts hi
  have ba : Below w.heap.size w (w.alloc (.cells vs e)) := (Below.refl _ _).alloc (Nat.le_refl _) _
  refine wpList_append_own_at _ hgd s x t ho B e i0 z size bytes ht hi0 hz0 hz1 hz2 hzs hsz (.slice A n C) n xs hs (own_below hown ba) ⟨w.heap.size, 0, none⟩ m m vs.toList hx (by simp [hv]) ?c1 h1 ?c2 ?c3 (Nat.le_trans hB ba.size) ?_
  case c1 => exact World.news_of_block (cs := vs) (t := e) (fr := (0, 0)) (heap_alloc_new w _)
  case c2 => simp only [maxLen]; omega
  case c3 => have := Nat.mul_le_mul (show n + m ≤ 100000010 by omega) hb100; omega
  intro v1 w1 hown1 hgrow _ hat
  obtain ⟨A1, C1, rfl⟩ := own_slice hown1
  refine h A1 C1 w1 hown1 ((Mut.of_below ba).then (Mut.of_grown hgrow fun k hk => .inl (ownB hk))) fun a1 ha1 => ?_
  subst ha1
  rcases hat with h5 | h5
  · exact .inl (ownB (h5.symm.trans rfl))
  · right
    have h5 : some a1.block = some (w.alloc (.cells vs e)).heap.size := h5
    injection h5 with h5
    rw [h5]
    exact ba.size
/-- While an instruction is added: the threads, and the stack. -/
structure AdS (B : Nat) (w : World) (tb : Nat) (oA : Option Addr) (oC : Nat) (fA : Option Addr) (fC : Nat) (ord : List Nat) (fr : List Int) (sA : Option Addr) (sC : Nat) (stack : List Nat) : Prop where
  th : ThAt B w tb oA oC fA fC ord fr
  st : w.ownsRow B 3 1 (.slice sA stack.length sC) stack.length (ints (nats stack))
  d1 : ∀ a b, sA = some a → oA = some b → a.block ≠ b.block
  d2 : ∀ a b, sA = some a → fA = some b → a.block ≠ b.block
variable {B tb oC fC sC : Nat} {w w' w1 : World} {oA fA sA : Option Addr} {ord stack : List Nat} {fr : List Int}
theorem own_lt {w : World} {B n C size : Nat} {e : TypeId} {A : Option Addr} {xs : List Value} (h : w.ownsRow B e size (.slice A n C) n xs) : ∀ a, A = some a → a.block < w.heap.size := fun a ha => by
  obtain ⟨cur, hc⟩ := own_ty h a ha
  exact lt_of_heap hc
theorem AdS.below (h : AdS B w tb oA oC fA fC ord fr sA sC stack) (hb : Below w.heap.size w w') : AdS B w' tb oA oC fA fC ord fr sA sC stack := ⟨h.th.below hb, own_below h.st hb, h.d1, h.d2⟩
theorem AdS.pop {i : Nat} (h : AdS B w tb oA oC fA fC ord fr sA sC (stack ++ [i])) : AdS B w tb oA oC fA fC ord fr sA sC stack := by
  refine ⟨h.th, ?_, h.d1, h.d2⟩
  have h1 := own_take h.st (k := stack.length) (by simp) (by simp)
  have e : (ints (nats (stack ++ [i]))).take (stack.length * 1) = ints (nats stack) := by
    simp [ints, nats]
  rw [e] at h1
  exact h1
theorem AdS.put (h : AdS B w tb oA oC fA fC ord fr sA sC stack) {i : Nat} (hi : i < fr.length) (v : Int) :
    ∃ g, fA = some ⟨g, 0, none⟩ ∧ w.cell? ⟨g, i, none⟩ = some (.int .i64 fr[i]) ∧ w.frozen? ⟨g, i, none⟩ = false ∧ AdS B (w.setCell ⟨g, i, none⟩ (.int .i64 v)) tb oA oC fA fC ord (fr.set i v) sA sC stack ∧ Mut (· = g) w (w.setCell ⟨g, i, none⟩ (.int .i64 v)) ∧ B ≤ g ∧ g < w.heap.size := by
  obtain ⟨g, h1, h2, h3, h4, h5, h6, h7⟩ := h.th.put hi v
  exact ⟨g, h1, h2, h3, ⟨h4, own_mut2 h.st h5 fun a ha e => h.d2 a _ ha h1 e, h.d1, h.d2⟩, h5, h6, h7⟩
/-- An instruction is put into the order. -/
theorem AdS.order (h : AdS B w tb oA oC fA fC ord fr sA sC stack) {A1 : Option Addr} {C1 i : Nat} (hm : Mut (fun k => ∃ a, oA = some a ∧ a.block = k) w w1) (ho : w1.ownsRow B 3 1 (.slice A1 (ord.length + 1) C1) (ord.length + 1) (ints (nats ord) ++ [.int .i64 (i : Nat)])) (hl : ∀ a1, A1 = some a1 → (∃ a, oA = some a ∧ a.block = a1.block) ∨ w.heap.size ≤ a1.block) (hB : B ≤ w.heap.size) :
    AdS B (w1.setCell ⟨tb, 0, none⟩ (.slice A1 (ord.length + 1) C1)) tb A1 C1 fA fC (ord ++ [i]) fr sA sC stack ∧ w1.cell? ⟨tb, 0, none⟩ = some (.slice oA ord.length oC) ∧ w1.cell? ⟨tb, 1, none⟩ = some (.slice fA fr.length fC) ∧ w1.frozen? ⟨tb, 0, none⟩ = false ∧ Below B w (w1.setCell ⟨tb, 0, none⟩ (.slice A1 (ord.length + 1) C1)) := by
  have hbk := (hm.block _ (lt_of_heap h.th.blk) fun ⟨a, ha, e⟩ => by obtain ⟨cur, hc⟩ := own_ty h.th.o a ha; exact ne_ty hc h.th.blk (by decide) e).trans h.th.blk
  have hs : Mut (· = tb) w1 (w1.setCell ⟨tb, 0, none⟩ (.slice A1 (ord.length + 1) C1)) := Mut.setCell _ _ _ _ rfl
  have nt : ∀ {n C : Nat} {A : Option Addr} {xs : List Value}, w1.ownsRow B 3 1 (.slice A n C) n xs → ∀ a, A = some a → ¬ a.block = tb := fun h2 a ha e => by obtain ⟨cur, hc⟩ := own_ty h2 a ha; exact ne_ty hc hbk (by decide) e
  have hf1 := own_mut2 h.th.f hm fun a ha ⟨b, hb, e⟩ => h.th.ne b a hb ha e
  have hs1 := own_mut2 h.st hm fun a ha ⟨b, hb, e⟩ => h.d1 a b ha hb e.symm
  have eo : ints (nats (ord ++ [i])) = ints (nats ord) ++ [.int .i64 (i : Nat)] := by simp [ints, nats]
  refine ⟨⟨⟨?_, ?_, own_mut2 hf1 hs (nt hf1), fun a b ha hb => ?_, h.th.le⟩, own_mut2 hs1 hs (nt hs1), fun a b ha hb => ?_, h.d2⟩, cell_of_heap hbk rfl, cell_of_heap hbk rfl, frozen_of_heap hbk 0, ?_⟩
  · rw [heap_setCell_same w1 tb 0 _ _ _ hbk, List.length_append]; rfl
  · rw [eo, List.length_append]; exact own_mut2 ho hs (nt ho)
  · rcases hl a ha with ⟨c, hc, e⟩ | e
    · rw [← e]; exact h.th.ne c b hc hb
    · have := own_lt h.th.f b hb; omega
  · rcases hl b hb with ⟨c, hc, e⟩ | e
    · rw [← e]; exact h.d1 a c ha hc
    · have := own_lt h.st a ha; omega
  · exact (hm.to_below hB fun k ⟨a, ha, e⟩ => e ▸ own_ge h.th.o a ha).trans (hs.to_below (Nat.le_trans hB hm.size) fun k hk => hk ▸ h.th.le)
/-- Instructions are put onto the stack. -/
theorem AdS.push (h : AdS B w tb oA oC fA fC ord fr sA sC stack) {A1 : Option Addr} {C1 m : Nat} (l : List Nat) (hlm : l.length = m) (hm : Mut (fun k => ∃ a, sA = some a ∧ a.block = k) w w1) (ho : w1.ownsRow B 3 1 (.slice A1 (stack.length + m) C1) (stack.length + m) (ints (nats stack) ++ ints (nats l))) (hl : ∀ a1, A1 = some a1 → (∃ a, sA = some a ∧ a.block = a1.block) ∨ w.heap.size ≤ a1.block) (hB : B ≤ w.heap.size) :
    AdS B w1 tb oA oC fA fC ord fr A1 C1 (stack ++ l) ∧ Below B w w1 := by
  have hbk := (hm.block _ (lt_of_heap h.th.blk) fun ⟨a, ha, e⟩ => by obtain ⟨cur, hc⟩ := own_ty h.st a ha; exact ne_ty hc h.th.blk (by decide) e).trans h.th.blk
  have eo : ints (nats (stack ++ l)) = ints (nats stack) ++ ints (nats l) := by simp [ints, nats]
  refine ⟨⟨⟨hbk, own_mut2 h.th.o hm fun a ha ⟨b, hb, e⟩ => h.d1 b a hb ha e, own_mut2 h.th.f hm fun a ha ⟨b, hb, e⟩ => h.d2 b a hb ha e, h.th.ne, h.th.le⟩, ?_, fun a b ha hb => ?_, fun a b ha hb => ?_⟩, hm.to_below hB fun k ⟨a, ha, e⟩ => e ▸ own_ge h.st a ha⟩
  · rw [eo, List.length_append, hlm]; exact ho
  · rcases hl a ha with ⟨c, hc, e⟩ | e
    · rw [← e]; exact h.d1 c b hc hb
    · have := own_lt h.th.o b hb; omega
  · rcases hl a ha with ⟨c, hc, e⟩ | e
    · rw [← e]; exact h.d2 c b hc hb
    · have := own_lt h.th.f b hb; omega
/-- The stack at its start. -/
theorem AdS.start (h : ThAt B w tb oA oC fA fC ord fr) (hB : B ≤ w.heap.size) (at0 : Nat) : AdS B (w.alloc (.cells #[.int .i64 (at0 : Nat)] 3)) tb oA oC fA fC ord fr (some ⟨w.heap.size, 0, none⟩) 1 [at0] := by
  have hb : Below w.heap.size w (w.alloc (.cells #[.int .i64 (at0 : Nat)] 3)) := (Below.refl _ _).alloc (Nat.le_refl _) _
  refine ⟨h.below hb, ⟨rfl, .inr ⟨w.heap.size, 1, #[.int .i64 (at0 : Nat)], rfl, hB, heap_alloc_new w _, ?_, ?_, ?_, ?_⟩⟩, fun a b ha hb e => ?_, fun a b ha hb e => ?_⟩
  · exact Nat.le_refl 1
  · decide
  · rfl
  · rfl
  · injection ha with ha
    rw [← ha] at e
    have := own_lt h.o b hb
    simp only at e
    omega
  · injection ha with ha
    rw [← ha] at e
    have := own_lt h.f b hb
    simp only at e
    omega
theorem own_cap {w : World} {B n C size : Nat} {e : TypeId} {A : Option Addr} {xs : List Value} (h : w.ownsRow B e size (.slice A n C) n xs) : n ≤ C := by
  rcases h.2 with ⟨h1, h2⟩ | ⟨g, cap, cur, h1, h2, h3, h4, h5, h6, h7⟩
  · omega
  · injection h1 with e1 e2 e3
    omega
/-- The top of the stack. -/
theorem AdS.top {i : Nat} (h : AdS B w tb oA oC fA fC ord fr sA sC (stack ++ [i])) : ∃ g, sA = some ⟨g, 0, none⟩ ∧ w.cell? ⟨g, stack.length, none⟩ = some (.int .i64 (i : Nat)) ∧ stack.length + 1 ≤ sC := by
  obtain ⟨g, hA, _, _, hc, _⟩ := own_cell h.st stack.length (by simp)
  refine ⟨g, hA, hc.trans ?_, by have := own_cap h.st; simpa using this⟩
  simp [ints, nats]
theorem nodup_len : ∀ (n : Nat) (l : List Nat), l.Nodup → (∀ p ∈ l, p < n) → l.length ≤ n
  | 0, [], _, _ => Nat.le_refl _
  | 0, a :: l, _, h => absurd (h a List.mem_cons_self) (Nat.not_lt_zero _)
  | n + 1, l, hd, h => by
    by_cases hn : n ∈ l
    · have h1 := nodup_len n (l.erase n) (hd.erase n) fun p hp => by
        have h2 := h p (List.mem_of_mem_erase hp)
        have h3 : p ≠ n := fun e => by rw [e] at hp; exact (List.Nodup.not_mem_erase hd) hp
        omega
      rw [List.length_erase_of_mem hn] at h1
      omega
    · have := nodup_len n l hd fun p hp => by
        have h2 := h p hp
        have h3 : p ≠ n := fun e => hn (e ▸ hp)
        omega
      omega
theorem ord_len {fr : List Int} {ord : List Nat} {n : Nat} (hl : fr.length = n) (oi : ∀ p, p ∈ ord ↔ Cov fr p (fr.getD p 0)) (nd : ord.Nodup) : ord.length ≤ n :=
  nodup_len n ord nd fun p hp => by
    obtain ⟨v, h1, _, _⟩ := (oi p).1 hp
    rw [← hl]
    exact (List.getElem?_eq_some_iff.1 h1).1
/-- What follows, by the instruction's kind. -/
theorem succs_of {code : List CI} {k : Nat} {x : CI} (h : code[k]? = some x) (bg fn : Bool) : succs (toIn (riL code)) bg fn k = if x.r.op = 2 then [x.r.y.toNat, x.r.x.toNat] else if x.r.op = 3 then [x.r.x.toNat] else if x.r.op = 4 then (if bg = true then [k + 1] else []) else if x.r.op = 5 then (if fn = true then [k + 1] else []) else [] := by
  have hc : (toIn (riL code))[k]? = some x.r.to := by simp [toIn, riL, h]
  unfold succs
  rw [hc]
  unfold RI.to
  by_cases a0 : x.r.op = 0
  · simp [a0]
  by_cases a1 : x.r.op = 1
  · simp [a1]
  by_cases a2 : x.r.op = 2
  · simp [a2]
  by_cases a3 : x.r.op = 3
  · simp [a3]
  by_cases a4 : x.r.op = 4
  · simp [a4]
  by_cases a5 : x.r.op = 5
  · simp [a5]
  simp [a0, a1, a2, a3, a4, a5]
end Go.Proofs.Ytcajnmhbkjngbaa

