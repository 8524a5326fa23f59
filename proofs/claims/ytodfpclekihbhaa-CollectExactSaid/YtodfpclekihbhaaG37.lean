/- Texts on the heap, merged: Q5, Q6. -/
import Derived.Test.YtodfpclekihbhaaG36
/- A collector's shared. -/
namespace Go.Proofs.Ytodfpclekihbhaa
open Go.RowKit Go.Shelf

def inB (M : List (Int × Bool)) (x : Int) : Bool := (Mp.get M x).getD false
def shB (H : Hp) (c : Cl) (S x : Int) : Bool := decide ((storeOfH H x).2 = 0) && decide ((storeOfH H x).1 = S) && !(inB c.swept x)
def sharedC (H : Hp) (c : Cl) (r : Int) : Bool := decide ((storeOfH H r).2 = 0) && (allH H).any (shB H c (storeOfH H r).1)
variable {w0 w w' wr : World} {cb hb : Nat} {K : Nat → Prop} {H : Hp} {c : Cl} {N : Nat} {a : CA}
theorem shared1_is (h : ClM w cb hb a c) (hc : Car w0 hb K H w) (ok : Ok H N) {sb : Nat} (hms : a.ms = some sb) {B2 B5 : Nat} {S : Int} (h2 : w.cell? ⟨B2, 0, none⟩ = some (.pointer (some ⟨cb, 0, none⟩))) (h5 : w.cell? ⟨B5, 0, none⟩ = some (.int .i64 S)) (x : Int) :
    Calls Try.prog 99 #[.int .i64 x, .pointer (some ⟨B2, 0, none⟩), .pointer (some ⟨B5, 0, none⟩)] w fun e w' => e = .returned (.bool (shB H c S x)) ∧ w = w' := by
  obtain ⟨d0, d1, d2, d3, d4, d5, df⟩ := h.cells
  rw [hms] at d3
  have hl := lookB_run (h.ms sb hms) x
  have HST := Lib.hid (hc.store ok x)
  have HE : Hid (shB H c S x = (decide ((storeOfH H x).2 = 0) && decide ((storeOfH H x).1 = S) && !((Mp.get c.swept x).getD false))) := Lib.hid rfl
  clear h hc ok d1 d2 d4 d5 df
  generalize (Mp.get c.swept x).getD false = b at *
  generalize (storeOfH H x).1 = s at *
  generalize (storeOfH H x).2 = e2 at *
  by_cases k1 : e2 = 0
  · subst k1
    by_cases k2 : s = S
    · subst k2
      cases b
      all_goals
        go_enter Try.func99, Try.ntmps99
        go_wp2_with (go_at_call 46; refine HST.out.mono ?_; rintro e w1 ⟨rfl, rfl⟩)
        go_ret
        exact ⟨by rw [HE.out]; simp, rfl⟩
    · have k3 : (s == S) = false := by simpa using k2
      go_enter Try.func99, Try.ntmps99
      go_wp2_with (go_at_call 46; refine HST.out.mono ?_; rintro e w1 ⟨rfl, rfl⟩)
      go_ret
      exact ⟨by rw [HE.out]; simp [k2], rfl⟩
  · have k3 : (e2 == 0) = false := by simpa using k1
    go_enter Try.func99, Try.ntmps99
    go_wp2_with (go_at_call 46; refine HST.out.mono ?_; rintro e w1 ⟨rfl, rfl⟩)
    go_ret
    exact ⟨by rw [HE.out]; simp [k1], rfl⟩
theorem idxF_is {A : Option Addr} {l : List Int} (C : Nat) (hr : RdI w A l) (hl : l.length ≤ 100000000) {B2 B5 : Nat} {p : Int → Bool} (hp : ∀ W, Below w.heap.size w W → ∀ x, Calls Try.prog 99 #[.int .i64 x, .pointer (some ⟨B2, 0, none⟩), .pointer (some ⟨B5, 0, none⟩)] W fun e w' => e = .returned (.bool (p x)) ∧ W = w') :
    Calls Try.prog 113 #[.slice A l.length C, .func (.func 99) #[] #[.pointer (some ⟨B2, 0, none⟩), .pointer (some ⟨B5, 0, none⟩)]] w fun e w' => (∃ i : Int, e = .returned (.int .i64 i) ∧ (l.any p = true ↔ 0 ≤ i)) ∧ Below w.heap.size w w' := by
  have HR := Lib.hid hr
  have HP := Lib.hid hp
  clear hr hp
  go_enter Try.func113, Try.ntmps113
  go_wp2
  go_loopw [8] (fun v wr => ∃ j : Nat, j ≤ l.length ∧ v = .int .i64 j ∧ Hid ((l.take j).any p = false) ∧ Hid (Below w.heap.size w wr)) (fun i _ => l.length - (intOf i).toNat)
  case atStart => exact ⟨0, Nat.zero_le _, rfl, Lib.hid (by simp), Lib.hid (Below.refl _ _)⟩
  case round =>
    obtain ⟨j, hj, rfl, HT, HB⟩ := hrel
    by_cases hlt : j < l.length
    · obtain ⟨g, o, hA, hg, c1⟩ := (HR.out.below HB.out) j hlt
      have q0 : (0 : Int) ≤ (j : Int) := by omega
      have q1 : (j : Int) < (l.length : Int) := by omega
      have HX : Hid (l.take (j + 1) = l.take j ++ [l[j]'hlt] ∧ l[j]'hlt ∈ l) := Lib.hid ⟨List.take_succ_eq_append_getElem hlt, List.getElem_mem _⟩
      rw [hA]
      clear hA
      generalize l[j]'hlt = y at *
      have HY := Lib.hid (HP.out wr HB.out y)
      by_cases he : p y = true
      · have HY2 : Hid (Calls Try.prog 99 #[.int .i64 y, .pointer (some ⟨B2, 0, none⟩), .pointer (some ⟨B5, 0, none⟩)] wr fun e w' => e = .returned (.bool true) ∧ wr = w') := Lib.hid (by have := HY.out; rw [he] at this; exact this)
        have HAN : Hid (l.any p = true) := Lib.hid (List.any_eq_true.2 ⟨y, HX.out.2, he⟩)
        clear HY he
        go_wp2_with (go_at_call 99; refine HY2.out.mono ?_; rintro e w1 ⟨rfl, rfl⟩)
        go_ret
        exact ⟨⟨_, rfl, fun _ => q0, fun _ => HAN.out⟩, HB.out⟩
      · have he2 : p y = false := by simpa using he
        have HY2 : Hid (Calls Try.prog 99 #[.int .i64 y, .pointer (some ⟨B2, 0, none⟩), .pointer (some ⟨B5, 0, none⟩)] wr fun e w' => e = .returned (.bool false) ∧ wr = w') := Lib.hid (by have := HY.out; rw [he2] at this; exact this)
        have HE : Hid ((l.take (j + 1)).any p = false) := Lib.hid (by rw [HX.out.1, List.any_append, HT.out]; simp [he2])
        clear he he2 HY
        go_wp2_with (go_at_call 99; refine HY2.out.mono ?_; rintro e w1 ⟨rfl, rfl⟩)
        go_roundw
        case rel => exact ⟨j + 1, by omega, by go_num, HE, HB⟩
        case measure => simp [intOf]; omega
    · obtain rfl : j = l.length := by omega
      rw [List.take_length] at HT
      clear hlt hj
      go_wp2
      go_ret
      exact ⟨⟨_, rfl, ⟨fun h => (by rw [HT.out] at h; cases h), fun h => absurd h (by decide)⟩⟩, HB.out⟩
theorem contF_is {A : Option Addr} {l : List Int} (C : Nat) (hr : RdI w A l) (hl : l.length ≤ 100000000) {B2 B5 : Nat} {p : Int → Bool} (hp : ∀ W, Below w.heap.size w W → ∀ x, Calls Try.prog 99 #[.int .i64 x, .pointer (some ⟨B2, 0, none⟩), .pointer (some ⟨B5, 0, none⟩)] W fun e w' => e = .returned (.bool (p x)) ∧ W = w') :
    Calls Try.prog 98 #[.slice A l.length C, .func (.func 99) #[] #[.pointer (some ⟨B2, 0, none⟩), .pointer (some ⟨B5, 0, none⟩)]] w fun e w' => e = .returned (.bool (l.any p)) ∧ Below w.heap.size w w' := by
  have HC := Lib.hid (idxF_is C hr hl hp)
  clear hr hp
  generalize l.any p = b at *
  go_enter Try.func98, Try.ntmps98
  go_wp2_with (go_at_call 113; refine HC.out.mono ?_; rintro e w1 ⟨⟨i, rfl, hi⟩, hb⟩
               have HI := Lib.hid hi
               have HB := Lib.hid hb
               clear hi hb)
  all_goals go_ret
  all_goals refine ⟨?_, HB.out⟩
  all_goals (have := HI.out; cases b <;> simp_all)
set_option maxHeartbeats 1000000 in
theorem shared_is (h : ClM w cb hb a c) (hc : Car w0 hb K H w) (ok : Ok H N) (hN : N ≤ 900) {sb : Nat} (hms : a.ms = some sb) (r : Int) :
    Calls Try.prog 90 #[.pointer (some ⟨cb, 0, none⟩), .int .i64 r] w fun e w' => e = .returned (.bool (sharedC H c r)) ∧ Below w.heap.size w w' := by
  have HM := Lib.hid h
  have HC := Lib.hid hc
  have HO := Lib.hid ok
  have HMS := Lib.hid hms
  obtain ⟨L, hL⟩ : ∃ L, L = allH H := ⟨_, rfl⟩
  have hL9 : L.length ≤ 900 := by have := all_len ok; rw [← hL] at this; omega
  have HE : Hid (sharedC H c r = (decide ((storeOfH H r).2 = 0) && L.any (shB H c (storeOfH H r).1))) := Lib.hid (by rw [hL]; rfl)
  have HLE := Lib.hid hL
  clear h hc ok hL hms
  obtain ⟨s, hs⟩ : ∃ s, s = (storeOfH H r).1 := ⟨_, rfl⟩
  obtain ⟨e2, he2⟩ : ∃ s, s = (storeOfH H r).2 := ⟨_, rfl⟩
  have HST : Hid (∀ W, Below w.heap.size w W → Calls Try.prog 46 #[.pointer (some ⟨hb, 0, none⟩), .int .i64 r] W fun e w' => e = .returned (.tuple #[.int .i64 s, .int .i64 e2]) ∧ W = w') := Lib.hid fun W hW => by rw [hs, he2]; exact (HC.out.below hW).store HO.out r
  rw [← hs, ← he2] at HE
  clear hs he2
  have ba : Below w.heap.size w (w.alloc (.cells #[.pointer (some ⟨cb, 0, none⟩)] 48)) := (Below.refl _ _).alloc (Nat.le_refl _) _
  have hmf : ∀ (fn : Fn) (first cap : Array Value) (w : World), (Instr.makeFunc fn first cap).run Try.prog w = .ok (.func fn first cap) w := fun _ _ _ _ => rfl
  obtain ⟨d0, d1, d2, d3, d4, d5, df⟩ := (HM.out.below ba).cells
  have HBA := Lib.hid ba
  clear ba d1 d2 d3 d4 d5 df
  by_cases k1 : e2 = 0
  · subst k1
    obtain ⟨W2, hW2⟩ : ∃ W2, W2 = (w.alloc (.cells #[.pointer (some ⟨cb, 0, none⟩)] 48)).alloc (.cells #[.int .i64 s] 26) := ⟨_, rfl⟩
    have hb2 : Below w.heap.size w W2 := by rw [hW2]; exact HBA.out.alloc (by simp) _
    have HB2 := Lib.hid hb2
    obtain ⟨f0, f1, f2, f3, f4, f5, ff⟩ := (HM.out.below hb2).cells
    have g2 : W2.cell? ⟨w.heap.size, 0, none⟩ = some (.pointer (some ⟨cb, 0, none⟩)) := by rw [hW2]; exact cell_of_heap (heap2 w _ _).1 rfl
    have g5 : W2.cell? ⟨w.heap.size + 1, 0, none⟩ = some (.int .i64 s) := by rw [hW2]; exact cell_of_heap (heap2 w _ _).2 rfl
    have HG : Hid (W2.cell? ⟨w.heap.size, 0, none⟩ = some (.pointer (some ⟨cb, 0, none⟩)) ∧ W2.cell? ⟨w.heap.size + 1, 0, none⟩ = some (.int .i64 s)) := Lib.hid ⟨g2, g5⟩
    have HAL : Hid (Calls Try.prog 40 #[.pointer (some ⟨hb, 0, none⟩)] W2 (RfPost W2 L)) := Lib.hid (by rw [HLE.out]; exact (HC.out.below hb2).all HO.out (by omega))
    rw [hW2] at f0 g2
    have HW2 := Lib.hid hW2.symm
    clear f1 f2 f3 f4 f5 ff g5 hb2 hW2
    go_enter Try.func90, Try.ntmps90
    go_wp2_with (first
      | (go_at_call 46; refine (HST.out _ HBA.out).mono ?_; rintro e w1 ⟨rfl, rfl⟩)
      | (go_at_call 40; rw [HW2.out]; refine HAL.out.mono ?_; rintro e w3 ⟨LA, LC, rfl, ho, hb3⟩
         have HCF := Lib.hid (contF_is LC (RdI.of_own ho) (by omega) (B2 := w.heap.size) (B5 := w.heap.size + 1) (p := shB H c s) fun W hW x => shared1_is ((HM.out.below HB2.out).below (hb3.trans (hW.mono hb3.size))) ((HC.out.below HB2.out).below (hb3.trans (hW.mono hb3.size))) HO.out HMS.out (cell_later (hb3.trans (hW.mono hb3.size)) HG.out.1) (cell_later (hb3.trans (hW.mono hb3.size)) HG.out.2) x)
         have HB3 := Lib.hid hb3
         clear ho hb3)
      | (go_at_call 98; refine HCF.out.mono ?_; rintro e w4 ⟨rfl, hb4⟩; have HB4 := Lib.hid hb4; clear hb4))
    go_ret
    exact ⟨by rw [HE.out]; simp, (HB2.out.trans (HB3.out.mono HB2.out.size)).trans (HB4.out.mono (Nat.le_trans HB2.out.size HB3.out.size))⟩
  · have k3 : (e2 == 0) = false := by simpa using k1
    go_enter Try.func90, Try.ntmps90
    go_wp2_with (go_at_call 46; refine (HST.out _ HBA.out).mono ?_; rintro e w1 ⟨rfl, rfl⟩)
    go_ret
    exact ⟨by rw [HE.out]; simp [k1], HBA.out.alloc (by simp) _⟩
end Go.Proofs.Ytodfpclekihbhaa

/- A collector's sweep. -/
namespace Go.Proofs.Ytodfpclekihbhaa
open Go.RowKit Go.Shelf

/-- A unit of sweeping. -/
def sweepM (H : Hp) (c : Cl) : Hp × Cl :=
  match c.list with
  | [] => (H, { phase := 0, colors := [], swept := [], list := [], rounds := c.rounds + 1 })
  | r :: rest => (if kindH H r ≠ 0 ∧ sharedC H c r = false then (clearH H r).1 else H, { c with list := rest })
variable {w0 w w' wr : World} {cb hb : Nat} {K Kx : Nat → Prop} {H : Hp} {c : Cl} {N : Nat} {a : CA}
theorem ClM.idle (h : ClM w cb hb a c) (v : Int) : ClM ((((w.setCell ⟨cb, 1, none⟩ (.int .i64 0)).setCell ⟨cb, 2, none⟩ (.map none)).setCell ⟨cb, 3, none⟩ (.map none)).setCell ⟨cb, 5, none⟩ (.int .i64 v)) cb hb { a with mc := none, ms := none } { c with phase := 0, colors := [], swept := [], rounds := v } ∧ Mut (· = cb) w ((((w.setCell ⟨cb, 1, none⟩ (.int .i64 0)).setCell ⟨cb, 2, none⟩ (.map none)).setCell ⟨cb, 3, none⟩ (.map none)).setCell ⟨cb, 5, none⟩ (.int .i64 v)) := by
  have k1 := heap_setCell_same _ cb 1 _ _ (.int .i64 0) h.blk
  have k2 := heap_setCell_same _ cb 2 _ _ (.map none) k1
  have k3 := heap_setCell_same _ cb 3 _ _ (.map none) k2
  have k4 := heap_setCell_same _ cb 5 _ _ (.int .i64 v) k3
  have m1 : Mut (· = cb) w (w.setCell ⟨cb, 1, none⟩ (.int .i64 0)) := Mut.setCell _ _ _ _ rfl
  have m2 : Mut (· = cb) (w.setCell ⟨cb, 1, none⟩ (.int .i64 0)) ((w.setCell ⟨cb, 1, none⟩ (.int .i64 0)).setCell ⟨cb, 2, none⟩ (.map none)) := Mut.setCell _ _ _ _ rfl
  have m3 : Mut (· = cb) ((w.setCell ⟨cb, 1, none⟩ (.int .i64 0)).setCell ⟨cb, 2, none⟩ (.map none)) (((w.setCell ⟨cb, 1, none⟩ (.int .i64 0)).setCell ⟨cb, 2, none⟩ (.map none)).setCell ⟨cb, 3, none⟩ (.map none)) := Mut.setCell _ _ _ _ rfl
  have m4 : Mut (· = cb) (((w.setCell ⟨cb, 1, none⟩ (.int .i64 0)).setCell ⟨cb, 2, none⟩ (.map none)).setCell ⟨cb, 3, none⟩ (.map none)) ((((w.setCell ⟨cb, 1, none⟩ (.int .i64 0)).setCell ⟨cb, 2, none⟩ (.map none)).setCell ⟨cb, 3, none⟩ (.map none)).setCell ⟨cb, 5, none⟩ (.int .i64 v)) := Mut.setCell _ _ _ _ rfl
  have m := ((m1.then m2).then m3).then m4
  exact ⟨⟨k4, (fun b e => by cases e), fun _ => rfl, (fun b e => by cases e), fun _ => rfl, h.q.mut m fun x hx hC e => (h.qne x hx hC).1 e, ⟨(fun e => by cases e), fun e => by cases e⟩, (fun b e => by cases e), fun x hx hC => ⟨(h.qne x hx hC).1, (fun e => by cases e), fun e => by cases e⟩⟩, m⟩
theorem MS.idle (h : MS w0 w hb cb K H c a Kx wr) (v : Int) : MS w0 w hb cb K H { c with phase := 0, colors := [], swept := [], rounds := v } { a with mc := none, ms := none } Kx ((((wr.setCell ⟨cb, 1, none⟩ (.int .i64 0)).setCell ⟨cb, 2, none⟩ (.map none)).setCell ⟨cb, 3, none⟩ (.map none)).setCell ⟨cb, 5, none⟩ (.int .i64 v)) := by
  obtain ⟨hm, hu⟩ := h.m.idle v
  have hcb := h.own cb (.inl rfl)
  refine ⟨hm, h.car.turn hu fun k hk => by rw [hk]; exact ⟨hcb.2.1, hcb.1⟩, fun k hk => ?_, h.kk, h.mu.then (hu.mono fun k hk => .inl (by rw [hk]; exact hcb.2))⟩
  rcases hk with rfl | hk | hk | hk
  · exact hcb
  · cases hk
  · cases hk
  · exact h.own _ (.inr (.inr (.inr hk)))
set_option maxRecDepth 100000 in
set_option maxHeartbeats 4000000 in
theorem sweep_calls (h : CC w0 hb cb K H c w) (ok : Ok H N) (hN : N ≤ 900) (hp : c.phase = 2) (hls : c.list.length ≤ 100000000) (hrd : 0 ≤ c.rounds ∧ c.rounds ≤ 1000000) : Calls Try.prog 70 #[.pointer (some ⟨cb, 0, none⟩)] w fun e w' => e = .returned (.tuple #[]) ∧ CPs w0 w hb cb K (sweepM H c) w' := by
  obtain ⟨a, Kx, hms, _, hp2⟩ := MS.start h
  obtain ⟨sb, hsb⟩ := hp2 hp
  have HMS := Lib.hid hms
  have HSB := Lib.hid hsb
  have HOK := Lib.hid ok
  have HPH := Lib.hid hp
  obtain ⟨c0, c1, c2, c3, c4, c5, cf⟩ := hms.m.cells
  have cl := lt_of_heap hms.m.blk
  have hq := hms.m.q
  clear h hms hsb hp2 hp ok
  cases hl : c.list with
  | nil =>
    rw [hl] at c4
    have c4 : w.cell? ⟨cb, 4, none⟩ = some (.slice a.lA 0 a.lC) := c4
    have HF : Hid (sweepM H c = (H, { c with phase := 0, colors := [], swept := [], rounds := c.rounds + 1 })) := Lib.hid (by unfold sweepM; rw [hl])
    have HM := Lib.hid (HMS.out.idle (c.rounds + 1))
    have hw1 : IntKind.i64.wrap (c.rounds + 1) = c.rounds + 1 := by rw [IntKind.wrap_i64]; omega
    clear hq hl hls
    go_enter Try.func70, Try.ntmps70
    go_wp2
    (try simp only [Exit.inBlock, Exit.then])
    refine bodyPost_ret (results_none rfl _ _ _) rfl ?_
    rw [HF.out]
    exact ⟨rfl, HM.out.cc (fun e => by cases e) fun e => by cases e⟩
  | cons r rest =>
    rw [hl] at hq c4 hls
    obtain ⟨g, o, hA, hg, hC, e0⟩ := hq.head
    rw [List.length_cons] at c4 hls
    obtain ⟨qC, hqC⟩ : ∃ qC, qC = a.lC := ⟨_, rfl⟩
    have hle := hq.le
    rw [List.length_cons] at hle
    rw [hA] at c4
    have hsl := run_slice_1 w (some ⟨g, o, none⟩) (rest.length + 1) a.lC (by omega)
    rw [Nat.add_sub_cancel] at hsl
    obtain ⟨A', hA'⟩ : ∃ A', A' = (if a.lC = 1 then some ⟨g, o, none⟩ else (some ⟨g, o, none⟩ : Option Addr).map (·.add (1 * 1))) := ⟨_, rfl⟩
    rw [← hA'] at hsl
    have HQT : Hid (QAt w 0 A' (a.lC - 1) rest ∧ ∀ x, A' = some x → x.block = g) := Lib.hid ⟨hq.tail fun g' o' e => by
      rw [hA] at e
      cases e
      rw [hA']
      by_cases h1 : a.lC = 1
      · rw [if_pos h1]; exact ⟨fun h2 => by omega, by simp⟩
      · rw [if_neg h1]; exact ⟨fun _ => by simp [Addr.add], by simp⟩, fun x hx => by
      rw [hA'] at hx
      by_cases h1 : a.lC = 1
      · rw [if_pos h1] at hx; cases hx; rfl
      · rw [if_neg h1] at hx; simp [Addr.add] at hx; rw [← hx]⟩
    have HM := Lib.hid (HMS.out.push (A1 := A') (C1 := a.lC - 1) (w8 := w) HQT.out.1 (Mut.refl _ _) fun x hx => .inl ⟨⟨g, o, none⟩, hA, hC, (HQT.out.2 x hx).symm⟩)
    obtain ⟨W3, hW3⟩ : ∃ W3, W3 = w.setCell ⟨cb, 4, none⟩ (.slice A' rest.length (a.lC - 1)) := ⟨_, rfl⟩
    rw [← hW3] at HM
    have HK := Lib.hid (HM.out.car.kind r)
    obtain ⟨d0, d1, d2, d3, d4, d5, df⟩ := HM.out.m.cells
    have HW3 := Lib.hid hW3.symm
    rw [hW3] at d0
    have HF : Hid (sweepM H c = (if kindH H r ≠ 0 ∧ sharedC H c r = false then (clearH H r).1 else H, { c with list := rest })) := Lib.hid (by unfold sweepM; rw [hl])
    have HSH : Hid (Calls Try.prog 90 #[.pointer (some ⟨cb, 0, none⟩), .int .i64 r] W3 fun e w' => e = .returned (.bool (sharedC H c r)) ∧ Below W3.heap.size W3 w') := Lib.hid (shared_is HM.out.m HM.out.car HOK.out hN HSB.out r)
    clear hq hl d1 d2 d3 d4 d5 df c0 c1 c2 c3 c5 hA' hW3 hA
    generalize kindH H r = kd at *
    by_cases k1 : kd = 0
    · subst k1
      go_enter Try.func70, Try.ntmps70
      go_wp2_with (go_at_call 37; rw [HW3.out]; refine HK.out.mono ?_; rintro e w4 ⟨rfl, rfl⟩)
      go_end0
      rw [HF.out, if_neg (fun h => h.1 rfl)]
      exact ⟨rfl, HM.out.cc (fun e => by rw [show _ = c.phase from rfl, HPH.out] at e; cases e) fun _ => ⟨sb, HSB.out⟩⟩
    · have k2 : (kd != 0) = true := by simpa using k1
      cases hsh : sharedC H c r with
      | true =>
        rw [hsh] at HSH
        have hff := HF.out
        rw [hsh, if_neg (fun h => by cases h.2)] at hff
        have HF2 := Lib.hid hff
        clear hff HF
        go_enter Try.func70, Try.ntmps70
        go_wp2_with (first
          | (go_at_call 37; rw [HW3.out]; refine HK.out.mono ?_; rintro e w4 ⟨rfl, rfl⟩)
          | (go_at_call 90; refine HSH.out.mono ?_; rintro e w5 ⟨rfl, hb5⟩; have HB5 := Lib.hid hb5; clear hb5))
        go_end0
        rw [HF2.out]
        exact ⟨rfl, (HM.out.below HB5.out).cc (fun e => by rw [show _ = c.phase from rfl, HPH.out] at e; cases e) fun _ => ⟨sb, HSB.out⟩⟩
      | false =>
        rw [hsh] at HSH
        have hff := HF.out
        rw [hsh, if_pos ⟨k1, rfl⟩] at hff
        have HF2 := Lib.hid hff
        clear hff HF
        go_enter Try.func70, Try.ntmps70
        go_wp2_with (first
          | (go_at_call 37; rw [HW3.out]; refine HK.out.mono ?_; rintro e w4 ⟨rfl, rfl⟩)
          | (go_at_call 90; refine HSH.out.mono ?_; rintro e w5 ⟨rfl, hb5⟩
             have H5 := Lib.hid (HM.out.below hb5)
             obtain ⟨d0, d1, d2, d3, d4, d5, df⟩ := H5.out.m.cells
             clear hb5 d1 d2 d3 d4 d5 df)
          | (go_at_call 33; refine (H5.out.car.clear HOK.out (by omega) r).mono ?_; rintro e w6 ⟨rfl, hc6⟩
             have H6 := Lib.hid (H5.out.heap hc6)
             clear hc6))
        go_end0
        rw [HF2.out]
        exact ⟨rfl, H6.out.cc (fun e => by rw [show _ = c.phase from rfl, HPH.out] at e; cases e) fun _ => ⟨sb, HSB.out⟩⟩
end Go.Proofs.Ytodfpclekihbhaa

