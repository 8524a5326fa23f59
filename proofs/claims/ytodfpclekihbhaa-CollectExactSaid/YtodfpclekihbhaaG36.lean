/- Texts on the heap, merged: Q3, Q4. -/
import Derived.Test.YtodfpclekihbhaaG35
/- A collector's mark. -/
namespace Go.Proofs.Ytodfpclekihbhaa
open Go.RowKit Go.Shelf

def whiteL (C : List (Int × Int)) (l : List Int) : List Int := l.filter fun r => decide (colorC C r = 1)
def sweptL (l : List Int) : List (Int × Bool) := l.foldl (fun S r => Mp.put S r true) []
theorem sweptL_snoc (l : List Int) (x : Int) : sweptL (l ++ [x]) = Mp.put (sweptL l) x true := by unfold sweptL; rw [List.foldl_append]; rfl
/-- A unit of marking. -/
def markM (H : Hp) (c : Cl) : Hp × Cl :=
  let C1 := shadeC c.colors (seenH H).2
  match (allH H).find? fun r => decide (colorC C1 r = 2) with
  | some r => ((seenH H).1, { c with colors := shadeC (Mp.put C1 r 3) (refsH H r) })
  | none => (watchH (seenH H).1 false, { c with phase := 2, colors := C1, swept := sweptL (whiteL C1 (allH H)), list := c.list ++ whiteL C1 (allH H) })
variable {w0 w w' wr : World} {cb hb : Nat} {K Kx : Nat → Prop} {H : Hp} {c : Cl} {N : Nat} {a : CA}
/-- Kept blocks turn, new blocks are kept. -/
theorem Car.grow {T : Nat → Prop} (c : Car w0 hb K H w) (h : Mut T w w') (hT : ∀ k, T k → w0.heap.size ≤ k ∧ K k) : Car w0 hb (fun k => K k ∨ (w.heap.size ≤ k ∧ k < w'.heap.size)) H w' := by
  obtain ⟨⟨A, S, hp, hS⟩, b, hk⟩ := c
  refine ⟨⟨A, S, hp.mut h fun k h1 h2 => (hS k h1).2 (hT k h2).2, fun x hx => ⟨(hS x hx).1, ?_⟩⟩, b.trans (h.to_below b.size fun k h1 => (hT k h1).1), ?_⟩
  · rintro (e | e)
    · exact (hS x hx).2 e
    · have := hp.Slt _ hx; omega
  · rintro x (e | e)
    · exact Nat.lt_of_lt_of_le (hk x e) h.size
    · exact e.2
/-- A collector laid open. -/
structure MS (w0 w : World) (hb cb : Nat) (K : Nat → Prop) (H : Hp) (c : Cl) (a : CA) (Kx : Nat → Prop) (wr : World) : Prop where
  m : ClM wr cb hb a c
  car : Car w0 hb Kx H wr
  own : ∀ k, a.own cb k → Kx k ∧ w0.heap.size ≤ k ∧ ¬ K k
  kk : ∀ k, K k → Kx k
  mu : Mut (Off w0 K) w wr
theorem MS.cc (h : MS w0 w hb cb K H c a Kx wr) (h1 : c.phase = 1 → ∃ mb, a.mc = some mb) (h2 : c.phase = 2 → ∃ mb, a.ms = some mb) : CPs w0 w hb cb K (H, c) wr := ⟨⟨a, Kx, h.m, h.car, h.own, h.kk, h1, h2⟩, h.mu⟩
theorem MS.start (h : CC w0 hb cb K H c w) : ∃ a Kx, MS w0 w hb cb K H c a Kx w ∧ (c.phase = 1 → ∃ mb, a.mc = some mb) ∧ (c.phase = 2 → ∃ mb, a.ms = some mb) := by
  obtain ⟨a, K', h1, h2, h3, h4, h5, h6⟩ := h.ex
  exact ⟨a, K', ⟨h1, h2, h3, h4, Mut.refl _ _⟩, h5, h6⟩
theorem MS.below (h : MS w0 w hb cb K H c a Kx wr) (hb' : Below wr.heap.size wr w') : MS w0 w hb cb K H c a Kx w' := ⟨h.m.below hb', h.car.below hb', h.own, h.kk, h.mu.then (Mut.of_below hb')⟩
theorem MS.keepS {P : Nat → Prop} (h : MS w0 w hb cb K H c a Kx wr) (hb' : Below wr.heap.size wr w') (hP : ∀ k, P k → wr.heap.size ≤ k ∧ k < w'.heap.size) : MS w0 w hb cb K H c a (fun k => Kx k ∨ P k) w' := ⟨h.m.below hb', h.car.keepS hb' hP, fun k hk => ⟨.inl (h.own k hk).1, (h.own k hk).2⟩, fun k hk => .inl (h.kk k hk), h.mu.then (Mut.of_below hb')⟩
theorem MS.heap {H' : Hp} (h : MS w0 w hb cb K H c a Kx wr) (hc : CPost w0 wr hb Kx H' w') : MS w0 w hb cb K H' c a Kx w' :=
  ⟨h.m.mut hc.2 fun k hk e => e.2 (h.own k hk).1, hc.1, h.own, h.kk, h.mu.then (hc.2.mono fun k hk => .inl ⟨hk.1, fun e => hk.2 (h.kk k e)⟩)⟩
/-- An own block turns. -/
theorem MS.own1 {b : Nat} {c' : Cl} (h : MS w0 w hb cb K H c a Kx wr) (hb1 : a.own cb b) (hm : ClM w' cb hb a c') (hu : Mut (· = b) wr w') : MS w0 w hb cb K H c' a Kx w' :=
  ⟨hm, h.car.turn hu fun k hk => by rw [hk]; exact ⟨(h.own b hb1).2.1, (h.own b hb1).1⟩, h.own, h.kk, h.mu.then (hu.mono fun k hk => .inl (by rw [hk]; exact ⟨(h.own b hb1).2.1, (h.own b hb1).2.2⟩))⟩
/-- The swept turn. -/
theorem ClM.putS {mb : Nat} {S' : List (Int × Bool)} (h : ClM w cb hb a c) (hmb : a.ms = some mb) (hm : Mp.MapIs w' mb kV Value.bool S') (hu : Mut (· = mb) w w') : ClM w' cb hb a { c with swept := S' } :=
  { blk := (hu.block _ (lt_of_heap h.blk) fun e => h.ccb.2 (by rw [hmb, e])).trans h.blk
    mc := fun b hb => (h.mc b hb).of_block (hu.block _ (h.mc b hb).lt fun e => h.nem b hb (by rw [hmb, e]))
    mcn := h.mcn
    ms := fun b hb => by rw [hmb] at hb; injection hb with hb; exact hb ▸ hm
    msn := fun e => by rw [hmb] at e; cases e
    q := h.q.mut hu fun x hx hC e => (h.qne x hx hC).2.2 (by rw [hmb]; exact congrArg some e.symm)
    ccb := h.ccb, nem := h.nem, qne := h.qne }
/-- The collector sweeps, with a new map of those in the list. -/
theorem ClM.sweeps (h : ClM w cb hb a c) : ClM (((w.setCell ⟨cb, 1, none⟩ (.int .i64 2)).setCell ⟨cb, 3, none⟩ (.map (some w.heap.size))).alloc (.map #[] 0)) cb hb { a with ms := some w.heap.size } { c with phase := 2, swept := [] } ∧ Mut (· = cb) w ((w.setCell ⟨cb, 1, none⟩ (.int .i64 2)).setCell ⟨cb, 3, none⟩ (.map (some w.heap.size))) ∧ ((w.setCell ⟨cb, 1, none⟩ (.int .i64 2)).setCell ⟨cb, 3, none⟩ (.map (some w.heap.size))).heap.size = w.heap.size := by
  have k1 := heap_setCell_same _ cb 1 _ _ (.int .i64 2) h.blk
  have k2 := heap_setCell_same _ cb 3 _ _ (.map (some w.heap.size)) k1
  have m1 : Mut (· = cb) w (w.setCell ⟨cb, 1, none⟩ (.int .i64 2)) := Mut.setCell _ _ _ _ rfl
  have m2 : Mut (· = cb) (w.setCell ⟨cb, 1, none⟩ (.int .i64 2)) ((w.setCell ⟨cb, 1, none⟩ (.int .i64 2)).setCell ⟨cb, 3, none⟩ (.map (some w.heap.size))) := Mut.setCell _ _ _ _ rfl
  have hsz : ((w.setCell ⟨cb, 1, none⟩ (.int .i64 2)).setCell ⟨cb, 3, none⟩ (.map (some w.heap.size))).heap.size = w.heap.size := by simp
  have m0 := m1.then m2
  generalize ((w.setCell ⟨cb, 1, none⟩ (.int .i64 2)).setCell ⟨cb, 3, none⟩ (.map (some w.heap.size))) = W at *
  have ba : Below W.heap.size W (W.alloc (.map #[] 0)) := (Below.refl _ _).alloc (Nat.le_refl _) _
  have m := m0.then (Mut.of_below ba)
  have hown := fun k hk => h.lt (k := k) hk
  have hmade := Mp.MapIs.made W kV Value.bool
  rw [hsz] at hmade
  refine ⟨⟨(ba.block _ (lt_of_heap k2)).trans k2, fun b e => (h.mc b e).of_block (m.block _ (h.mc b e).lt fun e2 => h.ccb.1 (e2 ▸ e)), h.mcn, fun b e => ?_, (fun e => by cases e), h.q.mut m fun x hx hC e => (h.qne x hx hC).1 e, ⟨h.ccb.1, fun e => ?_⟩, fun b e e2 => ?_, fun x hx hC => ⟨(h.qne x hx hC).1, (h.qne x hx hC).2.1, fun e => ?_⟩⟩, m0, hsz⟩
  · injection e with e
    subst e
    exact hmade
  · injection e with e
    have := lt_of_heap h.blk
    omega
  · injection e2 with e2
    subst e2
    have := hown _ (.inr (.inl e))
    omega
  · injection e with e
    have := hown _ (.inr (.inr (.inr ⟨x, hx, hC, rfl⟩)))
    omega
theorem MS.sweeps (h : MS w0 w hb cb K H c a Kx wr) : MS w0 w hb cb K H { c with phase := 2, swept := [] } { a with ms := some wr.heap.size } (fun k => Kx k ∨ k = wr.heap.size) (((wr.setCell ⟨cb, 1, none⟩ (.int .i64 2)).setCell ⟨cb, 3, none⟩ (.map (some wr.heap.size))).alloc (.map #[] 0)) := by
  obtain ⟨hm, hu, hsz⟩ := h.m.sweeps
  have ba : Below ((wr.setCell ⟨cb, 1, none⟩ (.int .i64 2)).setCell ⟨cb, 3, none⟩ (.map (some wr.heap.size))).heap.size ((wr.setCell ⟨cb, 1, none⟩ (.int .i64 2)).setCell ⟨cb, 3, none⟩ (.map (some wr.heap.size))) (((wr.setCell ⟨cb, 1, none⟩ (.int .i64 2)).setCell ⟨cb, 3, none⟩ (.map (some wr.heap.size))).alloc (.map #[] 0)) := (Below.refl _ _).alloc (Nat.le_refl _) _
  have hcb := h.own cb (.inl rfl)
  refine ⟨hm, (h.car.turn hu fun k hk => by rw [hk]; exact ⟨hcb.2.1, hcb.1⟩).keepS (P := (· = wr.heap.size)) ba fun k hk => by rw [hk, hsz]; exact ⟨Nat.le_refl _, by simp⟩, fun k hk => ?_, fun k hk => .inl (h.kk k hk), (h.mu.then (hu.mono fun k hk => .inl (by rw [hk]; exact hcb.2))).then (Mut.of_below ba)⟩
  rcases hk with rfl | hk | hk | hk
  · exact ⟨.inl hcb.1, hcb.2⟩
  · exact ⟨.inl (h.own _ (.inr (.inl hk))).1, (h.own _ (.inr (.inl hk))).2⟩
  · injection hk with hk
    subst hk
    exact ⟨.inr rfl, h.car.bel.size, fun e => by have := h.car.klt _ (h.kk _ e); omega⟩
  · exact ⟨.inl (h.own _ (.inr (.inr (.inr hk)))).1, (h.own _ (.inr (.inr (.inr hk)))).2⟩
/-- A number is put behind the list. -/
theorem MS.push (h : MS w0 w hb cb K H c a Kx wr) {A1 : Option Addr} {C1 : Nat} {ys : List Int} {w8 : World} (hq : QAt w8 0 A1 C1 ys) (hu : Mut (fun k => ∃ x, a.lA = some x ∧ 0 < a.lC ∧ x.block = k) wr w8) (h8 : ∀ x, A1 = some x → (∃ y, a.lA = some y ∧ 0 < a.lC ∧ y.block = x.block) ∨ wr.heap.size ≤ x.block) :
    MS w0 w hb cb K H { c with list := ys } { a with lA := A1, lC := C1 } (fun k => Kx k ∨ (wr.heap.size ≤ k ∧ k < w8.heap.size)) (w8.setCell ⟨cb, 4, none⟩ (.slice A1 ys.length C1)) := by
  have hcb := h.own cb (.inl rfl)
  have hblk := (hu.block _ (lt_of_heap h.m.blk) fun ⟨x, hx, hC, e⟩ => (h.m.qne x hx hC).1 e).trans h.m.blk
  have k1 := heap_setCell_same _ cb 4 _ _ (.slice A1 ys.length C1) hblk
  have m1 : Mut (· = cb) w8 (w8.setCell ⟨cb, 4, none⟩ (.slice A1 ys.length C1)) := Mut.setCell _ _ _ _ rfl
  have hsz : (w8.setCell ⟨cb, 4, none⟩ (.slice A1 ys.length C1)).heap.size = w8.heap.size := by simp
  have hne : ∀ x, A1 = some x → 0 < C1 → x.block ≠ cb ∧ a.mc ≠ some x.block ∧ a.ms ≠ some x.block := fun x hx _ => by
    rcases h8 x hx with ⟨y, hy, hC, e⟩ | e
    · rw [← e]; exact h.m.qne y hy hC
    · refine ⟨fun e2 => ?_, fun e2 => ?_, fun e2 => ?_⟩
      · have := lt_of_heap h.m.blk; omega
      · have := h.m.lt (.inr (.inl e2)); omega
      · have := h.m.lt (.inr (.inr (.inl e2))); omega
  have hT : ∀ k, (∃ x, a.lA = some x ∧ 0 < a.lC ∧ x.block = k) → w0.heap.size ≤ k ∧ Kx k := fun k hk => ⟨(h.own k (.inr (.inr (.inr hk)))).2.1, (h.own k (.inr (.inr (.inr hk)))).1⟩
  refine ⟨⟨k1, fun b e => ?_, h.m.mcn, fun b e => ?_, h.m.msn, hq.mut m1 fun x hx hC e => (hne x hx hC).1 e, h.m.ccb, h.m.nem, hne⟩, (h.car.grow hu hT).turn m1 fun k hk => by rw [hk]; exact ⟨hcb.2.1, .inl hcb.1⟩, fun k hk => ?_, fun k hk => .inl (h.kk k hk), (h.mu.then (hu.mono fun k hk => .inl ⟨(hT k hk).1, (h.own k (.inr (.inr (.inr hk)))).2.2⟩)).then (m1.mono fun k hk => .inl (by rw [hk]; exact hcb.2))⟩
  · have h1 := (h.m.mc b e).of_block (hu.block _ (h.m.mc b e).lt fun ⟨x, hx, hC, e2⟩ => (h.m.qne x hx hC).2.1 (by rw [e2]; exact e))
    exact h1.of_block (m1.block _ h1.lt fun e2 => h.m.ccb.1 (e2 ▸ e))
  · have h1 := (h.m.ms b e).of_block (hu.block _ (h.m.ms b e).lt fun ⟨x, hx, hC, e2⟩ => (h.m.qne x hx hC).2.2 (by rw [e2]; exact e))
    exact h1.of_block (m1.block _ h1.lt fun e2 => h.m.ccb.2 (e2 ▸ e))
  · rcases hk with rfl | hk | hk | ⟨x, hx, hC, rfl⟩
    · exact ⟨.inl hcb.1, hcb.2⟩
    · exact ⟨.inl (h.own _ (.inr (.inl hk))).1, (h.own _ (.inr (.inl hk))).2⟩
    · exact ⟨.inl (h.own _ (.inr (.inr (.inl hk)))).1, (h.own _ (.inr (.inr (.inl hk)))).2⟩
    · rcases h8 x hx with ⟨y, hy, hC2, e⟩ | e
      · have := h.own y.block (.inr (.inr (.inr ⟨y, hy, hC2, rfl⟩)))
        rw [← e]
        exact ⟨.inl this.1, this.2⟩
      · have hlt : x.block < w8.heap.size := by
          obtain ⟨g, o, e2, _, h2, _⟩ := hq.at_ x hx hC
          rw [e2]; exact h2
        exact ⟨.inr ⟨e, hlt⟩, Nat.le_trans h.car.bel.size e, fun e2 => by have := h.car.klt _ (h.kk _ e2); omega⟩
end Go.Proofs.Ytodfpclekihbhaa

/- A collector's mark: the walk. -/
namespace Go.Proofs.Ytodfpclekihbhaa
open Go.RowKit Go.Shelf

variable {w0 w : World} {cb hb : Nat} {K : Nat → Prop} {H : Hp} {c : Cl} {N : Nat}
theorem find_none_take {l : List Int} {p : Int → Bool} {j : Nat} (hj : j < l.length) (h : ∀ x ∈ l.take j, p x = false) (h1 : p (l[j]'hj) = true) : l.find? p = some (l[j]'hj) := by
  have e : l = l.take j ++ (l[j]'hj :: l.drop (j + 1)) := by rw [← List.drop_eq_getElem_cons hj, List.take_append_drop]
  have h2 : (l.take j).find? p = none := List.find?_eq_none.2 fun x hx => by rw [h x hx]; simp
  have h3 : (l.take j ++ (l[j]'hj :: l.drop (j + 1))).find? p = some (l[j]'hj) := by
    rw [List.find?_append, h2, List.find?_cons_of_pos h1]
    rfl
  rw [← e] at h3
  exact h3
theorem whiteL_snoc (C : List (Int × Int)) (l : List Int) (x : Int) : whiteL C (l ++ [x]) = whiteL C l ++ if colorC C x = 1 then [x] else [] := by
  unfold whiteL
  rw [List.filter_append]
  by_cases h : colorC C x = 1
  · rw [if_pos h]; simp [h]
  · rw [if_neg h]; simp [h]
set_option maxRecDepth 100000 in
set_option maxHeartbeats 8000000 in
theorem mark_calls (h : CC w0 hb cb K H c w) (ok : Ok H N) (hN : N ≤ 900) (hp : c.phase = 1) (hls : c.list.length ≤ 1000000) : Calls Try.prog 69 #[.pointer (some ⟨cb, 0, none⟩)] w fun e w' => e = .returned (.tuple #[]) ∧ CPs w0 w hb cb K (markM H c) w' := by
  obtain ⟨a, Kx, hms, hp1, _⟩ := MS.start h
  obtain ⟨mb, hmb⟩ := hp1 hp
  have HMS := Lib.hid hms
  have HMB := Lib.hid hmb
  obtain ⟨S, hS⟩ : ∃ S, S = (seenH H).2 := ⟨_, rfl⟩
  have HSN := Lib.hid (hms.car.seen ok (by omega))
  rw [← hS] at HSN
  have hsl : S.length ≤ 1000000 := by
    obtain ⟨A', S', hp', _⟩ := hms.car.ex
    have h1 := (seen_keys ok (by omega) (seen_nd hp')).2
    rw [hS]
    unfold seenH keysS
    refine Nat.le_trans (List.length_filter_le _ _) ?_
    rw [List.length_mergeSort, List.length_map]
    exact h1
  have HSE := Lib.hid hS
  have HOK1 := Lib.hid ok.seenOp
  obtain ⟨L, hL⟩ : ∃ L, L = allH H := ⟨_, rfl⟩
  have hL9 : L.length ≤ 900 := by have := all_len ok; rw [← hL] at this; omega
  have HLE := Lib.hid hL
  have HPH := Lib.hid hp
  have HLS := Lib.hid hls
  have hlt : mb < w.heap.size := (hms.m.mc mb hmb).lt
  have HLT := Lib.hid hlt
  obtain ⟨c0, c1, c2, c3, c4, c5, cf⟩ := hms.m.cells
  clear h hms hmb hS hL hp hp1 hls hlt c1 c2 c3 c4 c5 ok
  go_enter Try.func69, Try.ntmps69
  go_wp2_with (first
    | (go_at_call 42; refine HSN.out.mono ?_; rintro e w1 ⟨LA0, LC0, rfl, ho, hc1⟩
       have H1 := Lib.hid (HMS.out.heap hc1)
       have HO1 : Hid (RdI w1 LA0 S ∧ ∀ x, LA0 = some x → x.block ≠ mb) := Lib.hid ⟨RdI.of_own ho, fun x hx => by have := own_blk ho x hx; have := HLT.out; omega⟩
       obtain ⟨d0, d1, d2, d3, d4, d5, df⟩ := H1.out.m.cells
       have HC1Z := Lib.hid hc1.2.size
       clear ho hc1 c0 cf d1 d2 d3 d4 d5)
    | (go_at_call 89; refine (shade_is H1.out.m HMB.out LC0 HO1.out.1 (by omega) HO1.out.2).mono ?_; rintro e w2 ⟨rfl, hm2, hu2⟩
       have H2 := Lib.hid (H1.out.own1 (.inr (.inl HMB.out)) hm2 hu2)
       have HZ2 := Lib.hid (Nat.le_trans HC1Z.out hu2.size)
       obtain ⟨d0, d1, d2, d3, d4, d5, df⟩ := hm2.cells
       clear hm2 hu2 d1 d2 d3 d4 d5)
    | (go_at_call 40
       have hq := H2.out.car.all HOK1.out (by omega)
       rw [show allH (seenH H).1 = allH H from rfl, ← HLE.out] at hq
       refine hq.mono ?_; rintro e w3 ⟨LA, LC, rfl, ho, hb3⟩
       have H3 := Lib.hid (H2.out.keepS (P := fun k => ∃ x, LA = some x ∧ x.block = k) hb3 fun k ⟨x, hx, e⟩ => by rw [← e]; exact own_blk ho x hx)
       have HZ3 := Lib.hid hb3.size
       have HR3 : Hid (RdI w3 LA L ∧ ∀ x, LA = some x → w2.heap.size ≤ x.block ∧ x.block < w3.heap.size) := Lib.hid ⟨RdI.of_own ho, fun x hx => own_blk ho x hx⟩
       clear hq ho hb3))
  clear d0 df HSN
  obtain ⟨C1, hC1⟩ : ∃ C1, C1 = shadeC c.colors S := ⟨_, rfl⟩
  rw [← hC1] at H3
  have HC1 := Lib.hid hC1
  clear hC1 H2 H1 HO1
  have HCB : Hid (cb < w2.heap.size ∧ mb < w2.heap.size ∧ ∀ x, a.lA = some x → 0 < a.lC → x.block < w2.heap.size) := Lib.hid ⟨Nat.lt_of_lt_of_le (lt_of_heap HMS.out.m.blk) HZ2.out, Nat.lt_of_lt_of_le HLT.out HZ2.out, fun x hx hC => Nat.lt_of_lt_of_le (HMS.out.m.lt (.inr (.inr (.inr ⟨x, hx, hC, rfl⟩)))) HZ2.out⟩
  go_loopw [21] (fun p wr => ∃ (j : Nat), j ≤ L.length ∧ p = .int .i64 j ∧ Hid (∀ x ∈ L.take j, decide (colorC C1 x = 2) = false) ∧ Hid (Below w3.heap.size w3 wr)) (fun i _ => L.length - (intOf i).toNat)
  case atStart => exact ⟨0, Nat.zero_le _, rfl, Lib.hid fun x hx => by simp at hx, Lib.hid (Below.refl _ _)⟩
  case round =>
    obtain ⟨j, hj, rfl, HT, HB⟩ := hrel
    have HW := Lib.hid (H3.out.below HB.out)
    obtain ⟨d0, d1, d2, d3, d4, d5, df⟩ := HW.out.m.cells
    rw [HMB.out] at d2
    by_cases hlt : j < L.length
    · obtain ⟨g, o, hA, hg, e0⟩ := HR3.out.1.below HB.out j hlt
      have q0 : (0 : Int) ≤ (j : Int) := by omega
      have q1 : (j : Int) < (L.length : Int) := by omega
      have HTT : Hid (∀ p : Int → Prop, p (L[j]'hlt) → (∀ x ∈ L.take j, p x) → ∀ x ∈ L.take (j + 1), p x) := Lib.hid fun p h1 h2 => take_mem hlt h2 h1
      have HFD : Hid (decide (colorC C1 (L[j]'hlt) = 2) = true → L.find? (fun r => decide (colorC C1 r = 2)) = some (L[j]'hlt)) := Lib.hid (find_none_take (p := fun r => decide (colorC C1 r = 2)) hlt HT.out)
      generalize L[j]'hlt = r at *
      have HAE := Lib.hid hA
      rw [hA]
      clear hA
      have HCO := Lib.hid (color_is HW.out.m HMB.out r)
      by_cases hv : colorC C1 r = 2
      · have HFS := Lib.hid (HFD.out (decide_eq_true hv))
        have HCO2 : Hid (Calls Try.prog 71 #[.pointer (some ⟨cb, 0, none⟩), .int .i64 r] wr fun e w' => e = .returned (.int .i64 2) ∧ wr = w') := Lib.hid (by have := HCO.out; rw [show colorC _ r = 2 from hv] at this; exact this)
        obtain ⟨w5, hrun, hm5, hu5⟩ := updI_run (HW.out.m.mc mb HMB.out) r 3
        have H5 := Lib.hid (HW.out.own1 (.inr (.inl HMB.out)) (HW.out.m.putC HMB.out hm5 hu5) hu5)
        obtain ⟨R, hR⟩ : ∃ R, R = refsH H r := ⟨_, rfl⟩
        have hq := H5.out.car.refs HOK1.out (by omega) r
        rw [show refsH (seenH H).1 r = refsH H r from rfl, ← hR] at hq
        have HQ := Lib.hid hq
        have hR9 : R.length ≤ 40000001 := by have h1 := refs_len HOK1.out r; have h2 := HOK1.out.mu4 (by omega); rw [show refsH (seenH H).1 r = refsH H r from rfl, ← hR] at h1; omega
        have HRE := Lib.hid hR
        have f0 := (H5.out.m.cells).1
        have HZ5 : Hid (w2.heap.size ≤ w5.heap.size) := Lib.hid (by have h1 := HB.out.size; have h2 := hu5.size; have h3 := HR3.out; have h4 := H3.out.mu.size; have h5 := HZ3.out; omega)
        clear hq hR hm5 hu5 hv HCO HFD d1 d3 d4 d5
        go_wp2_with (first
          | (go_at_call 71; refine HCO2.out.mono ?_; rintro e w4 ⟨rfl, rfl⟩)
          | (go_at_call 41; refine HQ.out.mono ?_; rintro e w6 ⟨RA, RC, rfl, ho6, hb6⟩
             have H6 := Lib.hid (H5.out.below hb6)
             have HO6 : Hid (RdI w6 RA R ∧ ∀ x, RA = some x → x.block ≠ mb) := Lib.hid ⟨RdI.of_own ho6, fun x hx => by have := own_blk ho6 x hx; have := HZ5.out; have := HCB.out; omega⟩
             clear ho6 hb6)
          | (go_at_call 89; refine (shade_is H6.out.m HMB.out RC HO6.out.1 (by omega) HO6.out.2).mono ?_; rintro e w7 ⟨rfl, hm7, hu7⟩
             have H7 := Lib.hid (H6.out.own1 (.inr (.inl HMB.out)) hm7 hu7)
             clear hm7 hu7))
        (try simp only [Exit.inBlock, Exit.then])
        refine bodyPost_ret (results_none rfl _ _ _) rfl ?_
        have hfin : markM H c = ((seenH H).1, { c with colors := shadeC (Mp.put C1 r 3) R }) := by
          unfold markM
          simp only
          rw [← HSE.out, ← HC1.out, ← HLE.out, HFS.out, HRE.out]
        rw [hfin]
        exact ⟨rfl, H7.out.cc (fun _ => ⟨mb, HMB.out⟩) fun e => by rw [show _ = c.phase from rfl, HPH.out] at e; cases e⟩
      · have HT2 := Lib.hid (HTT.out (fun x => decide (colorC C1 x = 2) = false) (decide_eq_false hv) HT.out)
        have hv2 : (colorC C1 r == 2) = false := by simpa using hv
        have HCO2 : Hid (Calls Try.prog 71 #[.pointer (some ⟨cb, 0, none⟩), .int .i64 r] wr fun e w' => e = .returned (.int .i64 (colorC C1 r)) ∧ wr = w') := HCO
        clear HCO hv HFD HTT d0 d1 d2 d3 d4 d5
        generalize colorC C1 r = v at *
        go_wp2_with (go_at_call 71; refine HCO2.out.mono ?_; rintro e w4 ⟨rfl, rfl⟩)
        go_roundw
        case rel => (try rw [← HAE.out]); exact ⟨j + 1, by omega, by go_num, HT2, HB⟩
        case measure => simp [intOf]; omega
    · obtain rfl : j = L.length := by omega
      rw [List.take_length] at HT
      clear hlt hj d1 d2 d3 d4 d5
      have HFN : Hid (L.find? (fun r => decide (colorC C1 r = 2)) = none) := Lib.hid (List.find?_eq_none.2 fun x hx => by rw [HT.out x hx]; simp)
      have HWT := Lib.hid (HW.out.car.watch false)
      have HRW : Hid (RdI wr LA L) := Lib.hid (HR3.out.1.below HB.out)
      have HZW : Hid (w3.heap.size ≤ wr.heap.size) := Lib.hid HB.out.size
      have hmm := @run_makeMap Try.prog
      obtain ⟨wp, hwp⟩ : ∃ wp : World, wp = wr := ⟨_, rfl⟩
      subst hwp
      go_wp2_with (go_at_call 36; refine HWT.out.mono ?_; rintro e w5 ⟨rfl, hc5⟩
                   have H5 := Lib.hid (HW.out.heap hc5)
                   have HR5 : Hid (RdI w5 LA L) := Lib.hid (HRW.out.mut hc5.2 fun x hx e => e.2 (.inr ⟨x, hx, rfl⟩))
                   have HZ5 := Lib.hid hc5.2.size
                   obtain ⟨d0, d1, d2, d3, d4, d5, df⟩ := H5.out.m.cells
                   have dl := lt_of_heap H5.out.m.blk
                   have H6 := Lib.hid H5.out.sweeps
                   have HSW := Lib.hid H5.out.m.sweeps
                   clear hc5)
      clear d0 d1 d2 d3 d4 d5 df dl hmm HWT HRW HW H3 H5
      obtain ⟨W6, hW6⟩ : ∃ W6, W6 = (((w5.setCell ⟨cb, 1, none⟩ (.int .i64 2)).setCell ⟨cb, 3, none⟩ (.map (some w5.heap.size))).alloc (.map #[] 0)) := ⟨_, rfl⟩
      have HLA : Hid (∀ x, LA = some x → x.block ≠ cb ∧ x.block ≠ w5.heap.size ∧ x.block ≠ mb ∧ x.block < w5.heap.size) := Lib.hid fun x hx => by have h1 := HR3.out.2 x hx; have h2 := HCB.out; have h3 := HZW.out; have h4 := HZ5.out; omega
      have HR6 : Hid (RdI W6 LA L ∧ w5.heap.size < W6.heap.size) := Lib.hid (by
        obtain ⟨_, hu, hsz⟩ := HSW.out
        rw [hW6]
        refine ⟨HR5.out.mut (hu.then (Mut.of_below ((Below.refl _ _).alloc (Nat.le_refl _) _))) fun x hx e => (HLA.out x hx).1 e, ?_⟩
        simp)
      have HAP : Hid (Apart LA a.lA a.lC) := Lib.hid fun x hx y hy hC e => by have h1 := HR3.out.2 x hx; have h2 := HCB.out.2.2 y hy hC; omega
      rw [← hW6] at H6 ⊢
      clear HSW HR5 hW6
      generalize w5.heap.size = m2 at *
      go_loopw [57] (fun p wr => ∃ (j : Nat) (V : List Int) (a' : CA) (Kx' : Nat → Prop), j ≤ L.length ∧ p = .int .i64 j ∧ Hid (V = whiteL C1 (L.take j)) ∧ Hid (MS w0 w hb cb K (watchH (seenH H).1 false) { c with phase := 2, colors := C1, swept := sweptL V, list := c.list ++ V } a' Kx' wr) ∧ Hid (a'.mc = some mb ∧ a'.ms = some m2 ∧ RdI wr LA L ∧ W6.heap.size ≤ wr.heap.size ∧ Apart LA a'.lA a'.lC)) (fun i _ => L.length - (intOf i).toNat)
      case atStart => exact ⟨0, [], { a with ms := some m2 }, _, Nat.zero_le _, rfl, Lib.hid rfl, Lib.hid (by rw [List.append_nil]; exact H6.out), Lib.hid ⟨HMB.out, rfl, HR6.out.1, Nat.le_refl _, HAP.out⟩⟩
      case round =>
        obtain ⟨j, V, a', Kx', hj, rfl, HV, HW, HF⟩ := hrel
        obtain ⟨d0, d1, d2, d3, d4, d5, df⟩ := HW.out.m.cells
        have dl := lt_of_heap HW.out.m.blk
        rw [HF.out.1] at d2
        rw [HF.out.2.1] at d3
        by_cases hlt : j < L.length
        · obtain ⟨g, o, hA, hg, e0⟩ := HF.out.2.2.1 j hlt
          have q0 : (0 : Int) ≤ (j : Int) := by omega
          have q1 : (j : Int) < (L.length : Int) := by omega
          have HTT : Hid (L.take (j + 1) = L.take j ++ [L[j]'hlt]) := Lib.hid (List.take_succ_eq_append_getElem hlt)
          generalize L[j]'hlt = r at *
          have HAE := Lib.hid hA
          rw [hA]
          clear hA
          have HCO := Lib.hid (color_is HW.out.m HF.out.1 r)
          have hvl : V.length ≤ 900 := by rw [HV.out]; unfold whiteL; refine Nat.le_trans (List.length_filter_le _ _) ?_; rw [List.length_take]; omega
          obtain ⟨Q, hQ⟩ : ∃ Q, Q = c.list ++ V := ⟨_, rfl⟩
          have hll : Q.length ≤ 100000000 := by rw [hQ, List.length_append]; have := HLS.out; omega
          rw [show ({ c with phase := 2, colors := C1, swept := sweptL V, list := c.list ++ V } : Cl).list = Q from hQ.symm] at d4
          rw [← hQ] at HW
          have HQQ := Lib.hid hQ
          clear hQ
          by_cases hv : colorC C1 r = 1
          · have HCO2 : Hid (Calls Try.prog 71 #[.pointer (some ⟨cb, 0, none⟩), .int .i64 r] wr fun e w' => e = .returned (.int .i64 1) ∧ wr = w') := Lib.hid (by have := HCO.out; rw [show colorC _ r = 1 from hv] at this; exact this)
            have HV2 : Hid (V ++ [r] = whiteL C1 (L.take (j + 1))) := Lib.hid (by rw [HTT.out, whiteL_snoc, if_pos hv, HV.out])
            clear hv HCO d1 d2 d5
            go_wp2_with (first
              | (go_at_call 71; refine HCO2.out.mono ?_; rintro e w4 ⟨rfl, rfl⟩)
              | (at_builtin; refine app_q rfl _ _ rfl 0 a'.lA a'.lC Q r rfl HW.out.m.q rfl rfl hll (Nat.zero_le _) ?_
                 intro A3 C3 ys w8 hys hq8 hu8 hb8
                 have H8 := Lib.hid (HW.out.push hq8 hu8 hb8)
                 have hk8 := (hu8.block cb dl fun ⟨x, hx, hC, e⟩ => (HW.out.m.qne x hx hC).1 e).trans HW.out.m.blk
                 have e3 : w8.cell? ⟨cb, 3, none⟩ = some (.map (some m2)) := by rw [← HF.out.2.1]; exact cell_of_heap hk8 rfl
                 have e4 := cell_of_heap (v := .slice a'.lA Q.length a'.lC) hk8 (j := 4) rfl
                 have ef := fun i => frozen_of_heap hk8 i
                 have el := lt_of_heap hk8
                 obtain ⟨w10, hup, hm10, hu10⟩ := updB_run (H8.out.m.ms m2 HF.out.2.1) r true
                 have H10 := Lib.hid (H8.out.own1 (.inr (.inr (.inl HF.out.2.1))) (H8.out.m.putS HF.out.2.1 hm10 hu10) hu10)
                 have HR10 : Hid (RdI w10 LA L ∧ W6.heap.size ≤ w10.heap.size ∧ Apart LA A3 C3) := Lib.hid ⟨((HF.out.2.2.1.mut hu8 fun x hx ⟨y, hy, hC, e⟩ => HF.out.2.2.2.2 x hx y hy hC e).mut (T := (· = cb)) (Mut.setCell _ _ _ _ rfl) fun x hx e => (HLA.out x hx).1 e).mut hu10 fun x hx e => (HLA.out x hx).2.1 e, Nat.le_trans HF.out.2.2.2.1 (Nat.le_trans hu8.size (Nat.le_trans (by simp) hu10.size)), HF.out.2.2.2.2.app (fun x hx => by have h1 := HLA.out x hx; have h2 := HR6.out.2; have h3 := HF.out.2.2.2.1; omega) hb8⟩
                 have HYS := Lib.hid hys
                 clear hys hq8 hu8 hb8 hk8 hm10 hu10))
            go_roundw
            case rel =>
              (try rw [← HAE.out])
              have h10 : ∃ K10, MS w0 w hb cb K (watchH (seenH H).1 false) { c with phase := 2, colors := C1, swept := sweptL (V ++ [r]), list := c.list ++ (V ++ [r]) } { a' with lA := A3, lC := C3 } K10 w10 := by
                rw [sweptL_snoc, ← List.append_assoc, ← HQQ.out, ← HYS.out]
                exact ⟨_, H10.out⟩
              obtain ⟨K10, h10⟩ := h10
              exact ⟨j + 1, V ++ [r], { a' with lA := A3, lC := C3 }, K10, by omega, by go_num, HV2, Lib.hid h10, Lib.hid ⟨HF.out.1, HF.out.2.1, HR10.out⟩⟩
            case measure => simp [intOf]; omega
          · have HV2 : Hid (V = whiteL C1 (L.take (j + 1))) := Lib.hid (by rw [HTT.out, whiteL_snoc, if_neg hv, List.append_nil]; exact HV.out)
            have hv2 : (colorC C1 r == 1) = false := by simpa using hv
            have HCO2 : Hid (Calls Try.prog 71 #[.pointer (some ⟨cb, 0, none⟩), .int .i64 r] wr fun e w' => e = .returned (.int .i64 (colorC C1 r)) ∧ wr = w') := HCO
            clear HCO hv d0 d1 d2 d3 d4 d5
            generalize colorC C1 r = v at *
            go_wp2_with (go_at_call 71; refine HCO2.out.mono ?_; rintro e w4 ⟨rfl, rfl⟩)
            go_roundw
            case rel => (try rw [← HAE.out]); rw [HQQ.out] at HW; exact ⟨j + 1, V, a', Kx', by omega, by go_num, HV2, HW, HF⟩
            case measure => simp [intOf]; omega
        · obtain rfl : j = L.length := by omega
          rw [List.take_length] at HV
          clear hlt hj d0 d1 d2 d3 d4 d5 df dl
          have hfin : markM H c = (watchH (seenH H).1 false, { c with phase := 2, colors := C1, swept := sweptL V, list := c.list ++ V }) := by
            unfold markM
            simp only
            rw [← HSE.out, ← HC1.out, ← HLE.out, HFN.out, ← HV.out]
          go_wp2
          go_end0
          rw [hfin]
          exact ⟨rfl, HW.out.cc (fun e => by cases e) fun _ => ⟨m2, HF.out.2.1⟩⟩
end Go.Proofs.Ytodfpclekihbhaa

