/- Texts on the heap, merged: Q1, Q2. -/
import Derived.Test.YtodfpclekihbhaaG33
import Derived.Test.YtodfpclekihbhaaG27
/- A collector in memory; none, color, shade. -/
namespace Go.Proofs.Ytodfpclekihbhaa
open Go.RowKit Go.Shelf

/-- A collector. -/
structure Cl where
  phase : Int
  colors : List (Int × Int)
  swept : List (Int × Bool)
  list : List Int
  rounds : Int
/-- Where its parts lie. -/
structure CA where
  mc : Option Nat
  ms : Option Nat
  lA : Option Addr
  lC : Nat
def CA.own (a : CA) (cb : Nat) (k : Nat) : Prop := k = cb ∨ a.mc = some k ∨ a.ms = some k ∨ ∃ x, a.lA = some x ∧ 0 < a.lC ∧ x.block = k
def clV (a : CA) (hb : Nat) (c : Cl) : Array Value := #[.pointer (some ⟨hb, 0, none⟩), .int .i64 c.phase, .map a.mc, .map a.ms, .slice a.lA c.list.length a.lC, .int .i64 c.rounds]
structure ClM (w : World) (cb hb : Nat) (a : CA) (c : Cl) : Prop where
  blk : w.heap[cb]? = some (.cells (clV a hb c) 116 (0, 0))
  mc : ∀ b, a.mc = some b → Mp.MapIs w b kV (Value.int .i64) c.colors
  mcn : a.mc = none → c.colors = []
  ms : ∀ b, a.ms = some b → Mp.MapIs w b kV Value.bool c.swept
  msn : a.ms = none → c.swept = []
  q : QAt w 0 a.lA a.lC c.list
  ccb : a.mc ≠ some cb ∧ a.ms ≠ some cb
  nem : ∀ b, a.mc = some b → a.ms ≠ some b
  qne : ∀ x, a.lA = some x → 0 < a.lC → x.block ≠ cb ∧ a.mc ≠ some x.block ∧ a.ms ≠ some x.block
variable {w w' : World} {cb hb : Nat} {a : CA} {c : Cl}
theorem ClM.mut {T : Nat → Prop} (h : ClM w cb hb a c) (hm : Mut T w w') (hT : ∀ k, a.own cb k → ¬ T k) : ClM w' cb hb a c :=
  { h with
    blk := (hm.block _ (lt_of_heap h.blk) (hT _ (.inl rfl))).trans h.blk
    mc := fun b hb => (h.mc b hb).of_block (hm.block _ (h.mc b hb).lt (hT _ (.inr (.inl hb))))
    ms := fun b hb => (h.ms b hb).of_block (hm.block _ (h.ms b hb).lt (hT _ (.inr (.inr (.inl hb)))))
    q := h.q.mut hm fun x hx hC => hT _ (.inr (.inr (.inr ⟨x, hx, hC, rfl⟩))) }
theorem ClM.below (h : ClM w cb hb a c) (hb' : Below w.heap.size w w') : ClM w' cb hb a c := h.mut (T := fun _ => False) (Mut.of_below hb') fun _ _ h => h
theorem ClM.lt (h : ClM w cb hb a c) {k : Nat} (hk : a.own cb k) : k < w.heap.size := by
  rcases hk with rfl | hk | hk | ⟨x, hx, hC, rfl⟩
  · exact lt_of_heap h.blk
  · exact (h.mc k hk).lt
  · exact (h.ms k hk).lt
  · obtain ⟨g, o, rfl, _, h2, _⟩ := h.q.at_ x hx hC
    exact h2
theorem ClM.cells (h : ClM w cb hb a c) : w.cell? ⟨cb, 0, none⟩ = some (.pointer (some ⟨hb, 0, none⟩)) ∧ w.cell? ⟨cb, 1, none⟩ = some (.int .i64 c.phase) ∧ w.cell? ⟨cb, 2, none⟩ = some (.map a.mc) ∧ w.cell? ⟨cb, 3, none⟩ = some (.map a.ms) ∧ w.cell? ⟨cb, 4, none⟩ = some (.slice a.lA c.list.length a.lC) ∧ w.cell? ⟨cb, 5, none⟩ = some (.int .i64 c.rounds) ∧ ∀ i, w.frozen? ⟨cb, i, none⟩ = false :=
  ⟨cell_of_heap h.blk rfl, cell_of_heap h.blk rfl, cell_of_heap h.blk rfl, cell_of_heap h.blk rfl, cell_of_heap h.blk rfl, cell_of_heap h.blk rfl, fun i => frozen_of_heap h.blk i⟩
/-- The colors turn. -/
theorem ClM.putC {mb : Nat} {C' : List (Int × Int)} (h : ClM w cb hb a c) (hmb : a.mc = some mb) (hm : Mp.MapIs w' mb kV (Value.int .i64) C') (hu : Mut (· = mb) w w') : ClM w' cb hb a { c with colors := C' } :=
  { blk := (hu.block _ (lt_of_heap h.blk) fun e => h.ccb.1 (by rw [hmb, e])).trans h.blk
    mc := fun b hb => by rw [hmb] at hb; injection hb with hb; exact hb ▸ hm
    mcn := fun e => by rw [hmb] at e; cases e
    ms := fun b hb => (h.ms b hb).of_block (hu.block _ (h.ms b hb).lt fun e => h.nem mb hmb (by rw [hb, e]))
    msn := h.msn
    q := h.q.mut hu fun x hx hC e => (h.qne x hx hC).2.1 (by rw [hmb]; exact congrArg some e.symm)
    ccb := h.ccb, nem := h.nem, qne := h.qne }
theorem none_is (h : ClM w cb hb a c) : Calls Try.prog 68 #[.pointer (some ⟨cb, 0, none⟩)] w fun e w' => e = .returned (.bool false) ∧ w = w' := by
  obtain ⟨c0, c1, c2, c3, c4, c5, cf⟩ := h.cells
  clear h
  go_enter Try.func68, Try.ntmps68
  go_wp2
  all_goals go_ret
  all_goals exact ⟨rfl, rfl⟩
theorem none_nil (w : World) : Calls Try.prog 68 #[.pointer none] w fun e w' => e = .returned (.bool true) ∧ w = w' := by
  go_enter Try.func68, Try.ntmps68
  go_wp2
  all_goals go_ret
  all_goals exact ⟨rfl, rfl⟩
def colorC (C : List (Int × Int)) (r : Int) : Int := (Mp.get C r).getD 1
theorem lookI_ok {w : World} {b : Nat} {L : List (Int × Int)} (hmap : Mp.MapIs w b kV (Value.int .i64) L) (x : Int) : (Instr.lookup 81 (.map (some b)) (.int .i64 x) true).run Try.prog w = .ok (.tuple #[.int .i64 (gC L x), .bool (Mp.get L x).isSome]) w := by
  have := hmap.lookup_ok (P := Try.prog) (z := .int .i64 0) Try.underlying81 Try.underlying26 kV_key kV_inj (by kernel_rfl) x
  rw [show (Value.int IntKind.i64 x) = kV x from rfl, this]
  unfold gC
  cases Mp.get L x <;> rfl
theorem color_is (h : ClM w cb hb a c) {mb : Nat} (hmb : a.mc = some mb) (r : Int) : Calls Try.prog 71 #[.pointer (some ⟨cb, 0, none⟩), .int .i64 r] w fun e w' => e = .returned (.int .i64 (colorC c.colors r)) ∧ w = w' := by
  obtain ⟨c0, c1, c2, c3, c4, c5, cf⟩ := h.cells
  rw [hmb] at c2
  have hl := lookI_ok (h.mc mb hmb) r
  have HE : Hid (colorC c.colors r = if (Mp.get c.colors r).isSome = true then gC c.colors r else 1) := Lib.hid (by unfold colorC gC; cases Mp.get c.colors r <;> rfl)
  clear h
  generalize gC c.colors r = v at *
  generalize (Mp.get c.colors r).isSome = b at *
  cases b
  all_goals
    go_enter Try.func71, Try.ntmps71
    go_wp2
    go_ret
    exact ⟨by rw [HE.out]; rfl, rfl⟩
/-- White ones of a list become grey. -/
def shade1 (C : List (Int × Int)) (r : Int) : List (Int × Int) := if colorC C r = 1 then Mp.put C r 2 else C
def shadeC (C : List (Int × Int)) (l : List Int) : List (Int × Int) := l.foldl shade1 C
theorem shadeC_snoc (C : List (Int × Int)) (l : List Int) (x : Int) : shadeC C (l ++ [x]) = shade1 (shadeC C l) x := by unfold shadeC; rw [List.foldl_append]; rfl
set_option maxHeartbeats 1000000 in
theorem shade_is (h : ClM w cb hb a c) {mb : Nat} (hmb : a.mc = some mb) {LA : Option Addr} {l : List Int} (LC : Nat) (hl : RdI w LA l) (hn : l.length ≤ 100000000) (hLA : ∀ x, LA = some x → x.block ≠ mb) :
    Calls Try.prog 89 #[.pointer (some ⟨cb, 0, none⟩), .slice LA l.length LC] w fun e w' => e = .returned (.tuple #[]) ∧ ClM w' cb hb a { c with colors := shadeC c.colors l } ∧ Mut (· = mb) w w' := by
  have HM := Lib.hid h
  have HL := Lib.hid hl
  have HLA := Lib.hid hLA
  have HMB := Lib.hid hmb
  clear h hl hLA hmb
  go_enter Try.func89, Try.ntmps89
  go_wp2
  go_loopw [8] (fun p wr => ∃ j : Nat, j ≤ l.length ∧ p = .int .i64 j ∧ Hid (ClM wr cb hb a { c with colors := shadeC c.colors (l.take j) } ∧ Mut (· = mb) w wr)) (fun i _ => l.length - (intOf i).toNat)
  case atStart => exact ⟨0, Nat.zero_le _, rfl, Lib.hid ⟨HM.out, Mut.refl _ _⟩⟩
  case round =>
    obtain ⟨j, hj, rfl, HR⟩ := hrel
    by_cases hlt : j < l.length
    · obtain ⟨g, o, hA, hg, c1⟩ := (HL.out.mut HR.out.2 fun x hx e => HLA.out x hx e) j hlt
      have q0 : (0 : Int) ≤ (j : Int) := by omega
      have q1 : (j : Int) < (l.length : Int) := by omega
      have HT : Hid (l.take (j + 1) = l.take j ++ [l[j]'hlt]) := Lib.hid (List.take_succ_eq_append_getElem hlt)
      rw [hA]
      clear hA
      generalize l[j]'hlt = r at *
      have HCO := Lib.hid (color_is HR.out.1 HMB.out r)
      obtain ⟨d0, d1, d2, d3, d4, d5, df⟩ := HR.out.1.cells
      rw [HMB.out] at d2
      by_cases hw : colorC (shadeC c.colors (l.take j)) r = 1
      · obtain ⟨w5, hrun, hm5, hu5⟩ := updI_run (HR.out.1.mc mb HMB.out) r 2
        have H5 : Hid (ClM w5 cb hb a { c with colors := Mp.put (shadeC c.colors (l.take j)) r 2 } ∧ Mut (· = mb) w w5) := Lib.hid ⟨HR.out.1.putC HMB.out hm5 hu5, HR.out.2.then hu5⟩
        have HE : Hid (shadeC c.colors (l.take (j + 1)) = Mp.put (shadeC c.colors (l.take j)) r 2) := Lib.hid (by rw [HT.out, shadeC_snoc]; exact if_pos hw)
        have HCO2 : Hid (Calls Try.prog 71 #[.pointer (some ⟨cb, 0, none⟩), .int .i64 r] wr fun e w' => e = .returned (.int .i64 1) ∧ wr = w') := Lib.hid (by have := HCO.out; rw [show colorC _ r = 1 from hw] at this; exact this)
        clear hm5 hu5 d0 d1 d3 d4 d5 hw
        go_wp2_with (go_at_call 71; refine HCO2.out.mono ?_; rintro e w6 ⟨rfl, rfl⟩)
        go_roundw
        case rel => exact ⟨j + 1, by omega, by go_num, Lib.hid (by rw [HE.out]; exact H5.out)⟩
        case measure => simp [intOf]; omega
      · have HE : Hid (shadeC c.colors (l.take (j + 1)) = shadeC c.colors (l.take j)) := Lib.hid (by rw [HT.out, shadeC_snoc]; exact if_neg hw)
        have hw2 : (colorC (shadeC c.colors (l.take j)) r == 1) = false := by simpa using hw
        have HCO2 : Hid (Calls Try.prog 71 #[.pointer (some ⟨cb, 0, none⟩), .int .i64 r] wr fun e w' => e = .returned (.int .i64 (colorC (shadeC c.colors (l.take j)) r)) ∧ wr = w') := HCO
        clear d0 d1 d2 d3 d4 d5 hw HCO
        generalize colorC (shadeC c.colors (l.take j)) r = v at *
        go_wp2_with (go_at_call 71; refine HCO2.out.mono ?_; rintro e w6 ⟨rfl, rfl⟩)
        go_roundw
        case rel => exact ⟨j + 1, by omega, by go_num, Lib.hid (by rw [HE.out]; exact HR.out)⟩
        case measure => simp [intOf]; omega
    · obtain rfl : j = l.length := by omega
      rw [List.take_length] at HR
      clear hlt hj
      go_wp2
      go_end0
      exact ⟨rfl, HR.out.1, HR.out.2⟩
end Go.Proofs.Ytodfpclekihbhaa

/- A collector beside its heap; New, Begin. -/
namespace Go.Proofs.Ytodfpclekihbhaa
open Go.RowKit Go.Shelf

/-- The collector c at cb and its heap H at hb, apart from K. -/
structure CC (w0 : World) (hb cb : Nat) (K : Nat → Prop) (H : Hp) (c : Cl) (w : World) : Prop where
  ex : ∃ a K', ClM w cb hb a c ∧ Car w0 hb K' H w ∧ (∀ k, a.own cb k → K' k ∧ w0.heap.size ≤ k ∧ ¬ K k) ∧ (∀ k, K k → K' k) ∧ (c.phase = 1 → ∃ mb, a.mc = some mb) ∧ (c.phase = 2 → ∃ mb, a.ms = some mb)
variable {w0 w w' : World} {cb hb : Nat} {K : Nat → Prop} {H : Hp} {c : Cl} {N : Nat}
theorem CC.below (h : CC w0 hb cb K H c w) (hb' : Below w.heap.size w w') : CC w0 hb cb K H c w' := by
  obtain ⟨a, K', h1, h2, h3, h4, h5⟩ := h.ex
  exact ⟨a, K', h1.below hb', h2.below hb', h3, h4, h5⟩
theorem CC.forget {K2 : Nat → Prop} (h : CC w0 hb cb K H c w) (hk : ∀ k, K2 k → K k) : CC w0 hb cb K2 H c w := by
  obtain ⟨a, K', h1, h2, h3, h4, h5⟩ := h.ex
  exact ⟨a, K', h1, h2, fun k h => ⟨(h3 k h).1, (h3 k h).2.1, fun e => (h3 k h).2.2 (hk k e)⟩, fun k h => h4 k (hk k h), h5⟩
theorem CC.bel (h : CC w0 hb cb K H c w) : Below w0.heap.size w0 w := by
  obtain ⟨a, K', h1, h2, _⟩ := h.ex
  exact h2.bel
/-- New blocks are kept. -/
theorem Car.keepS {P : Nat → Prop} (c : Car w0 hb K H w) (h : Below w.heap.size w w') (hP : ∀ k, P k → w.heap.size ≤ k ∧ k < w'.heap.size) : Car w0 hb (fun k => K k ∨ P k) H w' := by
  obtain ⟨⟨A, S, hp, hS⟩, b, hk⟩ := c
  refine ⟨⟨A, S, hp.below h, fun x hx => ⟨(hS x hx).1, ?_⟩⟩, b.trans (h.mono b.size), ?_⟩
  · rintro (e | e)
    · exact (hS x hx).2 e
    · have := hp.Slt _ hx; have := (hP x e).1; omega
  · rintro x (e | e)
    · exact Nat.lt_of_lt_of_le (hk x e) h.size
    · exact (hP x e).2
theorem CC.keep {P : Nat → Prop} (h : CC w0 hb cb K H c w) (hb' : Below w.heap.size w w') (hP : ∀ k, P k → w.heap.size ≤ k ∧ k < w'.heap.size) : CC w0 hb cb (fun k => K k ∨ P k) H c w' := by
  obtain ⟨a, K', h1, h2, h3, h4, h5⟩ := h.ex
  refine ⟨a, fun k => K' k ∨ P k, h1.below hb', h2.keepS hb' hP, fun k hk => ⟨.inl (h3 k hk).1, (h3 k hk).2.1, fun e => e.elim (h3 k hk).2.2 fun e => ?_⟩, fun k hk => hk.imp (h4 k) id, h5⟩
  have := h1.lt hk
  have := (hP k e).1
  omega
/-- A call of the heap beside the collector. -/
theorem CC.hcall {P : Program} {f : FuncId} {args : Array Value} {R : Ending → World → Prop} (h : CC w0 hb cb K H c w) (g : ∀ K', Car w0 hb K' H w → Calls P f args w fun e w' => ∃ H', CPost w0 w hb K' H' w' ∧ (CC w0 hb cb K H' c w' → Mut (Off w0 K) w w' → R e w')) : Calls P f args w R := by
  obtain ⟨a, K', h1, h2, h3, h4, h5⟩ := h.ex
  refine (g K' h2).mono fun e w' ⟨H', q1, q2⟩ => q2 ⟨a, K', h1.mut q1.2 fun k hk e => e.2 (h3 k hk).1, q1.1, h3, h4, h5⟩ (q1.2.mono fun k hk => .inl ⟨hk.1, fun e => hk.2 (h4 k e)⟩)
theorem CC.hquiet {P : Program} {f : FuncId} {args : Array Value} {R : Ending → World → Prop} (h : CC w0 hb cb K H c w) (g : ∀ K', Car w0 hb K' H w → Calls P f args w R) : Calls P f args w R := by
  obtain ⟨a, K', h1, h2, _⟩ := h.ex
  exact g K' h2
def newCl : Cl := ⟨0, [], [], [], 0⟩
theorem newC_calls (h : Car w0 hb K H w) : Calls Try.prog 20 #[.pointer (some ⟨hb, 0, none⟩)] w fun e w' => ∃ cb, e = .returned (.pointer (some ⟨cb, 0, none⟩)) ∧ CC w0 hb cb K H newCl w' ∧ Below w.heap.size w w' := by
  have HC := Lib.hid h
  clear h
  go_enter Try.func20, Try.ntmps20
  go_wp2
  all_goals go_ret
  have ba : Below w.heap.size w (w.alloc (.cells #[.pointer (some ⟨hb, 0, none⟩), .int .i64 0, .map none, .map none, .slice none 0 0, .int .i64 0] 116)) := (Below.refl _ _).alloc (Nat.le_refl _) _
  refine ⟨w.heap.size, rfl, ⟨⟨none, none, none, 0⟩, _, ?_, HC.out.keepS (P := (· = w.heap.size)) ba fun k hk => by subst hk; exact ⟨Nat.le_refl _, by simp⟩, fun k hk => ?_, fun k hk => .inl hk, (fun e => by cases e), fun e => by cases e⟩, ba⟩
  · exact ⟨heap_alloc_new w _, (fun b e => by cases e), fun _ => rfl, (fun b e => by cases e), fun _ => rfl, QAt.empty _ _, ⟨(fun e => by cases e), fun e => by cases e⟩, (fun b e => by cases e), fun x e => by cases e⟩
  · rcases hk with rfl | hk | hk | ⟨x, hx, _⟩
    · exact ⟨.inr rfl, HC.out.bel.size, fun e => by have := HC.out.klt _ e; omega⟩
    · cases hk
    · cases hk
    · cases hx
/-- The cells 1 and 2 of a collector turn: it marks, with a new map of colors. -/
theorem ClM.marks {a : CA} (h : ClM w cb hb a c) : ClM (((w.setCell ⟨cb, 1, none⟩ (.int .i64 1)).setCell ⟨cb, 2, none⟩ (.map (some w.heap.size))).alloc (.map #[] 0)) cb hb { a with mc := some w.heap.size } { c with phase := 1, colors := [] } ∧ Mut (· = cb) w ((w.setCell ⟨cb, 1, none⟩ (.int .i64 1)).setCell ⟨cb, 2, none⟩ (.map (some w.heap.size))) ∧ ((w.setCell ⟨cb, 1, none⟩ (.int .i64 1)).setCell ⟨cb, 2, none⟩ (.map (some w.heap.size))).heap.size = w.heap.size := by
  have k1 := heap_setCell_same _ cb 1 _ _ (.int .i64 1) h.blk
  have k2 := heap_setCell_same _ cb 2 _ _ (.map (some w.heap.size)) k1
  have m1 : Mut (· = cb) w (w.setCell ⟨cb, 1, none⟩ (.int .i64 1)) := Mut.setCell _ _ _ _ rfl
  have m2 : Mut (· = cb) (w.setCell ⟨cb, 1, none⟩ (.int .i64 1)) ((w.setCell ⟨cb, 1, none⟩ (.int .i64 1)).setCell ⟨cb, 2, none⟩ (.map (some w.heap.size))) := Mut.setCell _ _ _ _ rfl
  have hsz : ((w.setCell ⟨cb, 1, none⟩ (.int .i64 1)).setCell ⟨cb, 2, none⟩ (.map (some w.heap.size))).heap.size = w.heap.size := by simp
  have m0 := m1.then m2
  generalize ((w.setCell ⟨cb, 1, none⟩ (.int .i64 1)).setCell ⟨cb, 2, none⟩ (.map (some w.heap.size))) = W at *
  have ba : Below W.heap.size W (W.alloc (.map #[] 0)) := (Below.refl _ _).alloc (Nat.le_refl _) _
  have m := m0.then (Mut.of_below ba)
  have hown := fun k hk => h.lt (k := k) hk
  have hmade := Mp.MapIs.made W kV (Value.int .i64)
  rw [hsz] at hmade
  refine ⟨⟨(ba.block _ (lt_of_heap k2)).trans k2, fun b e => ?_, (fun e => by cases e), fun b e => (h.ms b e).of_block (m.block _ (h.ms b e).lt fun e2 => h.ccb.2 (e2 ▸ e)), h.msn, h.q.mut m fun x hx hC e => (h.qne x hx hC).1 e, ⟨fun e => ?_, h.ccb.2⟩, fun b e e2 => ?_, fun x hx hC => ⟨(h.qne x hx hC).1, fun e => ?_, (h.qne x hx hC).2.2⟩⟩, m0, hsz⟩
  · injection e with e
    subst e
    exact hmade
  · injection e with e
    have := lt_of_heap h.blk
    omega
  · injection e with e
    subst e
    have := hown _ (.inr (.inr (.inl e2)))
    omega
  · injection e with e
    have := hown _ (.inr (.inr (.inr ⟨x, hx, hC, rfl⟩)))
    omega
/-- Those that are held are grey. -/
def grey1 (H : Hp) (C : List (Int × Int)) (r : Int) : List (Int × Int) := if 0 < holdsH H r then Mp.put C r 2 else C
def greyC (H : Hp) (l : List Int) : List (Int × Int) := l.foldl (grey1 H) []
theorem greyC_snoc (H : Hp) (l : List Int) (x : Int) : greyC H (l ++ [x]) = grey1 H (greyC H l) x := by unfold greyC; rw [List.foldl_append]; rfl
def beginM (H : Hp) (c : Cl) : (Hp × Cl) × Int := if c.phase ≠ 0 then ((H, c), 6) else ((watchH H true, { c with phase := 1, colors := greyC (watchH H true) (allH H) }), 0)
/-- What a call of a collector leaves. -/
def CPs (w0 w : World) (hb cb : Nat) (K : Nat → Prop) (R : Hp × Cl) (w' : World) : Prop := CC w0 hb cb K R.1 R.2 w' ∧ Mut (Off w0 K) w w'
theorem CPs.refl (h : CC w0 hb cb K H c w) : CPs w0 w hb cb K (H, c) w := ⟨h, Mut.refl _ _⟩
theorem begin_no (h : CC w0 hb cb K H c w) (hp : c.phase ≠ 0) : Calls Try.prog 22 #[.pointer (some ⟨cb, 0, none⟩)] w fun e w' => e = .returned (.int .i64 6) ∧ CPs w0 w hb cb K (H, c) w' := by
  obtain ⟨a, K', h1, h2⟩ := h.ex
  have HN := Lib.hid (none_is h1)
  have HC := Lib.hid h
  obtain ⟨c0, c1, c2, c3, c4, c5, cf⟩ := h1.cells
  have hp2 : (c.phase != 0) = !false := by simpa using hp
  generalize c.phase = ph at *
  clear h h1 h2 hp
  go_enter Try.func22, Try.ntmps22
  go_wp2_with (go_at_call 68; refine HN.out.mono ?_; rintro e w1 ⟨rfl, rfl⟩)
  go_ret
  exact ⟨rfl, CPs.refl HC.out⟩
set_option maxRecDepth 100000 in
set_option maxHeartbeats 4000000 in
theorem begin_ok (h : CC w0 hb cb K H c w) (ok : Ok H N) (hN : N ≤ 900) (hp : c.phase = 0) : Calls Try.prog 22 #[.pointer (some ⟨cb, 0, none⟩)] w fun e w' => e = .returned (.int .i64 0) ∧ CPs w0 w hb cb K (watchH H true, { c with phase := 1, colors := greyC (watchH H true) (allH H) }) w' := by
  obtain ⟨a, K', h1, h2, h3, h4, h5, h6⟩ := h.ex
  have HN := Lib.hid (none_is h1)
  have HM := Lib.hid h1
  have HCAR := Lib.hid h2
  have HOWN := Lib.hid h3
  have HKK := Lib.hid h4
  have HOK := Lib.hid (ok.watch true)
  have HWT := Lib.hid (h2.watch true)
  obtain ⟨c0, c1, c2, c3, c4, c5, cf⟩ := h1.cells
  rw [hp] at c1
  have hmm := @run_makeMap Try.prog
  obtain ⟨L, hL⟩ : ∃ L, L = allH H := ⟨_, rfl⟩
  rw [← hL]
  have hL9 : L.length ≤ 900 := by have := all_len ok; rw [← hL] at this; omega
  have HLE : Hid (L = allH (watchH H true)) := Lib.hid hL
  clear h h1 h2 h3 h4 h5 h6 hp ok hL
  go_enter Try.func22, Try.ntmps22
  go_wp2_with (first
    | (go_at_call 68; refine HN.out.mono ?_; rintro e w1 ⟨rfl, rfl⟩)
    | (go_at_call 36; refine HWT.out.mono ?_; rintro e w1 ⟨rfl, hc1⟩
       have hM1 := HM.out.mut hc1.2 fun k hk e => e.2 (HOWN.out k hk).1
       have HM2 := Lib.hid hM1.marks
       have HC1 := Lib.hid hc1
       obtain ⟨d0, d1, d2, d3, d4, d5, df⟩ := hM1.cells
       have dl := lt_of_heap hM1.blk
       clear hc1 hM1 c0 c1 c2 c3 c4 c5 cf)
    | (go_at_call 40
       obtain ⟨hm2, hmu, hsz⟩ := HM2.out
       have ba : Below ((w1.setCell ⟨cb, 1, none⟩ (.int .i64 1)).setCell ⟨cb, 2, none⟩ (.map (some w1.heap.size))).heap.size ((w1.setCell ⟨cb, 1, none⟩ (.int .i64 1)).setCell ⟨cb, 2, none⟩ (.map (some w1.heap.size))) (((w1.setCell ⟨cb, 1, none⟩ (.int .i64 1)).setCell ⟨cb, 2, none⟩ (.map (some w1.heap.size))).alloc (.map #[] 0)) := (Below.refl _ _).alloc (Nat.le_refl _) _
       have hcar2 := (HC1.out.1.turn hmu fun k hk => by rw [hk]; exact ⟨(HOWN.out cb (.inl rfl)).2.1, (HOWN.out cb (.inl rfl)).1⟩).keepS (P := (· = w1.heap.size)) ba fun k hk => by rw [hk, hsz]; exact ⟨Nat.le_refl _, by simp⟩
       have hmut2 : Mut (fun k => Off w0 K' k ∨ k = cb) w (((w1.setCell ⟨cb, 1, none⟩ (.int .i64 1)).setCell ⟨cb, 2, none⟩ (.map (some w1.heap.size))).alloc (.map #[] 0)) := ((HC1.out.2.mono fun k hk => .inl (.inl hk)).then (hmu.mono fun k hk => .inl (.inr hk))).then (Mut.of_below ba)
       have hq := hcar2.all HOK.out (by omega)
       rw [← HLE.out] at hq
       refine hq.mono ?_; rintro e w6 ⟨LA, LC, rfl, ho, hb6⟩
       have hsz2 : w1.heap.size < (((w1.setCell ⟨cb, 1, none⟩ (.int .i64 1)).setCell ⟨cb, 2, none⟩ (.map (some w1.heap.size))).alloc (.map #[] 0)).heap.size := by simp
       have HM6 := Lib.hid (hm2.below hb6)
       have HC6 := Lib.hid (hcar2.below hb6)
       have HMU6 := Lib.hid (hmut2.then (Mut.of_below hb6))
       have HR6 : Hid (RdI w6 LA L ∧ ∀ x, LA = some x → w1.heap.size < x.block) := Lib.hid ⟨RdI.of_own ho, fun x hx => by have := own_blk ho x hx; omega⟩
       clear hm2 hmu hsz ba hcar2 hmut2 hq ho hb6 hsz2))
  all_goals clear HM2 hmm d0 d1 d2 d3 d4 d5 df dl HWT HN
  have HMB : Hid (w0.heap.size ≤ w1.heap.size ∧ w1.heap.size < w6.heap.size ∧ w.heap.size ≤ w1.heap.size ∧ ∀ k, K k → k ≠ w1.heap.size) := Lib.hid ⟨HC1.out.1.bel.size, (HM6.out.mc _ rfl).lt, HC1.out.2.size, fun k hk => by have := HC1.out.1.klt k (HKK.out k hk); omega⟩
  clear HC1
  generalize w1.heap.size = mb at *
  go_loopw [32] (fun p wr => ∃ (j : Nat) (C : List (Int × Int)), j ≤ L.length ∧ p = .int .i64 j ∧ Hid (C = greyC (watchH H true) (L.take j)) ∧ Hid (ClM wr cb hb { a with mc := some mb } { c with phase := 1, colors := C } ∧ Mut (· = mb) w6 wr)) (fun i _ => L.length - (intOf i).toNat)
  case atStart => exact ⟨0, [], Nat.zero_le _, rfl, Lib.hid rfl, Lib.hid ⟨HM6.out, Mut.refl _ _⟩⟩
  case round =>
    obtain ⟨j, C, hj, rfl, HCE, HR⟩ := hrel
    have hcar := HC6.out.turn HR.out.2 fun k hk => by rw [hk]; exact ⟨HMB.out.1, .inr rfl⟩
    by_cases hlt : j < L.length
    · obtain ⟨g, o, hA, hg, e0⟩ := (HR6.out.1.mut HR.out.2 fun x hx e => by have h1 := HR6.out.2 x hx; have e : x.block = mb := e; omega) j hlt
      have q0 : (0 : Int) ≤ (j : Int) := by omega
      have q1 : (j : Int) < (L.length : Int) := by omega
      have HT : Hid (L.take (j + 1) = L.take j ++ [L[j]'hlt]) := Lib.hid (List.take_succ_eq_append_getElem hlt)
      generalize L[j]'hlt = r at *
      have HAE := Lib.hid hA
      rw [hA]
      clear hA
      have HHO := Lib.hid (hcar.holds r)
      obtain ⟨d0, d1, d2, d3, d4, d5, df⟩ := HR.out.1.cells
      clear hcar
      by_cases hp : 0 < holdsH (watchH H true) r
      · have HE : Hid (greyC (watchH H true) (L.take (j + 1)) = Mp.put C r 2) := Lib.hid (by rw [HT.out, greyC_snoc, ← HCE.out]; exact if_pos hp)
        obtain ⟨w8, hrun, hm8, hu8⟩ := updI_run (HR.out.1.mc mb rfl) r 2
        have H8 : Hid (ClM w8 cb hb { a with mc := some mb } { c with phase := 1, colors := Mp.put C r 2 } ∧ Mut (· = mb) w6 w8) := Lib.hid ⟨HR.out.1.putC rfl hm8 hu8, HR.out.2.then hu8⟩
        clear hm8 hu8 d1 d3 d4 d5
        generalize holdsH (watchH H true) r = v at *
        go_wp2_with (go_at_call 38; refine HHO.out.mono ?_; rintro e w7 ⟨rfl, rfl⟩)
        go_roundw
        case rel => (try rw [← HAE.out]); exact ⟨j + 1, Mp.put C r 2, by omega, by go_num, Lib.hid HE.out.symm, H8⟩
        case measure => simp [intOf]; omega
      · have HE : Hid (greyC (watchH H true) (L.take (j + 1)) = C) := Lib.hid (by rw [HT.out, greyC_snoc, ← HCE.out]; exact if_neg hp)
        have hp2 : decide (0 < holdsH (watchH H true) r) = false := decide_eq_false hp
        clear hp d1 d2 d3 d4 d5
        generalize holdsH (watchH H true) r = v at *
        go_wp2_with (go_at_call 38; refine HHO.out.mono ?_; rintro e w7 ⟨rfl, rfl⟩)
        go_roundw
        case rel => (try rw [← HAE.out]); exact ⟨j + 1, C, by omega, by go_num, Lib.hid HE.out.symm, HR⟩
        case measure => simp [intOf]; omega
    · obtain rfl : j = L.length := by omega
      rw [List.take_length] at HCE
      clear hlt hj
      have HCAR2 := Lib.hid hcar
      clear hcar
      go_wp2
      go_ret
      refine ⟨rfl, ⟨{ a with mc := some mb }, fun k => K' k ∨ k = mb, by rw [← HCE.out]; exact HR.out.1, HCAR2.out, fun k hk => ?_, fun k hk => .inl (HKK.out k hk), fun _ => ⟨mb, rfl⟩, fun e => by cases e⟩, (HMU6.out.mono fun k hk => ?_).trans HR.out.2 fun k hk => ?_⟩
      · rcases hk with rfl | hk | hk | hk
        · exact ⟨.inl (HOWN.out _ (.inl rfl)).1, (HOWN.out _ (.inl rfl)).2⟩
        · injection hk with hk
          subst hk
          exact ⟨.inr rfl, HMB.out.1, fun e => HMB.out.2.2.2 _ e rfl⟩
        · exact ⟨.inl (HOWN.out _ (.inr (.inr (.inl hk)))).1, (HOWN.out _ (.inr (.inr (.inl hk)))).2⟩
        · exact ⟨.inl (HOWN.out _ (.inr (.inr (.inr hk)))).1, (HOWN.out _ (.inr (.inr (.inr hk)))).2⟩
      · rcases hk with hk | rfl
        · exact .inl ⟨hk.1, fun e => hk.2 (HKK.out k e)⟩
        · exact .inl (HOWN.out _ (.inl rfl)).2
      · exact .inr (by rw [hk]; exact HMB.out.2.2.1)
end Go.Proofs.Ytodfpclekihbhaa

