/- Contracts: find, see, refer, count, width. -/
import Derived.Test.YtodfpclekihbhaaH3
namespace Go.Proofs.Ytodfpclekihbhaa
open Go.RowKit

variable {w : World} {hb : Nat} {A : HA} {H : Hp} {S : Nat → Prop}
/-- What a call leaves: the heap H' at the same place; of the blocks that lay only S's have turned. -/
def Nx (w : World) (hb : Nat) (S : Nat → Prop) (H' : Hp) (w' : World) : Prop := ∃ A' S', HpAt w' hb A' H' S' ∧ Mut S w w' ∧ ∀ k, S' k → S k ∨ w.heap.size ≤ k
theorem Nx.same {w w' : World} {A : HA} {H' : Hp} (h : HpAt w' hb A H' S) (hm : Mut S w w') : Nx w hb S H' w' := ⟨A, S, h, hm, fun _ => .inl⟩
theorem Nx.refl (h : HpAt w hb A H S) : Nx w hb S H w := Nx.same h (Mut.refl _ _)
theorem kV_key (x : Int) : MapKept.IsKey (.int .i64) (kV x) := rfl
theorem kV_inj (x y : Int) (h : kV x = kV y) : x = y := by injection h
theorem get_obAdr (A : HA) (L : List (Int × Ob)) (x : Int) : Mp.get (obAdr A L) x = (Mp.get L x).map fun _ => A.ob x := by
  induction L with
  | nil => rfl
  | cons p L ih =>
    obtain ⟨k, o⟩ := p
    by_cases h : k = x
    · subst h; simp [obAdr, Mp.get]
    · simp only [obAdr, Mp.get, List.map_cons, List.find?_cons, h, decide_false] at ih ⊢
      exact ih
theorem zeroP (w : World) : (zeroValue 101).run Try.prog w = .ok (.pointer none) w := by kernel_rfl
/-- The object's address, or nil. -/
def HA.at (A : HA) (H : Hp) (r : Int) : Option Addr := (Mp.get H.objs r).map fun _ => ⟨A.ob r, 0, none⟩
theorem HpAt.look (h : HpAt w hb A H S) (r : Int) : (Instr.lookup 93 (.map (some A.mb)) (.int .i64 r) false).run Try.prog w = .ok (.pointer (A.at H r)) w := by
  have := h.omap.lookup (P := Try.prog) Try.underlying93 Try.underlying26 kV_key kV_inj (zeroP w) r
  rw [get_obAdr] at this
  rw [show (Value.int IntKind.i64 r) = kV r from rfl, this]
  unfold HA.at
  cases Mp.get H.objs r <;> rfl
/-- The cells of the heap's struct, for a walk. -/
def HCells (w : World) (hb : Nat) (A : HA) (H : Hp) : Prop := w.cell? ⟨hb, 0, none⟩ = some (.map (some A.mb)) ∧ w.cell? ⟨hb, 1, none⟩ = some (.int .i64 (H.last : Int)) ∧ w.cell? ⟨hb, 2, none⟩ = some (.bool H.watched) ∧ w.cell? ⟨hb, 3, none⟩ = some (.map A.sb) ∧ ∀ i, w.frozen? ⟨hb, i, none⟩ = false
theorem HpAt.cells (h : HpAt w hb A H S) : HCells w hb A H := ⟨cell_of_heap h.blk rfl, cell_of_heap h.blk rfl, cell_of_heap h.blk rfl, cell_of_heap h.blk rfl, fun i => frozen_of_heap h.blk i⟩
/-- The cells of an object, for a walk. -/
def OCells (w : World) (b : Nat) (A : HA) (r : Int) (o : Ob) (n : Nat) : Prop := w.cell? ⟨b, 0, none⟩ = some (.int .i64 o.kind) ∧ w.cell? ⟨b, 1, none⟩ = some (.int .i64 o.cls) ∧ w.cell? ⟨b, 2, none⟩ = some (.slice (A.sA r) o.refs.length (A.sC r)) ∧ w.cell? ⟨b, 3, none⟩ = some (A.wF o n) ∧ w.cell? ⟨b, 4, none⟩ = some (.string o.chars) ∧ w.cell? ⟨b, 5, none⟩ = some (.bool o.wide) ∧ w.cell? ⟨b, 6, none⟩ = some (.int .i64 o.tail) ∧ w.cell? ⟨b, 7, none⟩ = some (A.pF o) ∧ w.cell? ⟨b, 8, none⟩ = some (.int .i64 (o.lo : Int)) ∧ w.cell? ⟨b, 9, none⟩ = some (.int .i64 (o.hi : Int)) ∧ w.cell? ⟨b, 10, none⟩ = some (.int .i64 o.holds) ∧ w.cell? ⟨b, 11, none⟩ = some (.int .i64 o.rc) ∧ ∀ i, w.frozen? ⟨b, i, none⟩ = false
theorem HpAt.ocells (h : HpAt w hb A H S) {r : Int} {o : Ob} (ho : Mp.get H.objs r = some o) : OCells w (A.ob r) A r o (H.rowOf o.row).length :=
  have hB := h.obj r o ho
  ⟨cell_of_heap hB rfl, cell_of_heap hB rfl, cell_of_heap hB rfl, cell_of_heap hB rfl, cell_of_heap hB rfl, cell_of_heap hB rfl, cell_of_heap hB rfl, cell_of_heap hB rfl, cell_of_heap hB rfl, cell_of_heap hB rfl, cell_of_heap hB rfl, cell_of_heap hB rfl, fun i => frozen_of_heap hB i⟩
theorem HA.at_some {A : HA} {H : Hp} {r : Int} {o : Ob} (ho : Mp.get H.objs r = some o) : A.at H r = some ⟨A.ob r, 0, none⟩ := by simp [HA.at, ho]
theorem HA.at_none {A : HA} {H : Hp} {r : Int} (ho : Mp.get H.objs r = none) : A.at H r = none := by simp [HA.at, ho]

theorem find_nil (r : Int) (w : World) : Calls Try.prog 57 #[.pointer none, .int .i64 r] w fun e w' => e = .returned (.pointer none) ∧ w = w' := by
  go_enter Try.func57, Try.ntmps57
  go_wp2
  all_goals go_ret
  all_goals exact ⟨rfl, rfl⟩
theorem find_calls (h : HpAt w hb A H S) (r : Int) : Calls Try.prog 57 #[.pointer (some ⟨hb, 0, none⟩), .int .i64 r] w fun e w' => e = .returned (.pointer (A.at H r)) ∧ w = w' := by
  have hl := h.look r
  obtain ⟨c0, c1, c2, c3, hf⟩ := h.cells
  clear h
  go_enter Try.func57, Try.ntmps57
  go_wp2
  all_goals go_ret
  all_goals exact ⟨rfl, rfl⟩
theorem count_calls (h : HpAt w hb A H S) {r : Int} {o : Ob} (ho : Mp.get H.objs r = some o) (b1 : 0 ≤ o.holds) (b2 : o.holds ≤ 1000000000) (b3 : -1000000000 ≤ o.rc) (b4 : o.rc ≤ 1000000000) :
    Calls Try.prog 75 #[.pointer (some ⟨A.ob r, 0, none⟩)] w fun e w' => e = .returned (.int .i64 (o.holds + o.rc)) ∧ Below w.heap.size w w' := by
  obtain ⟨c0, c1, c2, c3, c4, c5, c6, c7, c8, c9, c10, c11, hf⟩ := h.ocells ho
  clear h ho
  go_enter Try.func75, Try.ntmps75
  go_wp2
  go_quiet (fail)
  go_wp2
  go_ret
  exact ⟨rfl, (Below.refl _ _).dn _⟩
theorem width_calls (h : HpAt w hb A H S) {r : Int} {o : Ob} (ho : Mp.get H.objs r = some o) : Calls Try.prog 59 #[.pointer (some ⟨A.ob r, 0, none⟩)] w fun e w' => e = .returned (.int .i64 o.refs.length) ∧ w = w' := by
  obtain ⟨c0, c1, c2, c3, c4, c5, c6, c7, c8, c9, c10, c11, hf⟩ := h.ocells ho
  clear h ho
  go_enter Try.func59, Try.ntmps59
  go_wp2
  go_ret
  exact ⟨rfl, rfl⟩
/-- A store into a map with plain keys, as the walk takes it. -/
theorem updB_run {w : World} {b : Nat} {L : List (Int × Bool)} (hmap : Mp.MapIs w b kV Value.bool L) (k : Int) (q : Bool) : ∃ w', (Instr.mapUpdate 79 (.map (some b)) (.int .i64 k) (.bool q)).run Try.prog w = .ok () w' ∧ Mp.MapIs w' b kV Value.bool (Mp.put L k q) ∧ Mut (· = b) w w' := by
  obtain ⟨o, h1, h2⟩ := hmap.update (P := Try.prog) Try.underlying79 Try.underlying26 kV_key kV_inj k q
  exact ⟨_, h1, h2, Mut.setB w b o rfl⟩
set_option maxHeartbeats 1000000 in
theorem see_calls (h : HpAt w hb A H S) (r : Int) : Calls Try.prog 62 #[.pointer (some ⟨hb, 0, none⟩), .int .i64 r] w fun e w' => e = .returned (.tuple #[]) ∧ HpAt w' hb A (seeH H r) S ∧ Mut (fun k => A.sb = some k) w w' := by
  have HH := Lib.hid h
  obtain ⟨c0, c1, c2, c3, hf⟩ := h.cells
  by_cases h1 : H.watched = true ∧ r ≠ 0
  · rw [show seeH H r = { H with seen := Mp.put H.seen r true } from if_pos h1]
    obtain ⟨h1, h2⟩ := h1
    have h3 : (r != 0) = !false := by simpa using h2
    rw [h1] at c2
    cases hsb : A.sb with
    | none => rw [(h.snil hsb).1] at h1; cases h1
    | some b =>
      obtain ⟨w1, hrun, hm1, hm2⟩ := updB_run (h.smap b hsb) r true
      have HS := Lib.hid (h.seenMap b hsb _ hm2 hm1)
      have HM := Lib.hid (hm2.mono (S' := fun k => some b = some k) fun k hk => .inl (by rw [hk]))
      rw [hsb] at c3
      clear h h1 hsb hm1 hm2
      go_enter Try.func62, Try.ntmps62
      go_wp2
      go_end0
      exact ⟨rfl, HS.out, HM.out⟩
  · rw [show seeH H r = H from if_neg h1]
    clear h
    by_cases h2 : H.watched = true
    · have h3 : (r != 0) = !true := by
        have : r = 0 := Classical.byContradiction fun e => h1 ⟨h2, e⟩
        simp [this]
      rw [h2] at c2
      clear h1
      go_enter Try.func62, Try.ntmps62
      go_wp2
      all_goals go_end0
      all_goals exact ⟨rfl, HH.out, Mut.refl _ _⟩
    · have h4 : H.watched = false := by simpa using h2
      rw [h4] at c2
      clear h1 h2
      go_enter Try.func62, Try.ntmps62
      go_wp2
      all_goals go_end0
      all_goals exact ⟨rfl, HH.out, Mut.refl _ _⟩
theorem refer_zero (h : HpAt w hb A H S) : Calls Try.prog 61 #[.pointer (some ⟨hb, 0, none⟩), .int .i64 0] w fun e w' => e = .returned (.tuple #[]) ∧ w' = w := by
  clear h
  go_enter Try.func61, Try.ntmps61
  go_wp2
  all_goals go_end0
  all_goals exact ⟨rfl, rfl⟩
theorem HpAt.inc (h : HpAt w hb A H S) {r : Int} {o : Ob} (ho : Mp.get H.objs r = some o) : HpAt (w.setCell ⟨A.ob r, 11, none⟩ (.int .i64 (o.rc + 1))) hb A (H.upd r Ob.inc) S :=
  h.setOb r o ho 11 _ Ob.inc rfl fun _ => rfl
theorem HpAt.dec (h : HpAt w hb A H S) {r : Int} {o : Ob} (ho : Mp.get H.objs r = some o) : HpAt (w.setCell ⟨A.ob r, 11, none⟩ (.int .i64 (o.rc - 1))) hb A (H.upd r Ob.dec) S :=
  h.setOb r o ho 11 _ Ob.dec rfl fun _ => rfl
theorem refer_some (h : HpAt w hb A H S) {r : Int} {o : Ob} (h0 : r ≠ 0) (ho : Mp.get H.objs r = some o) (b3 : -1000000000 ≤ o.rc) (b4 : o.rc ≤ 1000000000) :
    Calls Try.prog 61 #[.pointer (some ⟨hb, 0, none⟩), .int .i64 r] w fun e w' => e = .returned (.tuple #[]) ∧ HpAt w' hb A (H.upd r Ob.inc) S ∧ Mut (· = A.ob r) w w' := by
  have HI := Lib.hid (h.inc ho)
  have hl := h.look r
  rw [HA.at_some ho] at hl
  have h3 : (r != 0) = !false := by simpa using h0
  obtain ⟨c0, c1, c2, c3, hf⟩ := h.cells
  obtain ⟨d0, d1, d2, d3, d4, d5, d6, d7, d8, d9, d10, d11, df⟩ := h.ocells ho
  clear h ho h0 d0 d1 d2 d3 d4 d5 d6 d7 d8 d9 d10
  generalize A.ob r = b at *
  generalize o.rc = n at *
  go_enter Try.func61, Try.ntmps61
  go_wp2
  go_end0
  exact ⟨rfl, HI.out, Mut.setCell _ _ _ _ rfl⟩
end Go.Proofs.Ytodfpclekihbhaa
