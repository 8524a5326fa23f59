/- Texts on the heap, merged: W1, W2, M2, W3. -/
import Derived.Test.YtodfpclekihbhaaG01
import Derived.OwnWalkIn
import Derived.TacticsInMore
import Derived.LoopNIn
import Derived.LoopIn
import Derived.Shelf.Abstract
import Derived.Shelf.RegionOpen
import Derived.Maps.OwnIn
import Derived.Maps.OwnSet
import Derived.Lib.Hide
/- Contracts: find, see, refer, count, width. -/
namespace Go.Proofs.Ytodfpclekihbhaa
open Go.RowKit

variable {w : World} {hb : Nat} {A : HA} {H : Hp} {S : Nat → Prop}
/-- What a call leaves: the heap H' at the same place; of the blocks that lay only S's have turned. -/
def Nx (w : World) (hb : Nat) (S : Nat → Prop) (H' : Hp) (w' : World) : Prop := ∃ A' S', HpAt w' hb A' H' S' ∧ Mut S w w' ∧ ∀ k, S' k → S k ∨ w.heap.size ≤ k
theorem Nx.same {w w' : World} {A : HA} {H' : Hp} (h : HpAt w' hb A H' S) (hm : Mut S w w') : Nx w hb S H' w' := ⟨A, S, h, hm, fun _ => .inl⟩
theorem Nx.refl (h : HpAt w hb A H S) : Nx w hb S H w := Nx.same h (Mut.refl _ _)
theorem kV_key (x : Int) : MapKept.IsKey (.int .i64) (kV x) := rfl
theorem kV_inj (x y : Int) (h : kV x = kV y) : x = y := by injection h
theorem get_obAdr (A : HA) (L : List (Int × Ob)) (x : Int) : Mp.get (obAdr A L) x = (Mp.get L x).map fun _ => A.ob x := by
  induction L with
  | nil => rfl
  | cons p L ih =>
    obtain ⟨k, o⟩ := p
    by_cases h : k = x
    · subst h; simp [obAdr, Mp.get]
    · simp only [obAdr, Mp.get, List.map_cons, List.find?_cons, h, decide_false] at ih ⊢
      exact ih
theorem zeroP (w : World) : (zeroValue 101).run Try.prog w = .ok (.pointer none) w := by kernel_rfl
/-- The object's address, or nil. -/
def HA.at (A : HA) (H : Hp) (r : Int) : Option Addr := (Mp.get H.objs r).map fun _ => ⟨A.ob r, 0, none⟩
theorem HpAt.look (h : HpAt w hb A H S) (r : Int) : (Instr.lookup 93 (.map (some A.mb)) (.int .i64 r) false).run Try.prog w = .ok (.pointer (A.at H r)) w := by
  have := h.omap.lookup (P := Try.prog) Try.underlying93 Try.underlying26 kV_key kV_inj (zeroP w) r
  rw [get_obAdr] at this
  rw [show (Value.int IntKind.i64 r) = kV r from rfl, this]
  unfold HA.at
  cases Mp.get H.objs r <;> rfl
/-- The cells of the heap's struct, for a walk. -/
def HCells (w : World) (hb : Nat) (A : HA) (H : Hp) : Prop := w.cell? ⟨hb, 0, none⟩ = some (.map (some A.mb)) ∧ w.cell? ⟨hb, 1, none⟩ = some (.int .i64 (H.last : Int)) ∧ w.cell? ⟨hb, 2, none⟩ = some (.bool H.watched) ∧ w.cell? ⟨hb, 3, none⟩ = some (.map A.sb) ∧ ∀ i, w.frozen? ⟨hb, i, none⟩ = false
theorem HpAt.cells (h : HpAt w hb A H S) : HCells w hb A H := ⟨cell_of_heap h.blk rfl, cell_of_heap h.blk rfl, cell_of_heap h.blk rfl, cell_of_heap h.blk rfl, fun i => frozen_of_heap h.blk i⟩
/-- The cells of an object, for a walk. -/
def OCells (w : World) (b : Nat) (A : HA) (r : Int) (o : Ob) (n : Nat) : Prop := w.cell? ⟨b, 0, none⟩ = some (.int .i64 o.kind) ∧ w.cell? ⟨b, 1, none⟩ = some (.int .i64 o.cls) ∧ w.cell? ⟨b, 2, none⟩ = some (.slice (A.sA r) o.refs.length (A.sC r)) ∧ w.cell? ⟨b, 3, none⟩ = some (A.wF o n) ∧ w.cell? ⟨b, 4, none⟩ = some (.string o.chars) ∧ w.cell? ⟨b, 5, none⟩ = some (.bool o.wide) ∧ w.cell? ⟨b, 6, none⟩ = some (.int .i64 o.tail) ∧ w.cell? ⟨b, 7, none⟩ = some (A.pF o) ∧ w.cell? ⟨b, 8, none⟩ = some (.int .i64 (o.lo : Int)) ∧ w.cell? ⟨b, 9, none⟩ = some (.int .i64 (o.hi : Int)) ∧ w.cell? ⟨b, 10, none⟩ = some (.int .i64 o.holds) ∧ w.cell? ⟨b, 11, none⟩ = some (.int .i64 o.rc) ∧ ∀ i, w.frozen? ⟨b, i, none⟩ = false
theorem HpAt.ocells (h : HpAt w hb A H S) {r : Int} {o : Ob} (ho : Mp.get H.objs r = some o) : OCells w (A.ob r) A r o (H.rowOf o.row).length :=
  have hB := h.obj r o ho
  ⟨cell_of_heap hB rfl, cell_of_heap hB rfl, cell_of_heap hB rfl, cell_of_heap hB rfl, cell_of_heap hB rfl, cell_of_heap hB rfl, cell_of_heap hB rfl, cell_of_heap hB rfl, cell_of_heap hB rfl, cell_of_heap hB rfl, cell_of_heap hB rfl, cell_of_heap hB rfl, fun i => frozen_of_heap hB i⟩
theorem HA.at_some {A : HA} {H : Hp} {r : Int} {o : Ob} (ho : Mp.get H.objs r = some o) : A.at H r = some ⟨A.ob r, 0, none⟩ := by simp [HA.at, ho]
theorem HA.at_none {A : HA} {H : Hp} {r : Int} (ho : Mp.get H.objs r = none) : A.at H r = none := by simp [HA.at, ho]

theorem find_nil (r : Int) (w : World) : Calls Try.prog 57 #[.pointer none, .int .i64 r] w fun e w' => e = .returned (.pointer none) ∧ w = w' := by
  go_enter Try.func57, Try.ntmps57
  go_wp2
  all_goals go_ret
  all_goals exact ⟨rfl, rfl⟩
theorem find_calls (h : HpAt w hb A H S) (r : Int) : Calls Try.prog 57 #[.pointer (some ⟨hb, 0, none⟩), .int .i64 r] w fun e w' => e = .returned (.pointer (A.at H r)) ∧ w = w' := by
  have hl := h.look r
  obtain ⟨c0, c1, c2, c3, hf⟩ := h.cells
  clear h
  go_enter Try.func57, Try.ntmps57
  go_wp2
  all_goals go_ret
  all_goals exact ⟨rfl, rfl⟩
theorem count_calls (h : HpAt w hb A H S) {r : Int} {o : Ob} (ho : Mp.get H.objs r = some o) (b1 : 0 ≤ o.holds) (b2 : o.holds ≤ 1000000000) (b3 : -1000000000 ≤ o.rc) (b4 : o.rc ≤ 1000000000) :
    Calls Try.prog 75 #[.pointer (some ⟨A.ob r, 0, none⟩)] w fun e w' => e = .returned (.int .i64 (o.holds + o.rc)) ∧ Below w.heap.size w w' := by
  obtain ⟨c0, c1, c2, c3, c4, c5, c6, c7, c8, c9, c10, c11, hf⟩ := h.ocells ho
  clear h ho
  go_enter Try.func75, Try.ntmps75
  go_wp2
  go_quiet (fail)
  go_wp2
  go_ret
  exact ⟨rfl, (Below.refl _ _).dn _⟩
theorem width_calls (h : HpAt w hb A H S) {r : Int} {o : Ob} (ho : Mp.get H.objs r = some o) : Calls Try.prog 59 #[.pointer (some ⟨A.ob r, 0, none⟩)] w fun e w' => e = .returned (.int .i64 o.refs.length) ∧ w = w' := by
  obtain ⟨c0, c1, c2, c3, c4, c5, c6, c7, c8, c9, c10, c11, hf⟩ := h.ocells ho
  clear h ho
  go_enter Try.func59, Try.ntmps59
  go_wp2
  go_ret
  exact ⟨rfl, rfl⟩
/-- A store into a map with plain keys, as the walk takes it. -/
theorem updB_run {w : World} {b : Nat} {L : List (Int × Bool)} (hmap : Mp.MapIs w b kV Value.bool L) (k : Int) (q : Bool) : ∃ w', (Instr.mapUpdate 79 (.map (some b)) (.int .i64 k) (.bool q)).run Try.prog w = .ok () w' ∧ Mp.MapIs w' b kV Value.bool (Mp.put L k q) ∧ Mut (· = b) w w' := by
  obtain ⟨o, h1, h2⟩ := hmap.update (P := Try.prog) Try.underlying79 Try.underlying26 kV_key kV_inj k q
  exact ⟨_, h1, h2, Mut.setB w b o rfl⟩
set_option maxHeartbeats 1000000 in
theorem see_calls (h : HpAt w hb A H S) (r : Int) : Calls Try.prog 62 #[.pointer (some ⟨hb, 0, none⟩), .int .i64 r] w fun e w' => e = .returned (.tuple #[]) ∧ HpAt w' hb A (seeH H r) S ∧ Mut (fun k => A.sb = some k) w w' := by
  have HH := Lib.hid h
  obtain ⟨c0, c1, c2, c3, hf⟩ := h.cells
  by_cases h1 : H.watched = true ∧ r ≠ 0
  · rw [show seeH H r = { H with seen := Mp.put H.seen r true } from if_pos h1]
    obtain ⟨h1, h2⟩ := h1
    have h3 : (r != 0) = !false := by simpa using h2
    rw [h1] at c2
    cases hsb : A.sb with
    | none => rw [(h.snil hsb).1] at h1; cases h1
    | some b =>
      obtain ⟨w1, hrun, hm1, hm2⟩ := updB_run (h.smap b hsb) r true
      have HS := Lib.hid (h.seenMap b hsb _ hm2 hm1)
      have HM := Lib.hid (hm2.mono (S' := fun k => some b = some k) fun k hk => .inl (by rw [hk]))
      rw [hsb] at c3
      clear h h1 hsb hm1 hm2
      go_enter Try.func62, Try.ntmps62
      go_wp2
      go_end0
      exact ⟨rfl, HS.out, HM.out⟩
  · rw [show seeH H r = H from if_neg h1]
    clear h
    by_cases h2 : H.watched = true
    · have h3 : (r != 0) = !true := by
        have : r = 0 := Classical.byContradiction fun e => h1 ⟨h2, e⟩
        simp [this]
      rw [h2] at c2
      clear h1
      go_enter Try.func62, Try.ntmps62
      go_wp2
      all_goals go_end0
      all_goals exact ⟨rfl, HH.out, Mut.refl _ _⟩
    · have h4 : H.watched = false := by simpa using h2
      rw [h4] at c2
      clear h1 h2
      go_enter Try.func62, Try.ntmps62
      go_wp2
      all_goals go_end0
      all_goals exact ⟨rfl, HH.out, Mut.refl _ _⟩
theorem refer_zero (h : HpAt w hb A H S) : Calls Try.prog 61 #[.pointer (some ⟨hb, 0, none⟩), .int .i64 0] w fun e w' => e = .returned (.tuple #[]) ∧ w' = w := by
  clear h
  go_enter Try.func61, Try.ntmps61
  go_wp2
  all_goals go_end0
  all_goals exact ⟨rfl, rfl⟩
theorem HpAt.inc (h : HpAt w hb A H S) {r : Int} {o : Ob} (ho : Mp.get H.objs r = some o) : HpAt (w.setCell ⟨A.ob r, 11, none⟩ (.int .i64 (o.rc + 1))) hb A (H.upd r Ob.inc) S :=
  h.setOb r o ho 11 _ Ob.inc rfl fun _ => rfl
theorem HpAt.dec (h : HpAt w hb A H S) {r : Int} {o : Ob} (ho : Mp.get H.objs r = some o) : HpAt (w.setCell ⟨A.ob r, 11, none⟩ (.int .i64 (o.rc - 1))) hb A (H.upd r Ob.dec) S :=
  h.setOb r o ho 11 _ Ob.dec rfl fun _ => rfl
theorem refer_some (h : HpAt w hb A H S) {r : Int} {o : Ob} (h0 : r ≠ 0) (ho : Mp.get H.objs r = some o) (b3 : -1000000000 ≤ o.rc) (b4 : o.rc ≤ 1000000000) :
    Calls Try.prog 61 #[.pointer (some ⟨hb, 0, none⟩), .int .i64 r] w fun e w' => e = .returned (.tuple #[]) ∧ HpAt w' hb A (H.upd r Ob.inc) S ∧ Mut (· = A.ob r) w w' := by
  have HI := Lib.hid (h.inc ho)
  have hl := h.look r
  rw [HA.at_some ho] at hl
  have h3 : (r != 0) = !false := by simpa using h0
  obtain ⟨c0, c1, c2, c3, hf⟩ := h.cells
  obtain ⟨d0, d1, d2, d3, d4, d5, d6, d7, d8, d9, d10, d11, df⟩ := h.ocells ho
  clear h ho h0 d0 d1 d2 d3 d4 d5 d6 d7 d8 d9 d10
  generalize A.ob r = b at *
  generalize o.rc = n at *
  go_enter Try.func61, Try.ntmps61
  go_wp2
  go_end0
  exact ⟨rfl, HI.out, Mut.setCell _ _ _ _ rfl⟩
end Go.Proofs.Ytodfpclekihbhaa

/- The iterator targets: it gives the references of an object. -/
namespace Go.Proofs.Ytodfpclekihbhaa
open Go.RowKit Go.Shelf
attribute [local go_sem] Oper.semAt_some

/-- What targets reads. -/
structure ORd (b : Nat) (A : HA) (o : Ob) (ws : List Wd) (W : World) : Prop where
  c0 : W.cell? ⟨b, 0, none⟩ = some (.int .i64 o.kind)
  c3 : W.cell? ⟨b, 3, none⟩ = some (A.wF o ws.length)
  c6 : W.cell? ⟨b, 6, none⟩ = some (.int .i64 o.tail)
  c7 : W.cell? ⟨b, 7, none⟩ = some (A.pF o)
  cs : o.kind = 2 → W.cell? ⟨A.st o.row, 1, none⟩ = some (.slice (A.wA o.row) ws.length (A.wC o.row))
  wd : WordsAt W (A.wA o.row) (A.wC o.row) ws
theorem refsOf_take (ws : List Wd) (j : Nat) (h : j < ws.length) : refsOf (ws.take (j + 1)) = refsOf (ws.take j) ++ if (ws[j]'h).ref = 0 then [] else [(ws[j]'h).ref] := by
  rw [List.take_succ_eq_append_getElem h]
  unfold refsOf
  rw [List.map_append, List.filter_append]
  congr 1
  by_cases e : (ws[j]'h).ref = 0 <;> simp [e]
theorem nth_mid {xs : List Value} {p q : List Int} {x : Int} (h : xs = ints (p ++ x :: q)) : ∃ hj : p.length < xs.length, xs[p.length]'hj = .int .i64 x := by
  subst h
  refine ⟨by simp [ints], ?_⟩
  simp [ints]
theorem refsOf_split (ws : List Wd) (j : Nat) (h : j < ws.length) (hr : (ws[j]'h).ref ≠ 0) (t : List Int) : ∃ q, refsOf ws ++ t = refsOf (ws.take j) ++ (ws[j]'h).ref :: q := by
  refine ⟨refsOf (ws.drop (j + 1)) ++ t, ?_⟩
  have h1 : refsOf ws = refsOf (ws.take (j + 1)) ++ refsOf (ws.drop (j + 1)) := by
    unfold refsOf
    rw [← List.filter_append, ← List.map_append, List.take_append_drop]
  rw [h1, refsOf_take ws j h, if_neg hr]
  simp
set_option maxHeartbeats 2000000 in
theorem targets_gives (n : Nat) (A : HA) (b : Nat) (o : Ob) (ws : List Wd) (hlen : ws.length ≤ 100000000) : Gives Fence.wide n Try.prog 72 #[.pointer (some ⟨b, 0, none⟩)] (ints (refsOf ws ++ tailOf o)) (ORd b A o ws) := by
  intro l J W hst hrd hY h0
  have HY := Lib.hid hY
  have HJ := Lib.hid h0
  have HS := Lib.hid hst
  have HR := Lib.hid hrd
  obtain ⟨c0, c3, c6, c7, cs, wd⟩ := hrd _ _ h0
  clear hY h0 hst hrd wd
  by_cases hk : o.kind = 2
  · have hk3 : A.wF o ws.length = .slice none 0 0 := if_pos hk
    have hk4 : A.pF o = .pointer (some ⟨A.st o.row, 0, none⟩) := by unfold HA.pF; rw [if_pos hk]
    have cs1 := cs hk
    rw [hk3] at c3
    rw [hk4] at c7
    rw [hk] at c0
    clear hk hk3 hk4 cs
    refine callsIn_of_wp Try.func72 rfl trivial ?_ rfl
    simp only [Try.ntmps72, List.size_toArray, List.length_cons, List.length_nil, Nat.reduceAdd, Nat.reduceSub, Array.replicate_succ, Array.replicate_zero, List.push_toArray, List.append_toArray, List.nil_append, List.cons_append]
    gi_wp2
    gi_loopw [25] (fun p wr => ∃ j : Nat, j ≤ ws.length ∧ p = .int .i64 j ∧ Hid (J (refsOf (ws.take j)).length wr)) (fun i _ => ws.length - (intOf i).toNat)
    case atStart => exact ⟨0, Nat.zero_le _, rfl, HJ⟩
    case round =>
      obtain ⟨j, hj, rfl, HJ1⟩ := hrel
      by_cases hlt : j < ws.length
      · obtain ⟨g, hA, hg, hC, hf, w0, w1⟩ := (HR.out _ _ HJ1.out).wd.cell j hlt
        have q0 : (0 : Int) ≤ (j : Int) := by omega
        have q1 : (j : Int) < (ws.length : Int) := by omega
        rw [hA]
        have HB := Lib.hid ((Below.refl wr.heap.size wr).alloc (Nat.le_refl _) (.cells #[.int .i64 (ws[j]'hlt).num, .int .i64 (ws[j]'hlt).ref] 42))
        by_cases hz : (ws[j]'hlt).ref = 0
        · have HE : Hid (refsOf (ws.take (j + 1)) = refsOf (ws.take j)) := Lib.hid (by rw [refsOf_take ws j hlt, if_pos hz, List.append_nil])
          rw [hz] at w1 HB
          generalize (ws[j]'hlt).num = x at *
          gi_wp2
          refine ⟨fun _ h => (by cases h), ?_⟩
          gi_wp2
          go_roundw
          case rel => exact ⟨j + 1, by omega, by go_num, Lib.hid (by rw [HE.out]; exact HS.out _ _ _ HJ1.out HB.out)⟩
          case measure => simp [intOf]; omega
        · have hz2 : ((ws[j]'hlt).ref != 0) = !false := by simpa using hz
          have HE : Hid (refsOf (ws.take (j + 1)) = refsOf (ws.take j) ++ [(ws[j]'hlt).ref]) := Lib.hid (by rw [refsOf_take ws j hlt, if_neg hz])
          obtain ⟨q, hq⟩ := refsOf_split ws j hlt hz (tailOf o)
          obtain ⟨hj2, hx⟩ := nth_mid (congrArg ints hq)
          have hyy := HY.out _ _ (HS.out _ _ _ HJ1.out HB.out) hj2
          rw [hx] at hyy
          generalize (ws[j]'hlt).num = x at *
          generalize (ws[j]'hlt).ref = y at *
          obtain ⟨fn, tmps, assign, body, hy, hR⟩ := hyy
          clear hx hj2 hq
          gi_wp2
          refine ⟨fun h => (by cases h), hR.mono ?_⟩
          rintro e W3 ⟨rfl, hJ3⟩
          gi_wp2
          go_roundw
          case rel => exact ⟨j + 1, by omega, by go_num, Lib.hid (by rw [HE.out, List.length_append]; exact hJ3)⟩
          case measure => simp [intOf]; omega
      · obtain rfl : j = ws.length := by omega
        have d6 := (HR.out _ _ HJ1.out).c6
        rw [List.take_length] at HJ1
        by_cases ht : o.tail = 0
        · have HE : Hid (ints (refsOf ws ++ tailOf o) = ints (refsOf ws)) := Lib.hid (by unfold tailOf; rw [if_pos ht, List.append_nil])
          rw [ht] at d6
          gi_wp2
          go_end0
          exact ⟨⟨_, rfl⟩, by rw [HE.out]; simpa [ints] using HJ1.out⟩
        · have ht2 : (o.tail != 0) = !false := by simpa using ht
          have HE : Hid (ints (refsOf ws ++ tailOf o) = ints (refsOf ws ++ [o.tail])) := Lib.hid (by unfold tailOf; rw [if_neg ht])
          obtain ⟨hj2, hx⟩ := nth_mid (xs := ints (refsOf ws ++ tailOf o)) (p := refsOf ws) (x := o.tail) (q := []) HE.out
          have hyy := HY.out _ _ HJ1.out hj2
          rw [hx] at hyy
          clear hx hj2
          generalize o.tail = y at *
          obtain ⟨fn, tmps, assign, body, hy, hR⟩ := hyy
          gi_wp2
          refine ⟨fun h => (by cases h), hR.mono ?_⟩
          rintro e W3 ⟨rfl, hJ3⟩
          gi_wp2
          go_end0
          exact ⟨⟨_, rfl⟩, by rw [HE.out]; simpa [ints] using hJ3⟩
  · have hk2 : (o.kind == 2) = false := by simpa using hk
    have hk3 : A.wF o ws.length = .slice (A.wA o.row) ws.length (A.wC o.row) := if_neg hk
    rw [hk3] at c3
    clear hk hk3 cs c7
    refine callsIn_of_wp Try.func72 rfl trivial ?_ rfl
    simp only [Try.ntmps72, List.size_toArray, List.length_cons, List.length_nil, Nat.reduceAdd, Nat.reduceSub, Array.replicate_succ, Array.replicate_zero, List.push_toArray, List.append_toArray, List.nil_append, List.cons_append]
    gi_wp2
    gi_loopw [25] (fun p wr => ∃ j : Nat, j ≤ ws.length ∧ p = .int .i64 j ∧ Hid (J (refsOf (ws.take j)).length wr)) (fun i _ => ws.length - (intOf i).toNat)
    case atStart => exact ⟨0, Nat.zero_le _, rfl, HJ⟩
    case round =>
      obtain ⟨j, hj, rfl, HJ1⟩ := hrel
      by_cases hlt : j < ws.length
      · obtain ⟨g, hA, hg, hC, hf, w0, w1⟩ := (HR.out _ _ HJ1.out).wd.cell j hlt
        have q0 : (0 : Int) ≤ (j : Int) := by omega
        have q1 : (j : Int) < (ws.length : Int) := by omega
        rw [hA]
        have HB := Lib.hid ((Below.refl wr.heap.size wr).alloc (Nat.le_refl _) (.cells #[.int .i64 (ws[j]'hlt).num, .int .i64 (ws[j]'hlt).ref] 42))
        by_cases hz : (ws[j]'hlt).ref = 0
        · have HE : Hid (refsOf (ws.take (j + 1)) = refsOf (ws.take j)) := Lib.hid (by rw [refsOf_take ws j hlt, if_pos hz, List.append_nil])
          rw [hz] at w1 HB
          generalize (ws[j]'hlt).num = x at *
          gi_wp2
          refine ⟨fun _ h => (by cases h), ?_⟩
          gi_wp2
          go_roundw
          case rel => exact ⟨j + 1, by omega, by go_num, Lib.hid (by rw [HE.out]; exact HS.out _ _ _ HJ1.out HB.out)⟩
          case measure => simp [intOf]; omega
        · have hz2 : ((ws[j]'hlt).ref != 0) = !false := by simpa using hz
          have HE : Hid (refsOf (ws.take (j + 1)) = refsOf (ws.take j) ++ [(ws[j]'hlt).ref]) := Lib.hid (by rw [refsOf_take ws j hlt, if_neg hz])
          obtain ⟨q, hq⟩ := refsOf_split ws j hlt hz (tailOf o)
          obtain ⟨hj2, hx⟩ := nth_mid (congrArg ints hq)
          have hyy := HY.out _ _ (HS.out _ _ _ HJ1.out HB.out) hj2
          rw [hx] at hyy
          generalize (ws[j]'hlt).num = x at *
          generalize (ws[j]'hlt).ref = y at *
          obtain ⟨fn, tmps, assign, body, hy, hR⟩ := hyy
          clear hx hj2 hq
          gi_wp2
          refine ⟨fun h => (by cases h), hR.mono ?_⟩
          rintro e W3 ⟨rfl, hJ3⟩
          gi_wp2
          go_roundw
          case rel => exact ⟨j + 1, by omega, by go_num, Lib.hid (by rw [HE.out, List.length_append]; exact hJ3)⟩
          case measure => simp [intOf]; omega
      · obtain rfl : j = ws.length := by omega
        have d6 := (HR.out _ _ HJ1.out).c6
        rw [List.take_length] at HJ1
        by_cases ht : o.tail = 0
        · have HE : Hid (ints (refsOf ws ++ tailOf o) = ints (refsOf ws)) := Lib.hid (by unfold tailOf; rw [if_pos ht, List.append_nil])
          rw [ht] at d6
          gi_wp2
          go_end0
          exact ⟨⟨_, rfl⟩, by rw [HE.out]; simpa [ints] using HJ1.out⟩
        · have ht2 : (o.tail != 0) = !false := by simpa using ht
          have HE : Hid (ints (refsOf ws ++ tailOf o) = ints (refsOf ws ++ [o.tail])) := Lib.hid (by unfold tailOf; rw [if_neg ht])
          obtain ⟨hj2, hx⟩ := nth_mid (xs := ints (refsOf ws ++ tailOf o)) (p := refsOf ws) (x := o.tail) (q := []) HE.out
          have hyy := HY.out _ _ HJ1.out hj2
          rw [hx] at hyy
          clear hx hj2
          generalize o.tail = y at *
          obtain ⟨fn, tmps, assign, body, hy, hR⟩ := hyy
          gi_wp2
          refine ⟨fun h => (by cases h), hR.mono ?_⟩
          rintro e W3 ⟨rfl, hJ3⟩
          gi_wp2
          go_end0
          exact ⟨⟨_, rfl⟩, by rw [HE.out]; simpa [ints] using hJ3⟩
end Go.Proofs.Ytodfpclekihbhaa

/- Maps as lists: a deletion; the operation in a fenced walk. -/
namespace Go.Proofs.Ytodfpclekihbhaa.Mp
open Go.MapKept

variable {κ α : Type} [DecidableEq κ]
theorem map_erase {β γ : Type} (f : β → γ) (l : List β) (j : Nat) : (l.eraseIdx j).map f = (l.map f).eraseIdx j := by
  induction l generalizing j with
  | nil => rfl
  | cons x l ih =>
    cases j with
    | zero => rfl
    | succ j => simp only [List.eraseIdx_cons_succ, List.map_cons, ih]
theorem del_none {L : List (κ × α)} {x : κ} (h : get L x = none) : del L x = L := by
  unfold del
  rw [List.filter_eq_self]
  intro p hp
  simpa using (get_none_iff L x).1 h p hp
theorem del_erase {L : List (κ × α)} (hn : (L.map (·.1)).Nodup) {j : Nat} {x : κ} {a : α} (h : L[j]? = some (x, a)) : del L x = L.eraseIdx j := by
  induction L generalizing j with
  | nil => cases h
  | cons p L ih =>
    simp only [List.map_cons, List.nodup_cons, List.mem_map, not_exists, not_and] at hn
    cases j with
    | zero =>
      simp only [List.getElem?_cons_zero, Option.some.injEq] at h
      subst h
      have e1 : del ((x, a) :: L) x = del L x := by simp [del]
      rw [e1, List.eraseIdx_cons_zero]
      exact del_none ((get_none_iff L x).2 fun q hq => hn.1 q hq)
    | succ j =>
      simp only [List.getElem?_cons_succ] at h
      have hne : ¬ p.1 = x := fun e => hn.1 (x, a) (List.mem_of_getElem? h) e.symm
      have e1 : del (p :: L) x = p :: del L x := by simp [del, hne]
      rw [e1, List.eraseIdx_cons_succ, ih hn.2 h]
variable {w : World} {b : Nat} {K : κ → Value} {V : α → Value} {L : List (κ × α)} {P : Program} {t k e : TypeId} {d : TypeDesc}
/-- A deletion. -/
theorem MapIs.delete (h : MapIs w b K V L) (ht : P.underlying t = some (.map k e)) (hk : P.underlying k = some d) (hK : ∀ x, IsKey d (K x)) (hi : ∀ x y, K x = K y → x = y) (x : κ) (ty : TypeId) :
    ∃ o, (Builtin.delete_ #[t, k] ty #[.map (some b), K x]).run P w = .ok (.tuple #[]) (setB w b o) ∧ MapIs (setB w b o) b K V (del L x) := by
  have hn := h.nodup
  obtain ⟨es, clk, hb, hs, hm, hks, ⟨h1, h2, h3⟩ | ⟨j, a0, h1, h2, h3, en, h4, h5⟩⟩ := h.find hK hi x
  · refine ⟨.map es clk, ?_, es, clk, (heap_set hb).1, hs, by rw [del_none h2]; exact hm⟩
    simp [Builtin.delete_, run_underlying ht, MapKept.run_getObj_map hb, MapKept.run_checkKey hk (hK x), MapKept.run_findKey hk h1, MapKept.run_setObj_map _ hb, Result.andThen, setB]
  · refine ⟨.map (es.eraseIdxIfInBounds j) clk, ?_, _, clk, (heap_set hb).1, stamped_erase hs _, ?_⟩
    · simp [Builtin.delete_, run_underlying ht, MapKept.run_getObj_map hb, MapKept.run_checkKey hk (hK x), MapKept.run_findKey hk h1, MapKept.run_setObj_map _ hb, Result.andThen, setB]
    · have hj : j < es.size := (Array.getElem?_eq_some_iff.1 h4).1
      rw [del_erase hn h3, Array.eraseIdxIfInBounds, dif_pos hj, Array.toList_eraseIdx]
      rw [map_erase, map_erase, hm]
/-- A deletion, in a fenced walk. -/
theorem wpListIn_delete_map {F : Fence} {nF : Nat} {ops : Array Oper} {rest : List Oper} {o : Oper} {a : Act} {Q : Exit → Act → World → Prop} (hg : o.guard = none) (m x : Operand)
    (hop : o.op = Op.call { callee := Callee.builtin Builtin.delete, args := #[m, x], argTypes := #[t, k] })
    (h : MapIs w b K V L) (ht : P.underlying t = some (.map k e)) (hk : P.underlying k = some d) (hK : ∀ x, IsKey d (K x)) (hi : ∀ x y, K x = K y → x = y) (y : κ) (hm : a.eval m = .map (some b)) (hx : a.eval x = K y)
    (hQ : ∀ w', Go.RowKit.Hid (MapIs w' b K V (del L y)) → Go.RowKit.Hid (Mut (· = b) w w') → wpListIn F nF P ops Q rest (a.put o.dst (.tuple #[])) w') :
    wpListIn F nF P ops Q (o :: rest) a w := by
  refine wpListIn_plain hg fun K' hK' => ?_
  obtain ⟨o', hrun, r1⟩ := h.delete ht hk hK hi y o.type
  unfold Oper.wpIn
  refine ⟨by simp [Oper.about, hop, resolve, Target.leads, Sem.run_pure], ?_⟩
  rw [Oper.semAt_plain F _ _ (by rw [hop]; intro c hc'; cases hc')]
  simp [execOp, hop, resolve, invoke, builtin, hm, hx, hrun, Result.andThen]
  exact hK' _ _ (hQ _ (Go.Lib.hid r1) (Go.Lib.hid (Mut.setB w b o' rfl)))
end Go.Proofs.Ytodfpclekihbhaa.Mp

/- Loops over an iterator that append what comes to a slice in a box. -/
namespace Go.Proofs.Ytodfpclekihbhaa
open Go.RowKit Go.Shelf
attribute [local go_sem] Oper.semAt_some

theorem wpIn_range_one {F : Fence} {n : Nat} {P : Program} {g : Operand} {p e : Tmp} {ty : TypeId} {ps : String} {kk : Nat} {body : Code} {Q : Exit → Act → World → Prop} {a : Act} {w : World}
    (hro : F.round = none) (h1 : 1 ≤ n) (hp : p < a.tmps.size) {gf : Nat} {bs : Array Value} (hg : a.eval g = .func (.func gf) bs #[]) (hFg : F.fn gf) (eg : ∀ args w, (callFunc gf args).run P w = .ok (.enter gf args) w)
    {xs : List Value} {Rd : World → Prop} (hseq : Gives F (n - 1) P gf bs xs Rd)
    (I : Nat → World → Prop) (hI : Stable I) (hI2 : ∀ j W l o o', I j W → w.heap.size ≤ l → W.heap[l]? = some o → o.isCells = false → I j (W.putObj l o')) (hrd : ∀ j W, I j W → Rd W) (h0 : I 0 w)
    (hbody : ∀ (l j : Nat) (h : j < xs.length) (W : World), I j W → body.wpIn (F.inRound l) (n - 1 - 1) P (goesOn w.heap.size (I (j + 1)) W) { tmps := (a.tmps.setIfInBounds p (xs[j]'h)).setIfInBounds e (xs[j]'h), defers := [] } W)
    (hdone : ∀ (D : Nat) (W : World), w.heap.size ≤ D → I xs.length W → W.heap[D]? = some (.deferred (some [])) → Q .normal { a with defers := { target := .collected D, args := #[] } :: a.defers } W) :
    (Code.rangeFunc g #[p] (.region kk #[{ dst := some e, op := .assign (.tmp p), type := ty, pos := ps, after := #[], guard := none }] false) body).wpIn F n P Q a w := by
  refine wpIn_range_met hro h1 hg hFg eg hseq I hI hI2 hrd h0 (fun x => { tmps := (a.tmps.setIfInBounds p x).setIfInBounds e x, defers := [] }) ?_ hbody hdone
  intro l x W K hK
  have e1 : (a.tmps.setIfInBounds p x)[p]?.getD undef = x := by simp [hp]
  gi_wp2
  exact hK
theorem KeepsFrom.of_mut {B : Nat} {T : Nat → Prop} {W W' : World} (h : Mut T W W') (hT : ∀ k o, T k → B ≤ k → W.heap[k]? = some o → o.isCells = true) : KeepsFrom B W W' :=
  ⟨h.size, fun k o hB hk ho => (h.block k (Array.getElem?_eq_some_iff.1 hk).1 (fun hTk => by have := hT k o hTk hB hk; rw [ho] at this; cases this)).trans hk⟩
/-- A box holds a slice that reads as a list; of what lay in w0 the box and the slice's first row alone may have turned. -/
def BoxAt (w0 : World) (Bs : Nat) (L0 : Option Addr) (zs : List Int) (W : World) : Prop :=
  ∃ LA LC, W.heap[Bs]? = some (.cells #[.slice LA zs.length LC] 35 (0, 0)) ∧ W.ownsRow 0 26 1 (.slice LA zs.length LC) zs.length (ints zs) ∧ (∀ a, LA = some a → L0 = some a ∨ w0.heap.size ≤ a.block) ∧ Mut (fun k => k = Bs ∨ ∃ a, L0 = some a ∧ a.block = k) w0 W
theorem own_head {w : World} {base n C size : Nat} {e : TypeId} {A : Option Addr} {xs : List Value} (h : w.ownsRow base e size (.slice A n C) n xs) (a : Addr) (ha : A = some a) : a = ⟨a.block, 0, none⟩ ∧ ∃ cs, w.heap[a.block]? = some (.cells cs e (0, 0)) := by
  rcases h.2 with ⟨h1, _⟩ | ⟨g, cap, cur, h1, h2, h3, h4⟩
  · injection h1 with h1; rw [ha] at h1; cases h1
  · injection h1 with e1
    rw [ha] at e1
    injection e1 with e1
    subst e1
    exact ⟨rfl, cur, h3⟩
theorem BoxAt.below {w0 W W' : World} {Bs : Nat} {L0 : Option Addr} {zs : List Int} (h : BoxAt w0 Bs L0 zs W) (hb : Below W.heap.size W W') : BoxAt w0 Bs L0 zs W' := by
  obtain ⟨LA, LC, h1, h2, h3, h4⟩ := h
  exact ⟨LA, LC, (hb.block _ (lt_of_heap h1)).trans h1, own_mut2 h2 (Mut.of_below (S := fun _ => False) hb) (fun _ _ h => h), h3, h4.then (Mut.of_below hb)⟩
theorem BoxAt.put {w0 W : World} {Bs : Nat} {L0 : Option Addr} {zs : List Int} (h : BoxAt w0 Bs L0 zs W) {l : Nat} {o o' : Obj} (hl : w0.heap.size ≤ l) (ho : W.heap[l]? = some o) (hc : o.isCells = false) : BoxAt w0 Bs L0 zs (W.putObj l o') := by
  obtain ⟨LA, LC, h1, h2, h3, h4⟩ := h
  have hm : Mut (· = l) W (W.putObj l o') := ⟨rfl, rfl, rfl, by simp, fun k _ hk => World.putObj_heap_other (fun e => hk e)⟩
  have ne : ∀ {b : Nat} {cs : Array Value} {t : TypeId} {fr : Nat × Nat}, W.heap[b]? = some (.cells cs t fr) → b ≠ l := fun {b cs t fr} hb e => by
    subst e
    rw [ho] at hb
    injection hb with hb
    rw [hb] at hc
    cases hc
  refine ⟨LA, LC, (hm.block _ (lt_of_heap h1) (ne h1)).trans h1, own_mut2 h2 hm (fun a ha e => ?_), h3, h4.trans hm fun i hi => .inr (by rw [hi]; exact hl)⟩
  obtain ⟨_, cs, hcs⟩ := own_head h2 a ha
  exact ne hcs e
theorem own_rebase {w : World} {b0 b n C size : Nat} {e : TypeId} {A : Option Addr} {xs : List Value} (h : w.ownsRow b0 e size (.slice A n C) n xs) (hb : ∀ a, A = some a → b ≤ a.block) : w.ownsRow b e size (.slice A n C) n xs := by
  refine ⟨h.1, ?_⟩
  rcases h.2 with h1 | ⟨g, cap, cur, h1, h2, h3⟩
  · exact .inl h1
  · injection h1 with e1 e2 e3
    subst e3
    exact .inr ⟨g, C, cur, by rw [e1], hb _ e1, h3⟩
theorem isCells_of {cs : Array Value} {t : TypeId} {fr : Nat × Nat} {o : Obj} (h : some (Obj.cells cs t fr) = some o) : o.isCells = true := by cases h; rfl
theorem Try.infoRef : (Try.prog.info? 26).map (fun i => (i.zero, i.size, i.bytes)) = some (some (.int .i64 0), 1, 8) := by kernel_rfl
/-- A number is appended to the slice in a box: in a fenced walk. -/
theorem appI {F : Fence} {nF : Nat} {ops : Array Oper} {rest : List Oper} {o : Oper} {a : Act} {Q : Exit → Act → World → Prop} {w : World} (hgd : o.guard = none) (s x : Operand)
    (ho : o.op = .call { callee := .builtin .append, args := #[s, x], argTypes := #[35, 35] }) (w0 : World) (Bs : Nat) (L0 : Option Addr) (zs : List Int) (y : Int) (LA : Option Addr) (LC : Nat)
    (hbox : w.heap[Bs]? = some (.cells #[.slice LA zs.length LC] 35 (0, 0))) (hown : w.ownsRow 0 26 1 (.slice LA zs.length LC) zs.length (ints zs)) (hL : ∀ a, LA = some a → L0 = some a ∨ w0.heap.size ≤ a.block) (hm : Mut (fun k => k = Bs ∨ ∃ a, L0 = some a ∧ a.block = k) w0 w)
    (hs : a.eval s = .slice LA zs.length LC) {p : Nat} (hx : a.eval x = .slice (some ⟨p, 0, none⟩) 1 1) (hp : p = w.heap.size) (hn : zs.length ≤ 1000000000)
    (h : ∀ g C w', w'.cell? ⟨Bs, 0, none⟩ = some (.slice LA zs.length LC) → w'.frozen? ⟨Bs, 0, none⟩ = false →
      Hid (BoxAt w0 Bs L0 (zs ++ [y]) (w'.setCell ⟨Bs, 0, none⟩ (.slice (some ⟨g, 0, none⟩) (zs.length + 1) C)) ∧ ∀ B, KeepsFrom B w (w'.setCell ⟨Bs, 0, none⟩ (.slice (some ⟨g, 0, none⟩) (zs.length + 1) C))) → wpListIn F nF Try.prog ops Q rest (a.put o.dst (.slice (some ⟨g, 0, none⟩) (zs.length + 1) C)) w') :
    wpListIn F nF Try.prog ops Q (o :: rest) a (w.alloc (.cells #[.int .i64 y] 26)) := by
  subst hp
  obtain ⟨i0, hi, hz0, hz1, hz2⟩ := info_parts Try.infoRef
  refine wpListIn_append_own_at _ hgd s x 35 ho 0 26 i0 (.int .i64 0) 1 8 Try.underlying35 hi hz0 hz1 hz2 rfl (by decide) (.slice LA zs.length LC) zs.length (ints zs) hs (hown.alloc _) ⟨w.heap.size, 0, none⟩ 1 1 [.int .i64 y] hx rfl ?c1 ?c2 ?c3 ?c4 ?c5 ?_
  case c1 => exact World.news_of_block (cs := #[.int .i64 y]) (t := 26) (fr := (0, 0)) (heap_alloc_new w _)
  case c2 => intro u hu; simp at hu; subst hu; rfl
  case c3 => simp only [maxLen]; omega
  case c4 => omega
  case c5 => omega
  intro v1 w1 hown1 hgrow _ hblk
  rcases hown1.2 with ⟨_, h0⟩ | ⟨g, C, cur, rfl, _, hg1, hg2, hg3, hg4, hg5⟩
  · exact absurd h0 (by omega)
  have ba : Below w.heap.size w (w.alloc (.cells #[.int .i64 y] 26)) := (Below.refl _ _).alloc (Nat.le_refl _) _
  have hsz : (w.alloc (.cells #[.int .i64 y] 26)).heap.size = w.heap.size + 1 := World.size_alloc _ _
  have hbox1 : (w.alloc (.cells #[.int .i64 y] 26)).heap[Bs]? = some (.cells #[.slice LA zs.length LC] 35 (0, 0)) := (ba.block _ (lt_of_heap hbox)).trans hbox
  have hrowne : ∀ a, LA = some a → a.block ≠ Bs := fun a ha => by
    obtain ⟨_, cs, hcs⟩ := own_head hown a ha
    exact ne_ty hcs hbox (by decide)
  have hm1 : Mut (fun k => ∃ a, LA = some a ∧ a.block = k) (w.alloc (.cells #[.int .i64 y] 26)) w1 := Mut.of_grown hgrow fun k hk => .inl (ownB hk)
  have hbox2 : w1.heap[Bs]? = some (.cells #[.slice LA zs.length LC] 35 (0, 0)) := (hm1.block _ (lt_of_heap hbox1) (fun ⟨a, ha, e⟩ => hrowne a ha e)).trans hbox1
  have hm2 : Mut (fun k => k = Bs ∨ ∃ a, LA = some a ∧ a.block = k) w (w1.setCell ⟨Bs, 0, none⟩ (.slice (some ⟨g, 0, none⟩) (zs.length + 1) C)) :=
    ((Mut.of_below ba).trans (hm1.mono (S' := fun k => k = Bs ∨ ∃ a, LA = some a ∧ a.block = k) fun i hi => .inl (.inr hi)) fun i hi => .inl hi).then (Mut.setCell _ _ _ _ (.inl rfl))
  have hgne : g ≠ Bs := ne_ty hg1 hbox2 (by decide)
  refine h g C w1 (cell_of_heap hbox2 rfl) (frozen_of_heap hbox2 0) (Lib.hid ⟨?_, ?_⟩)
  · have e1 : (zs ++ [y]).length = zs.length + 1 := by simp
    refine ⟨some ⟨g, 0, none⟩, C, ?_, ?_, ?_, ?_⟩
    · rw [e1, heap_setCell_same w1 Bs 0 _ _ _ hbox2]; rfl
    · rw [e1]
      have : ints (zs ++ [y]) = ints zs ++ [.int .i64 y] := by simp [ints]
      rw [this]
      exact own_mut2 hown1 (Mut.setCell (S := (· = Bs)) w1 Bs 0 _ rfl) fun a ha e => by
        injection ha with ha
        subst ha
        exact hgne e
    · intro a ha
      injection ha with ha
      subst ha
      rcases hblk with hb | hb
      · obtain ⟨a', ha', e⟩ := ownB hb.symm
        obtain ⟨e2, _⟩ := own_head hown a' ha'
        have : a' = ⟨g, 0, none⟩ := by rw [e2, e]
        subst this
        exact hL _ ha'
      · have : g = w.heap.size + 1 := by simpa [Value.ownBlock, hsz] using hb
        have := hm.size
        exact .inr (by show w0.heap.size ≤ g; omega)
    · refine hm.trans hm2 fun i hi => ?_
      rcases hi with hi | ⟨a, ha, hi⟩
      · exact .inl (.inl hi)
      · rcases hL a ha with h5 | h5
        · exact .inl (.inr ⟨a, h5, hi⟩)
        · exact .inr (by rw [← hi]; exact h5)
  · intro B
    refine KeepsFrom.of_mut hm2 fun k o hk _ hko => ?_
    rcases hk with hk | ⟨a, ha, hk⟩
    · subst hk
      rw [hbox] at hko
      exact isCells_of hko
    · obtain ⟨_, cs, hcs⟩ := own_head hown a ha
      rw [← hk, hcs] at hko
      exact isCells_of hko
theorem ints_take {ts : List Int} {j : Nat} (h : j < (ints ts).length) : ∃ hj : j < ts.length, (ints ts)[j]'h = .int .i64 (ts[j]'hj) ∧ ts.take (j + 1) = ts.take j ++ [ts[j]'hj] := by
  have hj : j < ts.length := by simpa [ints] using h
  exact ⟨hj, by simp [ints], List.take_succ_eq_append_getElem hj⟩
set_option maxHeartbeats 2000000 in
/-- slices.AppendSeq(nil, seq), against an iterator that gives a list. -/
theorem appendSeq_met (n : Nat) (hn : 2 ≤ n) (gf : Nat) (bs : Array Value) (eg : ∀ args w, (callFunc gf args).run Try.prog w = .ok (.enter gf args) w) (ts : List Int) (hts : ts.length ≤ 1000000000) (Rd : World → Prop) (hseq : Gives Fence.wide (n - 1) Try.prog gf bs (ints ts) Rd) (w : World) (hRd : ∀ W, Below w.heap.size w W → Rd W) :
    CallsIn Fence.wide n Try.prog 91 #[.slice none 0 0, .func (.func gf) bs #[]] w fun e w' => ∃ LA LC, e = .returned (.slice LA ts.length LC) ∧ w'.ownsRow w.heap.size 26 1 (.slice LA ts.length LC) ts.length (ints ts) ∧ Below w.heap.size w w' := by
  refine callsIn_of_wp_marks Try.func91 rfl trivial ?_ rfl
  simp only [Try.ntmps91, List.size_toArray, List.length_cons, List.length_nil, Nat.reduceAdd, Nat.reduceSub, Array.replicate_succ, Array.replicate_zero, List.push_toArray, List.append_toArray, List.nil_append, List.cons_append]
  have HS := Lib.hid hseq
  have HR := Lib.hid hRd
  have HE := Lib.hid eg
  have HT := Lib.hid hts
  clear hseq hRd eg hts
  gi_wp2
  have base : BoxAt w w.heap.size none [] (w.alloc (.cells #[.slice none 0 0] 35)) := ⟨none, 0, heap_alloc_new w _, World.ownsRow_nil _ _ _ _, (fun a h => by cases h), Mut.of_below ((Below.refl _ _).alloc (Nat.le_refl _) _)⟩
  have toB : ∀ {zs W}, BoxAt w w.heap.size none zs W → Below w.heap.size w W := fun {zs W} hb => by
    obtain ⟨_, _, _, _, _, hm⟩ := hb
    exact hm.to_below (Nat.le_refl _) fun k hk => by
      rcases hk with rfl | ⟨a, ha, _⟩
      · exact Nat.le_refl _
      · cases ha
  refine wpIn_range_one rfl (by omega) (by simp) rfl trivial HE.out HS.out (fun j W => BoxAt w w.heap.size none (ts.take j) W) (fun j A B h hb => h.below hb) (fun j W l o o' h hl ho hc => h.put (by have := hl; simp at this; omega) ho hc) (fun j W h => HR.out W (toB h)) base ?_ ?_
  · intro l j hj W hW
    obtain ⟨hj2, hx, htk⟩ := ints_take hj
    rw [hx]
    have hlen : (ts.take j).length ≤ 1000000000 := by have := HT.out; rw [List.length_take]; omega
    have HK : Hid (BoxAt w w.heap.size none (ts.take (j + 1)) = BoxAt w w.heap.size none (ts.take j ++ [ts[j]'hj2])) := Lib.hid (by rw [htk])
    generalize ts[j]'hj2 = y at *
    generalize ts.take j = zs at *
    obtain ⟨LA, LC, h1, h2, h3, h4⟩ := hW
    have c1 := cell_of_heap (v := .slice LA zs.length LC) h1 (j := 0) rfl
    have c2 := frozen_of_heap h1 0
    have H1 := Lib.hid h1
    have H2 := Lib.hid h2
    have H3 := Lib.hid h3
    have H4 := Lib.hid h4
    clear h1 h2 h3 h4 hx htk base HS
    gi_wp2_with (first
      | (gi_at_builtin; refine appI rfl _ _ rfl w w.heap.size none zs y LA LC H1.out H2.out H3.out H4.out rfl rfl rfl hlen ?_; intro g C w1 d1 d2 HB)
      | gi_in)
    exact ⟨HB.out.2 _, by rw [HK.out]; exact HB.out.1⟩
  · intro D W hD hW hdef
    rename_i Q' K hK
    refine hK _ _ ?_
    rw [List.take_of_length_le (by simp [ints])] at hW
    have HB := Lib.hid (toB hW)
    obtain ⟨LA, LC, h1, h2, h3, h4⟩ := hW
    have hrow : ∀ a, LA = some a → a.block < W.heap.size ∧ a.block ≠ D ∧ w.heap.size ≤ a.block := fun a ha => by
      obtain ⟨_, cs, hcs⟩ := own_head h2 a ha
      refine ⟨lt_of_heap hcs, fun e => ?_, ?_⟩
      · rw [e, hdef] at hcs; cases hcs
      · rcases h3 a ha with h5 | h5
        · cases h5
        · exact h5
    have hD2 : w.heap.size ≤ D := by simp at hD; omega
    have hm : Mut (· = D) W (W.putObj D (.deferred none)) := ⟨rfl, rfl, rfl, by simp, fun k _ hk => World.putObj_heap_other (fun e => hk e)⟩
    have c1 := cell_of_heap (v := .slice LA ts.length LC) h1 (j := 0) rfl
    have c2 := frozen_of_heap h1 0
    have H2 := Lib.hid h2
    have H5 := Lib.hid hrow
    have H6 := Lib.hid hm
    have H7 := Lib.hid hdef
    have H8 := Lib.hid hD2
    clear h1 h2 h3 h4 hrow hm hdef hD2 hD base hK
    gi_wp2
    refine ⟨by simp, .inl ⟨_, _, rfl, run_takeDeferred H7.out, ?_⟩⟩
    refine ⟨_, results_tmp rfl _ _ _, LA, LC, rfl, ?_, HB.out.trans (H6.out.to_below HB.out.size fun k hk => by rw [hk]; exact H8.out)⟩
    exact own_rebase (own_mut2 H2.out H6.out fun a ha e => (H5.out a ha).2.1 e) fun a ha => (H5.out a ha).2.2
set_option maxHeartbeats 1000000 in
/-- slices.Collect(seq), against an iterator that gives a list. -/
theorem collect_met (n : Nat) (hn : 3 ≤ n) (gf : Nat) (bs : Array Value) (eg : ∀ args w, (callFunc gf args).run Try.prog w = .ok (.enter gf args) w) (ts : List Int) (hts : ts.length ≤ 1000000000) (Rd : World → Prop) (hseq : Gives Fence.wide (n - 1 - 1) Try.prog gf bs (ints ts) Rd) (w : World) (hRd : ∀ W, Below w.heap.size w W → Rd W) :
    CallsIn Fence.wide n Try.prog 74 #[.func (.func gf) bs #[]] w fun e w' => ∃ LA LC, e = .returned (.slice LA ts.length LC) ∧ w'.ownsRow w.heap.size 26 1 (.slice LA ts.length LC) ts.length (ints ts) ∧ Below w.heap.size w w' := by
  have h1 : 1 ≤ n := by omega
  have HC := Lib.hid (appendSeq_met (n - 1) (by omega) gf bs eg ts hts Rd hseq w hRd)
  have hf : Fence.wide.fn 91 := trivial
  clear hseq hRd hts eg hn
  refine callsIn_of_wp Try.func74 rfl trivial ?_ rfl
  simp only [Try.ntmps74, List.size_toArray, List.length_cons, List.length_nil, Nat.reduceAdd, Nat.reduceSub, Array.replicate_succ, Array.replicate_zero, List.push_toArray, List.append_toArray, List.nil_append, List.cons_append]
  gi_wp2_with (gi_at_call 91; refine HC.out.mono ?_; rintro e w' ⟨LA, LC, rfl, hrow, hb⟩)
  go_ret
  exact ⟨LA, LC, rfl, hrow, hb⟩
end Go.Proofs.Ytodfpclekihbhaa

