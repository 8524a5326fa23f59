/- Texts on the heap, merged: W4, W5, W6, W7, W8, W9. -/
import Derived.Test.YtodfpclekihbhaaG03
import Derived.Test.YtodfpclekihbhaaG02
import Derived.Deep.LoopGhost
import Derived.WalkSpells
import Derived.Deep.RegionHeld3
import Derived.Deep.RegionWith
import Derived.StillTailTactics
/- free: an object is removed, and its references are added to a list. -/
namespace Go.Proofs.Ytodfpclekihbhaa
open Go.RowKit Go.Shelf
attribute [local go_sem] Oper.semAt_some

/-- A slice of references that the call may write to: it reads as a list; its row is not the heap's. -/
structure Lst (w : World) (S : Nat → Prop) (LA : Option Addr) (LC : Nat) (l : List Int) : Prop where
  own : w.ownsRow 0 26 1 (.slice LA l.length LC) l.length (ints l)
  off : ∀ a, LA = some a → ¬ S a.block
def LB (LA : Option Addr) : Nat → Prop := fun k => ∃ a, LA = some a ∧ a.block = k
theorem ord_of {w3 W : World} {hb : Nat} {A : HA} {H : Hp} {S : Nat → Prop} (h : HpAt w3 hb A H S) {r : Int} {o : Ob} {x : Rw} (hx : Mp.get H.rows o.row = some x) (hxA : o.kind = 2 → x.isA = true)
    (hB : w3.heap[A.ob r]? = some (.cells (obC A r o x.words.length) 104 (0, 0))) {Bs : Nat} {LA : Option Addr} {LC : Nat} {l : List Int} {bv : Value} (hbox : w3.heap[Bs]? = some (.cells #[bv] 35 (0, 0))) (hown : w3.ownsRow 0 26 1 (.slice LA l.length LC) l.length (ints l))
    (hm : Mut (fun k => k = Bs ∨ ∃ a, LA = some a ∧ a.block = k) w3 W) : ORd (A.ob r) A o x.words W := by
  have ne : ∀ {b : Nat} {cs : Array Value} {t : TypeId} {fr : Nat × Nat}, w3.heap[b]? = some (.cells cs t fr) → t ≠ 35 → t ≠ 26 → ¬ (b = Bs ∨ ∃ a, LA = some a ∧ a.block = b) := fun {b cs t fr} hb h1 h2 hh => by
    rcases hh with e | ⟨a, ha, e⟩
    · exact ne_ty hb hbox h1 e
    · obtain ⟨_, ds, hds⟩ := own_head hown a ha
      exact ne_ty hds hb (fun e => h2 e.symm) e
  have hB2 : W.heap[A.ob r]? = some (.cells (obC A r o x.words.length) 104 (0, 0)) := (hm.block _ (lt_of_heap hB) (ne hB (by decide) (by decide))).trans hB
  refine ⟨cell_of_heap hB2 rfl, cell_of_heap hB2 rfl, cell_of_heap hB2 rfl, cell_of_heap hB2 rfl, fun hk => ?_, ?_⟩
  · have hs := h.sto _ _ hx (hxA hk)
    exact cell_of_heap ((hm.block _ (lt_of_heap hs) (ne hs (by decide) (by decide))).trans hs) rfl
  · exact own_mut2 (h.row _ _ hx) hm fun a ha e => by
      obtain ⟨cs, hcs, _⟩ := row_blk (h.row _ _ hx) a ha
      exact ne hcs (by decide) (by decide) e
theorem get_del_of {α : Type} {L : List (Int × α)} {r x : Int} {o : α} (h : Mp.get (Mp.del L r) x = some o) : Mp.get L x = some o ∧ x ≠ r := by
  rw [Mp.get_del] at h
  by_cases e : x = r
  · rw [if_pos e] at h; cases h
  · rw [if_neg e] at h; exact ⟨h, e⟩
/-- What lies in memory when an object has been deleted from the map. -/
structure Mid (w w2 : World) (hb : Nat) (A : HA) (H : Hp) (S : Nat → Prop) (r : Int) (o : Ob) (x : Rw) (LA : Option Addr) (LC : Nat) (l : List Int) : Prop where
  hp : HpAt w2 hb A { H with objs := Mp.del H.objs r } S
  blk : w2.heap[A.ob r]? = some (.cells (obC A r o x.words.length) 104 (0, 0))
  box : w2.heap[w.heap.size]? = some (.cells #[.slice LA l.length LC] 35 (0, 0))
  own : w2.ownsRow 0 26 1 (.slice LA l.length LC) l.length (ints l)
  chg : Mut S w w2
theorem mid_of {w w2 : World} {hb : Nat} {A : HA} {H : Hp} {S : Nat → Prop} (h : HpAt w hb A H S) {r : Int} {o : Ob} {x : Rw} (ho : Mp.get H.objs r = some o) (hx : Mp.get H.rows o.row = some x) {LA : Option Addr} {LC : Nat} {l : List Int} (hl : Lst w S LA LC l)
    (hm : Mp.MapIs w2 A.mb kV ptrV (Mp.del (obAdr A H.objs) r)) (hmut : Mut (· = A.mb) (w.alloc (.cells #[.slice LA l.length LC] 35)) w2) : Mid w w2 hb A H S r o x LA LC l := by
  have ba : Below w.heap.size w (w.alloc (.cells #[.slice LA l.length LC] 35)) := (Below.refl _ _).alloc (Nat.le_refl _) _
  have hw : HpAt (w.alloc (.cells #[.slice LA l.length LC] 35)) hb A H S := h.below ba
  have hobj := hw.obj r o ho
  rw [hw.row_of hx rfl] at hobj
  have hbx : (w.alloc (.cells #[.slice LA l.length LC] 35)).heap[w.heap.size]? = some (.cells #[.slice LA l.length LC] 35 (0, 0)) := heap_alloc_new w _
  refine ⟨hw.delOb r hmut hm, (hmut.block _ (lt_of_heap hobj) (fun e => ne_map hobj hw.omap e.symm)).trans hobj, (hmut.block _ (lt_of_heap hbx) (fun e => ne_map hbx hw.omap e.symm)).trans hbx, ?_, ?_⟩
  · exact own_mut2 (own_mut2 hl.own (Mut.of_below (S := fun _ => False) ba) (fun _ _ h => h)) hmut fun a ha e => hl.off a ha (by rw [e]; exact h.Sm)
  · exact (Mut.of_below ba).trans hmut fun i hi => .inl (by rw [hi]; exact h.Sm)
/-- What free leaves. -/
def FreePost (w : World) (hb : Nat) (A : HA) (S : Nat → Prop) (LA : Option Addr) (G : Hp) (ls : List Int) (e : Ending) (w' : World) : Prop :=
  ∃ LA' LC', e = .returned (.slice LA' ls.length LC') ∧ HpAt w' hb A G S ∧ Lst w' S LA' LC' ls ∧ (∀ a, LA' = some a → LA = some a ∨ w.heap.size ≤ a.block) ∧ Mut (fun k => S k ∨ LB LA k) w w'
theorem freeH_none {H : Hp} {r : Int} {o : Ob} {x : Rw} (hx : Mp.get H.rows o.row = some x) (hA : ¬ (x.isA = true ∧ 0 < x.arr - 1)) : freeH H r o = ({ H with objs := Mp.del H.objs r, rows := Mp.del H.rows o.row }, refsOf x.words ++ tailOf o) := by
  unfold freeH targetsH Hp.rowOf
  rw [hx]
  simp only [Option.map_some, Option.getD_some]
  rw [if_neg hA]
theorem freeH_some {H : Hp} {r : Int} {o : Ob} {x : Rw} (hx : Mp.get H.rows o.row = some x) (hA : x.isA = true ∧ 0 < x.arr - 1) : freeH H r o = ({ H with objs := Mp.del H.objs r, rows := mapAt H.rows o.row Rw.dec }, []) := by
  unfold freeH
  rw [hx]
  simp only
  rw [if_pos hA]
/-- The end of free: behind the range. -/
theorem free_end {w w3 W : World} {hb : Nat} {A : HA} {H G : Hp} {S : Nat → Prop} (h : HpAt w hb A H S) (h3 : HpAt w3 hb A G S) {LA : Option Addr} {l ls : List Int} {D : Nat}
    (hoff : ∀ a, LA = some a → ¬ S a.block) (hmut : Mut S w w3) (hW : BoxAt w3 w.heap.size LA ls W) (hD : w3.heap.size ≤ D) (hdef : W.heap[D]? = some (.deferred (some [])))
    {k : Int} (hk : ∀ r o, Mp.get G.objs r = some o → o.row ≠ k) : ∃ LA' LC', W.heap[w.heap.size]? = some (.cells #[.slice LA' ls.length LC'] 35 (0, 0)) ∧
      FreePost w hb A S LA { G with rows := Mp.del G.rows k } ls (.returned (.slice LA' ls.length LC')) (W.putObj D (.deferred none)) := by
  obtain ⟨LA', LC', h1, h2, h4, h5⟩ := hW
  have hp : Mut (· = D) W (W.putObj D (.deferred none)) := ⟨rfl, rfl, rfl, by simp, fun k _ hk => World.putObj_heap_other (fun e => hk e)⟩
  have hDn : ∀ {b : Nat} {cs : Array Value} {t : TypeId} {fr : Nat × Nat}, W.heap[b]? = some (.cells cs t fr) → b ≠ D := fun hb e => by rw [e, hdef] at hb; cases hb
  have hS3 := hmut.size
  have hm2 : Mut (fun k => k = w.heap.size ∨ ∃ a, LA = some a ∧ a.block = k) w3 (W.putObj D (.deferred none)) := h5.trans hp fun i hi => .inr (by rw [hi]; exact hD)
  refine ⟨LA', LC', h1, LA', LC', rfl, ?_, ⟨?_, ?_⟩, ?_, ?_⟩
  · refine (h3.mut hm2 fun k hSk hT => ?_).delRow k hk
    rcases hT with e | ⟨a, ha, e⟩
    · have := h.Slt k hSk; omega
    · exact hoff a ha (by rw [e]; exact hSk)
  · exact own_mut2 h2 hp fun a ha e => by
      obtain ⟨_, cs, hcs⟩ := own_head h2 a ha
      exact hDn hcs e
  · intro a ha hSa
    rcases h4 a ha with e | e
    · exact hoff a e hSa
    · have := h.Slt _ hSa; omega
  · intro a ha
    rcases h4 a ha with e | e
    · exact .inl e
    · exact .inr (by omega)
  · refine (hmut.mono fun i hi => .inl (.inl hi)).trans hm2 fun i hi => ?_
    rcases hi with e | e
    · exact .inr (by omega)
    · exact .inl (.inr e)
set_option maxHeartbeats 2000000 in
theorem free_shared (n : Nat) (hn : 3 ≤ n) {w : World} {hb : Nat} {A : HA} {H : Hp} {S : Nat → Prop} (h : HpAt w hb A H S) {r : Int} {o : Ob} {x : Rw} (ho : Mp.get H.objs r = some o) (hx : Mp.get H.rows o.row = some x) (hk : o.kind = 2) (hA : x.isA = true) (ha1 : 2 ≤ x.arr) (ha2 : x.arr ≤ 1000000000) (hw : x.words.length ≤ 100000000) {LA : Option Addr} {LC : Nat} {l : List Int} (hl : Lst w S LA LC l) (hll : l.length ≤ 500000000) :
    CallsIn Fence.wide n Try.prog 76 #[.pointer (some ⟨hb, 0, none⟩), .int .i64 r, .pointer (some ⟨A.ob r, 0, none⟩), .slice LA l.length LC] w (FreePost w hb A S LA { H with objs := Mp.del H.objs r, rows := mapAt H.rows o.row Rw.dec } l) := by
  refine callsIn_of_wp Try.func76 rfl trivial ?_ rfl
  simp only [Try.ntmps76, List.size_toArray, List.length_cons, List.length_nil, Nat.reduceAdd, Nat.reduceSub, Array.replicate_succ, Array.replicate_zero, List.push_toArray, List.append_toArray, List.nil_append, List.cons_append]
  have HH := Lib.hid h
  have HO := Lib.hid ho
  have HX := Lib.hid hx
  have HL := Lib.hid hl
  have HW := Lib.hid hw
  have HN := Lib.hid hll
  have HM : Hid (Mp.MapIs (w.alloc (.cells #[.slice LA l.length LC] 35)) A.mb kV ptrV (obAdr A H.objs)) := Lib.hid (h.omap.of_block (((Below.refl w.heap.size w).alloc (Nat.le_refl _) _).block _ h.omap.lt))
  obtain ⟨c0, _, _, _, _⟩ := h.cells
  have hlt0 := lt_of_heap h.blk
  have HK := Lib.hid hk
  have HA2 := Lib.hid hA
  have HI : Hid (∃ na : Int, x.arr = na ∧ 2 ≤ na ∧ na ≤ 1000000000) := Lib.hid ⟨_, rfl, ha1, ha2⟩
  clear h ho hx hl hw hll hk hA ha1 ha2
  obtain ⟨na, ha0, ha1, ha2⟩ := HI.out
  have HA0 := Lib.hid ha0
  clear ha0
  have hpos : decide (na - 1 > 0) = true := by simp; omega
  gi_wp2_with (first
    | (refine Mp.wpListIn_delete_map rfl _ _ rfl HM.out Try.underlying93 Try.underlying26 kV_key kV_inj r (by rfl) (by rfl) ?_; intro w2 hm2 hmut2
       have HMid := Lib.hid (mid_of HH.out HO.out HX.out HL.out hm2.out hmut2.out)
       clear hm2 hmut2
       have d0 := cell_of_heap (v := .int .i64 2) HMid.out.blk (j := 0) (by have := HK.out; simp [obC, this])
       have d7 := cell_of_heap (v := .pointer (some ⟨A.st o.row, 0, none⟩)) HMid.out.blk (j := 7) (by have := HK.out; simp [obC, HA.pF, this])
       have d8 := cell_of_heap (v := .int .i64 na) (HMid.out.hp.sto o.row x HX.out HA2.out) (j := 2) (by have := HA0.out; simp [stC, this])
       have d9 := frozen_of_heap (HMid.out.hp.sto o.row x HX.out HA2.out) 2
       have e1 := cell_of_heap (v := .slice LA l.length LC) HMid.out.box (j := 0) rfl
       have e2 := frozen_of_heap HMid.out.box 0
       go_frame)
    | gi_in)
  go_ret
  have hset := HMid.out.hp.setArr o.row x HX.out HA2.out (na - 1) Rw.dec (by have := HA0.out; simp [Rw.dec, this]) (fun _ => rfl) (fun _ => rfl)
  have hms : Mut S w2 (w2.setCell ⟨A.st o.row, 2, none⟩ (.int .i64 (na - 1))) := Mut.setCell _ _ _ _ (HH.out.St _ _ HX.out HA2.out)
  refine ⟨LA, LC, rfl, hset, ⟨?_, HL.out.off⟩, fun a ha => .inl ha, (HMid.out.chg.then hms).mono fun i hi => .inl (.inl hi)⟩
  refine own_mut2 HMid.out.own hms fun a ha e => HL.out.off a ha e
set_option maxHeartbeats 2000000 in
theorem free_last (n : Nat) (hn : 3 ≤ n) {w : World} {hb : Nat} {A : HA} {H : Hp} {S : Nat → Prop} (h : HpAt w hb A H S) {r : Int} {o : Ob} {x : Rw} (ho : Mp.get H.objs r = some o) (hx : Mp.get H.rows o.row = some x) (hk : o.kind = 2) (hA : x.isA = true) (ha1 : x.arr = 1) (hu : ∀ r2 o2, Mp.get (Mp.del H.objs r) r2 = some o2 → o2.row ≠ o.row) (hw : x.words.length ≤ 100000000) {LA : Option Addr} {LC : Nat} {l : List Int} (hl : Lst w S LA LC l) (hll : l.length ≤ 500000000) :
    CallsIn Fence.wide n Try.prog 76 #[.pointer (some ⟨hb, 0, none⟩), .int .i64 r, .pointer (some ⟨A.ob r, 0, none⟩), .slice LA l.length LC] w (FreePost w hb A S LA { H with objs := Mp.del H.objs r, rows := Mp.del H.rows o.row } (l ++ (refsOf x.words ++ tailOf o))) := by
  refine callsIn_of_wp_marks Try.func76 rfl trivial ?_ rfl
  simp only [Try.ntmps76, List.size_toArray, List.length_cons, List.length_nil, Nat.reduceAdd, Nat.reduceSub, Array.replicate_succ, Array.replicate_zero, List.push_toArray, List.append_toArray, List.nil_append, List.cons_append]
  have HH := Lib.hid h
  have HO := Lib.hid ho
  have HX := Lib.hid hx
  have HL := Lib.hid hl
  have HW := Lib.hid hw
  have HN := Lib.hid hll
  have HM : Hid (Mp.MapIs (w.alloc (.cells #[.slice LA l.length LC] 35)) A.mb kV ptrV (obAdr A H.objs)) := Lib.hid (h.omap.of_block (((Below.refl w.heap.size w).alloc (Nat.le_refl _) _).block _ h.omap.lt))
  obtain ⟨c0, _, _, _, _⟩ := h.cells
  have hlt0 := lt_of_heap h.blk
  have HK := Lib.hid hk
  have HA2 := Lib.hid hA
  have HA0 := Lib.hid ha1
  have HU := Lib.hid hu
  clear h ho hx hl hw hll hk hA ha1 hu
  gi_wp2_with (first
    | (refine Mp.wpListIn_delete_map rfl _ _ rfl HM.out Try.underlying93 Try.underlying26 kV_key kV_inj r (by rfl) (by rfl) ?_; intro w2 hm2 hmut2
       have HMid := Lib.hid (mid_of HH.out HO.out HX.out HL.out hm2.out hmut2.out)
       clear hm2 hmut2
       have d0 := cell_of_heap (v := .int .i64 2) HMid.out.blk (j := 0) (by have := HK.out; simp [obC, this])
       have d7 := cell_of_heap (v := .pointer (some ⟨A.st o.row, 0, none⟩)) HMid.out.blk (j := 7) (by have := HK.out; simp [obC, HA.pF, this])
       have d8 := cell_of_heap (v := .int .i64 1) (HMid.out.hp.sto o.row x HX.out HA2.out) (j := 2) (by have := HA0.out; simp [stC, this])
       have d9 := frozen_of_heap (HMid.out.hp.sto o.row x HX.out HA2.out) 2
       have e1 := cell_of_heap (v := .slice LA l.length LC) HMid.out.box (j := 0) rfl
       have e2 := frozen_of_heap HMid.out.box 0
       go_frame)
    | gi_in)
  have hset := HMid.out.hp.setArr o.row x HX.out HA2.out 0 Rw.dec (by have := HA0.out; simp [Rw.dec, this]) (fun _ => rfl) (fun _ => rfl)
  have hms : Mut (· = A.st o.row) w2 (w2.setCell ⟨A.st o.row, 2, none⟩ (.int .i64 0)) := Mut.setCell _ _ _ _ rfl
  have hms2 : Mut S w2 (w2.setCell ⟨A.st o.row, 2, none⟩ (.int .i64 0)) := Mut.setCell _ _ _ _ (HH.out.St _ _ HX.out HA2.out)
  have hsto := HMid.out.hp.sto o.row x HX.out HA2.out
  have hmid3 := And.intro hset (And.intro ((hms.block _ (lt_of_heap HMid.out.blk) (ne_ty HMid.out.blk hsto (by decide))).trans HMid.out.blk) (And.intro ((hms.block _ (lt_of_heap HMid.out.box) (ne_ty HMid.out.box hsto (by decide))).trans HMid.out.box) (And.intro (own_mut2 HMid.out.own hms2 fun a ha e => HL.out.off a ha e) (HMid.out.chg.then hms2))))
  have HX3 : Hid (Mp.get (Hp.updR { H with objs := Mp.del H.objs r } o.row Rw.dec).rows o.row = some x.dec ∧ (o.kind = 2 → x.dec.isA = true) ∧ x.dec.words = x.words) := Lib.hid ⟨by show Mp.get (mapAt H.rows o.row Rw.dec) o.row = _; rw [get_mapAt, if_pos rfl, HX.out]; rfl, fun _ => HA2.out, rfl⟩
  generalize w2.setCell ⟨A.st o.row, 2, none⟩ (.int .i64 0) = w3 at *
  clear hset hms hms2 hsto d0 d7 d8 d9 e1 e2 HMid
  have htl : (refsOf x.words ++ tailOf o).length ≤ 200000000 := by
    have h1 := len_refsOf x.words
    have h2 : (tailOf o).length ≤ 1 := by unfold tailOf; split <;> simp
    have h3 := HW.out
    rw [List.length_append]; omega
  have HMid3 := Lib.hid hmid3
  clear hmid3
  have HTl := Lib.hid htl
  clear htl
  have h1 : 1 ≤ n := by omega
  refine wpIn_range_one rfl (by omega) (by simp) rfl trivial (enters_of Try.func72 (by kernel_rfl) rfl) (targets_gives (n - 1) A (A.ob r) o x.words HW.out) (fun j W => BoxAt w3 w.heap.size LA (l ++ (refsOf x.words ++ tailOf o).take j) W) (fun j A B h hb => h.below hb) (fun j W l o o' h hl ho hc => h.put hl ho hc) ?_ ?_ ?_ ?_
  · intro j W hW
    obtain ⟨LA1, LC1, _, _, _, hm⟩ := hW
    exact ord_of (x := x.dec) HMid3.out.1 HX3.out.1 HX3.out.2.1 (by rw [HX3.out.2.2]; exact HMid3.out.2.1) HMid3.out.2.2.1 HMid3.out.2.2.2.1 hm |> fun q => HX3.out.2.2 ▸ q
  · simp only [List.take_zero, List.append_nil]
    exact ⟨LA, LC, HMid3.out.2.2.1, HMid3.out.2.2.2.1, fun a ha => .inl ha, Mut.refl _ _⟩
  · intro lp j hj W hW
    obtain ⟨hj2, hxj, htk⟩ := ints_take hj
    rw [hxj]
    have hlen : (l ++ (refsOf x.words ++ tailOf o).take j).length ≤ 1000000000 := by
      have h1 := HTl.out
      have h2 := HN.out
      rw [List.length_append, List.length_take]; omega
    have HK3 : Hid (BoxAt w3 w.heap.size LA (l ++ (refsOf x.words ++ tailOf o).take (j + 1)) = BoxAt w3 w.heap.size LA (l ++ (refsOf x.words ++ tailOf o).take j ++ [(refsOf x.words ++ tailOf o)[j]'hj2])) := Lib.hid (by rw [htk, List.append_assoc])
    generalize (refsOf x.words ++ tailOf o)[j]'hj2 = y at *
    generalize l ++ (refsOf x.words ++ tailOf o).take j = zs at *
    obtain ⟨LA1, LC1, g1, g2, g3, g4⟩ := hW
    have c1 := cell_of_heap (v := .slice LA1 zs.length LC1) g1 (j := 0) rfl
    have c2 := frozen_of_heap g1 0
    have G1 := Lib.hid g1
    have G2 := Lib.hid g2
    have G3 := Lib.hid g3
    have G4 := Lib.hid g4
    clear g1 g2 g3 g4 hxj htk c0
    gi_wp2_with (first
      | (gi_at_builtin; refine appI rfl _ _ rfl w3 w.heap.size LA zs y LA1 LC1 G1.out G2.out G3.out G4.out rfl rfl rfl hlen ?_; intro g C w5 d1 d2 HB)
      | gi_in)
    exact ⟨HB.out.2 _, by rw [HK3.out]; exact HB.out.1⟩
  · intro D W hD hW hdef
    rename_i Q' K hK
    refine hK _ _ ?_
    rw [List.take_of_length_le (by simp [ints])] at hW
    obtain ⟨LA', LC', q1, q2⟩ := free_end (l := l) HH.out HMid3.out.1 HL.out.off HMid3.out.2.2.2.2 hW hD hdef (k := o.row) HU.out
    have c1 := cell_of_heap (v := .slice LA' (l ++ (refsOf x.words ++ tailOf o)).length LC') q1 (j := 0) rfl
    have c2 := frozen_of_heap q1 0
    have H2 := Lib.hid q2
    have H7 := Lib.hid hdef
    generalize hls : l ++ (refsOf x.words ++ tailOf o) = ls at *
    have HLS := Lib.hid hls
    clear q1 q2 hdef hW hD hK hls c0
    gi_wp2
    refine ⟨by simp, .inl ⟨_, _, rfl, run_takeDeferred H7.out, ?_⟩⟩
    refine ⟨_, results_tmp rfl _ _ _, ?_⟩
    have e9 : Mp.del (mapAt H.rows o.row Rw.dec) o.row = Mp.del H.rows o.row := del_mapAt _ _ _
    have q := H2.out
    rw [show ({ (Hp.updR { H with objs := Mp.del H.objs r } o.row Rw.dec) with rows := Mp.del (Hp.updR { H with objs := Mp.del H.objs r } o.row Rw.dec).rows o.row } : Hp) = { H with objs := Mp.del H.objs r, rows := Mp.del H.rows o.row } from by simp only [Hp.updR, e9]] at q
    exact q
set_option maxHeartbeats 2000000 in
theorem free_other (n : Nat) (hn : 3 ≤ n) {w : World} {hb : Nat} {A : HA} {H : Hp} {S : Nat → Prop} (h : HpAt w hb A H S) {r : Int} {o : Ob} {x : Rw} (ho : Mp.get H.objs r = some o) (hx : Mp.get H.rows o.row = some x) (hk : o.kind ≠ 2) (hu : ∀ r2 o2, Mp.get (Mp.del H.objs r) r2 = some o2 → o2.row ≠ o.row) (hw : x.words.length ≤ 100000000) {LA : Option Addr} {LC : Nat} {l : List Int} (hl : Lst w S LA LC l) (hll : l.length ≤ 500000000) :
    CallsIn Fence.wide n Try.prog 76 #[.pointer (some ⟨hb, 0, none⟩), .int .i64 r, .pointer (some ⟨A.ob r, 0, none⟩), .slice LA l.length LC] w (FreePost w hb A S LA { H with objs := Mp.del H.objs r, rows := Mp.del H.rows o.row } (l ++ (refsOf x.words ++ tailOf o))) := by
  refine callsIn_of_wp_marks Try.func76 rfl trivial ?_ rfl
  simp only [Try.ntmps76, List.size_toArray, List.length_cons, List.length_nil, Nat.reduceAdd, Nat.reduceSub, Array.replicate_succ, Array.replicate_zero, List.push_toArray, List.append_toArray, List.nil_append, List.cons_append]
  have HH := Lib.hid h
  have HO := Lib.hid ho
  have HX := Lib.hid hx
  have HL := Lib.hid hl
  have HW := Lib.hid hw
  have HN := Lib.hid hll
  have HM : Hid (Mp.MapIs (w.alloc (.cells #[.slice LA l.length LC] 35)) A.mb kV ptrV (obAdr A H.objs)) := Lib.hid (h.omap.of_block (((Below.refl w.heap.size w).alloc (Nat.le_refl _) _).block _ h.omap.lt))
  obtain ⟨c0, _, _, _, _⟩ := h.cells
  have hlt0 := lt_of_heap h.blk
  have hk2 : (o.kind == 2) = false := by simpa using hk
  have HK := Lib.hid hk
  have HU := Lib.hid hu
  clear h ho hx hl hw hll hk hu
  gi_wp2_with (first
    | (refine Mp.wpListIn_delete_map rfl _ _ rfl HM.out Try.underlying93 Try.underlying26 kV_key kV_inj r (by rfl) (by rfl) ?_; intro w2 hm2 hmut2
       have HMid := Lib.hid (mid_of HH.out HO.out HX.out HL.out hm2.out hmut2.out)
       clear hm2 hmut2
       have d0 := cell_of_heap (v := .int .i64 o.kind) HMid.out.blk (j := 0) rfl
       have e1 := cell_of_heap (v := .slice LA l.length LC) HMid.out.box (j := 0) rfl
       have e2 := frozen_of_heap HMid.out.box 0
       go_frame)
    | gi_in)
  have hmid3 := And.intro HMid.out.hp (And.intro HMid.out.blk (And.intro HMid.out.box (And.intro HMid.out.own HMid.out.chg)))
  have HX3 : Hid (Mp.get ({ H with objs := Mp.del H.objs r } : Hp).rows o.row = some x ∧ (o.kind = 2 → x.isA = true) ∧ x.words = x.words) := Lib.hid ⟨HX.out, fun e => absurd e HK.out, rfl⟩
  obtain ⟨w3, rfl⟩ : ∃ w3, w3 = w2 := ⟨_, rfl⟩
  clear d0 e1 e2 HMid
  have htl : (refsOf x.words ++ tailOf o).length ≤ 200000000 := by
    have h1 := len_refsOf x.words
    have h2 : (tailOf o).length ≤ 1 := by unfold tailOf; split <;> simp
    have h3 := HW.out
    rw [List.length_append]; omega
  have HMid3 := Lib.hid hmid3
  clear hmid3
  have HTl := Lib.hid htl
  clear htl
  have h1 : 1 ≤ n := by omega
  refine wpIn_range_one rfl (by omega) (by simp) rfl trivial (enters_of Try.func72 (by kernel_rfl) rfl) (targets_gives (n - 1) A (A.ob r) o x.words HW.out) (fun j W => BoxAt w3 w.heap.size LA (l ++ (refsOf x.words ++ tailOf o).take j) W) (fun j A B h hb => h.below hb) (fun j W l o o' h hl ho hc => h.put hl ho hc) ?_ ?_ ?_ ?_
  · intro j W hW
    obtain ⟨LA1, LC1, _, _, _, hm⟩ := hW
    exact ord_of (x := x) HMid3.out.1 HX3.out.1 HX3.out.2.1 (by rw [HX3.out.2.2]; exact HMid3.out.2.1) HMid3.out.2.2.1 HMid3.out.2.2.2.1 hm |> fun q => HX3.out.2.2 ▸ q
  · simp only [List.take_zero, List.append_nil]
    exact ⟨LA, LC, HMid3.out.2.2.1, HMid3.out.2.2.2.1, fun a ha => .inl ha, Mut.refl _ _⟩
  · intro lp j hj W hW
    obtain ⟨hj2, hxj, htk⟩ := ints_take hj
    rw [hxj]
    have hlen : (l ++ (refsOf x.words ++ tailOf o).take j).length ≤ 1000000000 := by
      have h1 := HTl.out
      have h2 := HN.out
      rw [List.length_append, List.length_take]; omega
    have HK3 : Hid (BoxAt w3 w.heap.size LA (l ++ (refsOf x.words ++ tailOf o).take (j + 1)) = BoxAt w3 w.heap.size LA (l ++ (refsOf x.words ++ tailOf o).take j ++ [(refsOf x.words ++ tailOf o)[j]'hj2])) := Lib.hid (by rw [htk, List.append_assoc])
    generalize (refsOf x.words ++ tailOf o)[j]'hj2 = y at *
    generalize l ++ (refsOf x.words ++ tailOf o).take j = zs at *
    obtain ⟨LA1, LC1, g1, g2, g3, g4⟩ := hW
    have c1 := cell_of_heap (v := .slice LA1 zs.length LC1) g1 (j := 0) rfl
    have c2 := frozen_of_heap g1 0
    have G1 := Lib.hid g1
    have G2 := Lib.hid g2
    have G3 := Lib.hid g3
    have G4 := Lib.hid g4
    clear g1 g2 g3 g4 hxj htk c0
    gi_wp2_with (first
      | (gi_at_builtin; refine appI rfl _ _ rfl w3 w.heap.size LA zs y LA1 LC1 G1.out G2.out G3.out G4.out rfl rfl rfl hlen ?_; intro g C w5 d1 d2 HB)
      | gi_in)
    exact ⟨HB.out.2 _, by rw [HK3.out]; exact HB.out.1⟩
  · intro D W hD hW hdef
    rename_i Q' K hK
    refine hK _ _ ?_
    rw [List.take_of_length_le (by simp [ints])] at hW
    obtain ⟨LA', LC', q1, q2⟩ := free_end (l := l) HH.out HMid3.out.1 HL.out.off HMid3.out.2.2.2.2 hW hD hdef (k := o.row) HU.out
    have c1 := cell_of_heap (v := .slice LA' (l ++ (refsOf x.words ++ tailOf o)).length LC') q1 (j := 0) rfl
    have c2 := frozen_of_heap q1 0
    have H2 := Lib.hid q2
    have H7 := Lib.hid hdef
    generalize hls : l ++ (refsOf x.words ++ tailOf o) = ls at *
    have HLS := Lib.hid hls
    clear q1 q2 hdef hW hD hK hls c0
    gi_wp2
    refine ⟨by simp, .inl ⟨_, _, rfl, run_takeDeferred H7.out, ?_⟩⟩
    refine ⟨_, results_tmp rfl _ _ _, ?_⟩
    exact H2.out
end Go.Proofs.Ytodfpclekihbhaa

/- release: references are taken away, and what nothing refers to any more is freed. -/
namespace Go.Proofs.Ytodfpclekihbhaa
open Go.RowKit Go.Shelf

theorem free_calls (n : Nat) (hn : 3 ≤ n) {w : World} {hb : Nat} {A : HA} {H : Hp} {S : Nat → Prop} (h : HpAt w hb A H S) {r : Int} {o : Ob} {x : Rw} (ho : Mp.get H.objs r = some o) (hx : Mp.get H.rows o.row = some x) (hk : x.isA = true ↔ o.kind = 2) (ha1 : 1 ≤ x.arr) (ha2 : x.arr ≤ 1000000000) (ha3 : x.isA = false → x.arr = 1)
    (hu : ¬ (x.isA = true ∧ 0 < x.arr - 1) → ∀ r2 o2, Mp.get (Mp.del H.objs r) r2 = some o2 → o2.row ≠ o.row) (hw : x.words.length ≤ 100000000) {LA : Option Addr} {LC : Nat} {l : List Int} (hl : Lst w S LA LC l) (hll : l.length ≤ 500000000) :
    CallsIn Fence.wide n Try.prog 76 #[.pointer (some ⟨hb, 0, none⟩), .int .i64 r, .pointer (some ⟨A.ob r, 0, none⟩), .slice LA l.length LC] w (FreePost w hb A S LA (freeH H r o).1 (l ++ (freeH H r o).2)) := by
  by_cases hA : x.isA = true ∧ 0 < x.arr - 1
  · rw [freeH_some hx hA]
    simp only [List.append_nil]
    exact free_shared n hn h ho hx (hk.1 hA.1) hA.1 (by omega) ha2 hw hl hll
  · rw [freeH_none hx hA]
    by_cases h2 : o.kind = 2
    · have hi := hk.2 h2
      have : ¬ 0 < x.arr - 1 := fun e => hA ⟨hi, e⟩
      exact free_last n hn h ho hx h2 hi (by omega) (hu hA) hw hl hll
    · exact free_other n hn h ho hx h2 (hu hA) hw hl hll
/-- A state of release's loop. -/
structure RelI (w wr : World) (hb : Nat) (A : HA) (G : Hp) (S : Nat → Prop) (LA LA' : Option Addr) (LC' : Nat) (l : List Int) (R : Hp) : Prop where
  hp : HpAt wr hb A G S
  inv : Inv G l.reverse
  mu : muH G + l.length ≤ 100000000
  bd : ∀ r o, Mp.get G.objs r = some o → o.holds ≤ 1000000000
  ls : Lst wr S LA' LC' l
  fr : ∀ a, LA' = some a → LA = some a ∨ w.heap.size ≤ a.block
  chg : Mut (fun k => S k ∨ LB LA k) w wr
  eq : relH G l.reverse = R
  sz : ∀ k, S k → k < w.heap.size
theorem ints_snoc (l : List Int) (x : Int) : ints (l ++ [x]) = ints l ++ [.int .i64 x] := by simp [ints]
/-- The last number of a slice, for a walk; and the slice without it. -/
theorem Lst.last {w : World} {S : Nat → Prop} {LA : Option Addr} {LC : Nat} {l : List Int} {r : Int} (h : Lst w S LA LC (l ++ [r])) :
    ∃ g, LA = some ⟨g, 0, none⟩ ∧ g < w.heap.size ∧ l.length + 1 ≤ LC ∧ LC ≤ maxLen ∧ w.cell? ⟨g, l.length, none⟩ = some (.int .i64 r) ∧ Lst w S LA LC l := by
  rcases h.own.2 with ⟨h1, h2⟩ | ⟨g, cap, cur, h1, h2, h3, h4, h5, h6, h7⟩
  · simp at h2
  · injection h1 with e1 e2 e3
    subst e3
    rw [List.length_append, List.length_singleton] at h4 h7
    refine ⟨g, e1, lt_of_heap h3, h4, h5, cell_of_heap h3 ?_, ⟨⟨by simp [ints], .inr ⟨g, LC, cur, by rw [e1], h2, h3, by omega, h5, h6, ?_⟩⟩, h.off⟩⟩
    · have : (cur.toList.take ((l.length + 1) * 1))[l.length]? = some (.int .i64 r) := by rw [h7]; simp [ints]
      rw [List.getElem?_take_of_lt (by omega)] at this
      simpa using this
    · have : (cur.toList.take ((l.length + 1) * 1)).take l.length = ints l := by rw [h7, ints_snoc, List.take_append_of_le_length (by simp [ints]), List.take_of_length_le (by simp [ints])]
      rw [List.take_take] at this
      simpa using this
theorem Lst.chg {w w' : World} {S T : Nat → Prop} {LA : Option Addr} {LC : Nat} {l : List Int} (h : Lst w S LA LC l) (hm : Mut T w w') (hT : ∀ k, T k → S k) : Lst w' S LA LC l :=
  ⟨own_mut2 h.own hm fun a ha e => h.off a ha (hT _ e), h.off⟩
theorem RelI.zero {w wr : World} {hb : Nat} {A : HA} {G R : Hp} {S : Nat → Prop} {LA LA' : Option Addr} {LC' : Nat} {l : List Int} (h : RelI w wr hb A G S LA LA' LC' (l ++ [0]) R) : RelI w wr hb A G S LA LA' LC' l R := by
  have hi := h.inv
  have he := h.eq
  have hm := h.mu
  rw [List.reverse_append, List.reverse_singleton] at hi he
  simp at hm
  obtain ⟨g, _, _, _, _, _, hl⟩ := h.ls.last
  exact ⟨h.hp, hi.zero, by omega, h.bd, hl, h.fr, h.chg, by rw [← he]; exact (relH_zero G l.reverse).symm, h.sz⟩
theorem bd_upd {G : Hp} {r : Int} (h : ∀ r o, Mp.get G.objs r = some o → o.holds ≤ 1000000000) : ∀ r' o, Mp.get (G.upd r Ob.dec).objs r' = some o → o.holds ≤ 1000000000 := fun x y hy => by
  rw [get_upd] at hy
  by_cases e : x = r
  · rw [if_pos e] at hy
    cases hz : Mp.get G.objs x with
    | none => rw [hz] at hy; cases hy
    | some z =>
      rw [hz] at hy
      injection hy with hy
      rw [← hy]
      exact h x z hz
  · rw [if_neg e] at hy; exact h x y hy
theorem RelI.keep {w wr w2 : World} {hb : Nat} {A : HA} {G R : Hp} {S : Nat → Prop} {LA LA' : Option Addr} {LC' : Nat} {l : List Int} {r : Int} {o : Ob} (h : RelI w wr hb A G S LA LA' LC' (l ++ [r]) R) (h0 : r ≠ 0) (ho : Mp.get G.objs r = some o) (hc : o.holds + (o.rc - 1) ≠ 0)
    (hp : HpAt w2 hb A (G.upd r Ob.dec) S) (hm2 : Mut (· = A.ob r) wr w2) : RelI w w2 hb A (G.upd r Ob.dec) S LA LA' LC' l R := by
  have hi := h.inv
  have he := h.eq
  have hm := h.mu
  rw [List.reverse_append, List.reverse_singleton] at hi he
  simp at hm
  obtain ⟨g, _, _, _, _, _, hl⟩ := h.ls.last
  have hpo := hi.pos r o ho
  refine ⟨hp, hi.dec ho (by omega), by rw [mu_upd]; omega, bd_upd h.bd, hl.chg hm2 (fun k hk => by rw [hk]; exact h.hp.So r o ho), h.fr, h.chg.trans hm2 (fun k hk => .inl (.inl (by rw [hk]; exact h.hp.So r o ho))), ?_, h.sz⟩
  rw [← he]
  exact (relH_keep _ h0 ho hc).symm
theorem RelI.free {w wr w2 w3 : World} {hb : Nat} {A : HA} {G R : Hp} {S : Nat → Prop} {LA LA' : Option Addr} {LC' : Nat} {l : List Int} {r : Int} {o : Ob} {e : Ending} (h : RelI w wr hb A G S LA LA' LC' (l ++ [r]) R) (h0 : r ≠ 0) (ho : Mp.get G.objs r = some o) (hc : o.holds + (o.rc - 1) = 0)
    (hm2 : Mut (· = A.ob r) wr w2) (hf : FreePost w2 hb A S LA' (freeH (G.upd r Ob.dec) r o).1 (l ++ (freeH (G.upd r Ob.dec) r o).2) e w3) :
    ∃ LA2 LC2, e = .returned (.slice LA2 (l ++ (freeH (G.upd r Ob.dec) r o).2).length LC2) ∧ RelI w w3 hb A (freeH (G.upd r Ob.dec) r o).1 S LA LA2 LC2 (l ++ (freeH (G.upd r Ob.dec) r o).2) R ∧ muH (freeH (G.upd r Ob.dec) r o).1 + (l ++ (freeH (G.upd r Ob.dec) r o).2).length < muH G + (l ++ [r]).length := by
  have hi := h.inv
  have he := h.eq
  have hm := h.mu
  rw [List.reverse_append, List.reverse_singleton] at hi he
  obtain ⟨LA2, LC2, g1, g2, g3, g4, g5⟩ := hf
  have hpo := hi.pos r o ho
  have h1 : Mp.get (G.upd r Ob.dec).objs r = some o.dec := by rw [get_upd, if_pos rfl, ho]; rfl
  have hmu := mu_free _ r o _ h1
  rw [mu_upd] at hmu
  have hlt : muH (freeH (G.upd r Ob.dec) r o).1 + (l ++ (freeH (G.upd r Ob.dec) r o).2).length < muH G + (l ++ [r]).length := by simp; omega
  refine ⟨LA2, LC2, g1, ⟨g2, ?_, by omega, ?_, g3, ?_, ?_, ?_, h.sz⟩, hlt⟩
  · rw [List.reverse_append]; exact hi.free ho hc
  · intro x y hy
    rw [freeH_objs] at hy
    exact bd_upd h.bd x y (get_del_of hy).1
  · intro a ha
    rcases g4 a ha with e1 | e1
    · exact h.fr a e1
    · have := h.chg.size
      have := hm2.size
      exact .inr (by omega)
  · refine (h.chg.trans hm2 fun k hk => .inl (.inl (by rw [hk]; exact h.hp.So r o ho))).trans g5 fun k hk => ?_
    rcases hk with e1 | ⟨a, ha, e1⟩
    · exact .inl (.inl e1)
    · rcases h.fr a ha with e2 | e2
      · exact .inl (.inr ⟨a, e2, e1⟩)
      · exact .inr (by omega)
  · rw [← he, List.reverse_append]
    exact (relH_free l.reverse h0 ho hc).symm
theorem HpAt.dec' {w : World} {hb : Nat} {A : HA} {G : Hp} {S : Nat → Prop} (h : HpAt w hb A G S) {r : Int} {o : Ob} {n : Int} (ho : Mp.get G.objs r = some o) (hn : o.rc = n) : HpAt (w.setCell ⟨A.ob r, 11, none⟩ (.int .i64 (n - 1))) hb A (G.upd r Ob.dec) S := by
  subst hn
  exact h.dec ho
set_option maxHeartbeats 2000000 in
theorem release_calls {w : World} {hb : Nat} {A : HA} {H : Hp} {S : Nat → Prop} (h : HpAt w hb A H S) {LA : Option Addr} {LC : Nat} {l : List Int} (hi : Inv H l.reverse) (hmu : muH H + l.length ≤ 100000000) (hbd : ∀ r o, Mp.get H.objs r = some o → o.holds ≤ 1000000000) (hl : Lst w S LA LC l) :
    Calls Try.prog 63 #[.pointer (some ⟨hb, 0, none⟩), .slice LA l.length LC] w fun e w' => e = .returned (.tuple #[]) ∧ HpAt w' hb A (relH H l.reverse) S ∧ Mut (fun k => S k ∨ LB LA k) w w' := by
  have HI : Hid (RelI w w hb A H S LA LA LC l (relH H l.reverse)) := Lib.hid ⟨h, hi, hmu, hbd, hl, fun a ha => .inl ha, Mut.refl _ _, rfl, h.Slt⟩
  clear h hi hmu hbd hl
  generalize relH H l.reverse = R at *
  have hf75 : Fence.wide.fn 75 := trivial
  go_enter Try.func63, Try.ntmps63
  go_wp2
  go_loopg [1] (muH H + l.length) (fun k v wr => ∃ (G : Hp) (LA' : Option Addr) (LC' : Nat) (l' : List Int), v = .slice LA' l'.length LC' ∧ Hid (muH G + l'.length = k) ∧ Hid (RelI w wr hb A G S LA LA' LC' l' R))
  case atStart => exact ⟨H, LA, LC, l, rfl, Lib.hid rfl, HI⟩
  case round =>
    obtain ⟨G, LA', LC', l', rfl, HK, HR⟩ := hrel
    clear HI
    rcases List.eq_nil_or_concat l' with rfl | ⟨ys, r, rfl⟩
    · go_wp2
      go_end0
      have h1 := HR.out.eq
      rw [List.reverse_nil, relH_nil] at h1
      exact ⟨rfl, by rw [← h1]; exact HR.out.hp, HR.out.chg⟩
    · rw [List.concat_eq_append] at HR HK ⊢
      rw [List.length_append, List.length_singleton]
      have hn1 := HR.out.mu
      rw [List.length_append, List.length_singleton] at hn1
      obtain ⟨g, hg1, hg2, hg3, hg4, hg5, _⟩ := HR.out.ls.last
      have hn2 : ys.length ≤ 100000000 := by omega
      clear hn1
      have HG := Lib.hid hg1
      subst hg1
      unfold maxLen at hg4
      generalize hn : ys.length = n at *
      have HN := Lib.hid hn
      clear hn HG
      by_cases h0 : r = 0
      · subst h0
        go_wp2
        go_roundg (muH G + n)
        case rel => exact ⟨G, some ⟨g, 0, none⟩, LC', ys, by rw [HN.out], Lib.hid (by rw [HN.out]), Lib.hid HR.out.zero⟩
        case measure => have := HK.out; rw [List.length_append, List.length_singleton, HN.out] at this; omega
      · have H0 := Lib.hid h0
        have h3 : (r == 0) = false := by simpa using h0
        have hi := HR.out.inv
        rw [List.reverse_append, List.reverse_singleton] at hi
        obtain ⟨o, ho⟩ := Inv.some_of (st := ys.reverse) hi h0
        have hl := HR.out.hp.look r
        rw [HA.at_some ho] at hl
        obtain ⟨c0, c1, c2, c3, hf⟩ := HR.out.hp.cells
        obtain ⟨d0, d1, d2, d3, d4, d5, d6, d7, d8, d9, d10, d11, df⟩ := HR.out.hp.ocells ho
        have hpo := hi.pos r o ho
        have hcn := hi.cnt r o ho
        have hle := inH_le G r
        have hcl := List.count_le_length (a := r) (l := [r] ++ ys.reverse)
        have hmu := HR.out.mu
        have hbo := HR.out.bd r o ho
        obtain ⟨x, hx, hxA, _⟩ := hi.row r o ho
        obtain ⟨ha1, ha2, ha3⟩ := hi.arr _ _ hx
        have hwl := words_le hx
        have hal : arrC G.objs o.row ≤ G.objs.length := List.length_filter_le _ _
        have e0 : muH G = wsum G.rows + 2 * G.objs.length := rfl
        have el : ([r] ++ ys.reverse).length = n + 1 := by simp [HN.out]
        have el2 : (ys ++ [r]).length = n + 1 := by simp [HN.out]
        have hb1 : 0 ≤ o.rc := by omega
        have hb2 : o.rc ≤ 1000000000 := by omega
        have hcnt : Calls Try.prog 75 #[.pointer (some ⟨A.ob r, 0, none⟩)] (wr.setCell ⟨A.ob r, 11, none⟩ (.int .i64 (o.rc - 1))) (fun e w' => e = .returned (.int .i64 (o.holds + (o.rc - 1))) ∧ Below (wr.setCell ⟨A.ob r, 11, none⟩ (.int .i64 (o.rc - 1))).heap.size (wr.setCell ⟨A.ob r, 11, none⟩ (.int .i64 (o.rc - 1))) w') := @count_calls (wr.setCell ⟨A.ob r, 11, none⟩ (.int .i64 (o.rc - 1))) hb A (G.upd r Ob.dec) S (HR.out.hp.dec ho) r o.dec (by rw [get_upd, if_pos rfl, ho]; rfl) hpo.1 hbo (by show _ ≤ o.rc - 1; omega) (by show o.rc - 1 ≤ _; omega)
        have hfree : o.holds + (o.rc - 1) = 0 → ∀ w2, Mut (· = A.ob r) wr w2 → HpAt w2 hb A (G.upd r Ob.dec) S → CallsIn Fence.wide 5 Try.prog 76 #[.pointer (some ⟨hb, 0, none⟩), .int .i64 r, .pointer (some ⟨A.ob r, 0, none⟩), .slice (some ⟨g, 0, none⟩) ys.length LC'] w2 (FreePost w2 hb A S (some ⟨g, 0, none⟩) (freeH (G.upd r Ob.dec) r o).1 (ys ++ (freeH (G.upd r Ob.dec) r o).2)) := fun hc w2 hm hp => by
          obtain ⟨_, _, _, _, _, _, hls⟩ := HR.out.ls.last
          have e1 : freeH (G.upd r Ob.dec) r o = freeH (G.upd r Ob.dec) r o.dec := rfl
          rw [e1]
          refine free_calls 5 (by omega) hp (o := o.dec) (by rw [get_upd, if_pos rfl, ho]; rfl) (x := x) hx hxA (by omega) (by omega) ha3 ?_ (by omega) (hls.chg hm fun k hk => by rw [hk]; exact HR.out.hp.So r o ho) (by rw [HN.out]; omega)
          intro hA r2 o2 h2 e2
          have hfi := (hi.free ho hc).row
          rw [freeH_none (H := G.upd r Ob.dec) (x := x) hx hA] at hfi
          obtain ⟨z, hz, _⟩ := hfi r2 o2 h2
          rw [e2] at hz
          have hz' : Mp.get (Mp.del G.rows o.row) o.row = some z := hz
          rw [Mp.get_del, if_pos rfl] at hz'
          cases hz'
        have HC := Lib.hid hcnt
        have HF := Lib.hid hfree
        have HO := Lib.hid ho
        have HDec := Lib.hid (HR.out.hp.dec ho)
        clear hcnt hfree hi ho hx hxA ha1 ha2 ha3 hwl hal e0 el el2 hpo hcn hle hcl hmu hbo d0 d1 d2 d3 d4 d5 d6 d7 d8 d9 d10 h0
        generalize hrc : o.rc = rc at *
        have HRC := Lib.hid hrc
        clear hrc
        generalize hm : o.holds + (rc - 1) = m at *
        have HM : Hid (o.holds + (o.rc - 1) = m) := Lib.hid (by rw [HRC.out]; exact hm)
        clear hm
        have HS : Hid (Mut (· = A.ob r) wr (wr.setCell ⟨A.ob r, 11, none⟩ (.int .i64 (rc - 1)))) := Lib.hid (Mut.setCell _ _ _ _ rfl)
        by_cases hc : m = 0
        · subst hc
          go_wp2_with (first
            | (go_at_call 75; refine HC.out.mono ?_; rintro e w2 ⟨rfl, hb2⟩
               have HM2 := Lib.hid (HS.out.then (Mut.of_below hb2))
               have HP2 := Lib.hid (HDec.out.below hb2)
               have HFC := Lib.hid ((callsIn_wide (n := 5)).1 (HF.out rfl w2 HM2.out HP2.out))
               rw [HN.out] at HFC
               clear hb2)
            | (go_at_call 76; refine HFC.out.mono ?_; intro e w3 hpost
               obtain ⟨LA2, LC2, he, hR2, hlt⟩ := HR.out.free H0.out HO.out HM.out HM2.out hpost
               subst he
               have HR2 := Lib.hid hR2
               have HLT := Lib.hid hlt
               clear hpost hR2 hlt))
          go_roundg (muH (freeH (G.upd r Ob.dec) r o).1 + (ys ++ (freeH (G.upd r Ob.dec) r o).2).length)
          case rel => exact ⟨_, LA2, LC2, _, by rw [List.length_append], Lib.hid rfl, HR2⟩
          case measure => have h1 := HK.out; have h2 := HLT.out; omega
        · have hc2 : (m == 0) = false := by simpa using hc
          have HC0 : Hid (o.holds + (o.rc - 1) ≠ 0) := Lib.hid (by rw [HM.out]; exact hc)
          clear hc
          go_wp2_with (go_at_call 75; refine HC.out.mono ?_; rintro e w2 ⟨rfl, hb2⟩
                       have HM2 := Lib.hid (HS.out.then (Mut.of_below hb2))
                       have HP2 := Lib.hid (HDec.out.below hb2)
                       clear hb2)
          go_roundg (muH (G.upd r Ob.dec) + ys.length)
          case rel => exact ⟨_, some ⟨g, 0, none⟩, LC', ys, by rw [HN.out], Lib.hid rfl, Lib.hid (HR.out.keep H0.out HO.out HC0.out HP2.out HM2.out)⟩
          case measure => have h1 := HK.out; rw [List.length_append, List.length_singleton] at h1; rw [mu_upd]; omega
end Go.Proofs.Ytodfpclekihbhaa

/- Calls that look an object up and read it; on a heap that is nil. -/
namespace Go.Proofs.Ytodfpclekihbhaa
open Go.RowKit Go.Shelf

variable {w : World} {hb : Nat} {A : HA} {H : Hp} {S : Nat → Prop}
theorem find_none (h : HpAt w hb A H S) {r : Int} (ho : Mp.get H.objs r = none) : Calls Try.prog 57 #[.pointer (some ⟨hb, 0, none⟩), .int .i64 r] w fun e w' => e = .returned (.pointer none) ∧ w = w' := by
  have := find_calls h r
  rw [HA.at_none ho] at this
  exact this
theorem find_some (h : HpAt w hb A H S) {r : Int} {o : Ob} (ho : Mp.get H.objs r = some o) : Calls Try.prog 57 #[.pointer (some ⟨hb, 0, none⟩), .int .i64 r] w fun e w' => e = .returned (.pointer (some ⟨A.ob r, 0, none⟩)) ∧ w = w' := by
  have := find_calls h r
  rw [HA.at_some ho] at this
  exact this
theorem kind_nil (r : Int) (w : World) : Calls Try.prog 37 #[.pointer none, .int .i64 r] w fun e w' => e = .returned (.int .i64 0) ∧ w = w' := by
  have HF := Lib.hid (find_nil r w)
  go_enter Try.func37, Try.ntmps37
  go_wp2_with (go_at_call 57; refine HF.out.mono ?_; rintro e w1 ⟨rfl, rfl⟩)
  all_goals go_ret
  all_goals exact ⟨rfl, rfl⟩
theorem kind_calls (h : HpAt w hb A H S) (r : Int) : Calls Try.prog 37 #[.pointer (some ⟨hb, 0, none⟩), .int .i64 r] w fun e w' => e = .returned (.int .i64 (kindH H r)) ∧ w = w' := by
  cases ho : Mp.get H.objs r with
  | none =>
    have HE : Hid (kindH H r = 0) := Lib.hid (by simp [kindH, ho])
    have HF := Lib.hid (find_none h ho)
    clear h ho
    go_enter Try.func37, Try.ntmps37
    go_wp2_with (go_at_call 57; refine HF.out.mono ?_; rintro e w1 ⟨rfl, rfl⟩)
    all_goals go_ret
    all_goals exact ⟨by rw [HE.out]; rfl, rfl⟩
  | some o =>
    have HE : Hid (kindH H r = o.kind) := Lib.hid (by simp [kindH, ho])
    have HF := Lib.hid (find_some h ho)
    obtain ⟨d0, d1, d2, d3, d4, d5, d6, d7, d8, d9, d10, d11, df⟩ := h.ocells ho
    clear h ho
    go_enter Try.func37, Try.ntmps37
    go_wp2_with (go_at_call 57; refine HF.out.mono ?_; rintro e w1 ⟨rfl, rfl⟩)
    all_goals go_ret
    all_goals exact ⟨by rw [HE.out]; rfl, rfl⟩
theorem holds_nil (r : Int) (w : World) : Calls Try.prog 38 #[.pointer none, .int .i64 r] w fun e w' => e = .returned (.int .i64 0) ∧ w = w' := by
  have HF := Lib.hid (find_nil r w)
  go_enter Try.func38, Try.ntmps38
  go_wp2_with (go_at_call 57; refine HF.out.mono ?_; rintro e w1 ⟨rfl, rfl⟩)
  all_goals go_ret
  all_goals exact ⟨rfl, rfl⟩
theorem holds_calls (h : HpAt w hb A H S) (r : Int) : Calls Try.prog 38 #[.pointer (some ⟨hb, 0, none⟩), .int .i64 r] w fun e w' => e = .returned (.int .i64 (holdsH H r)) ∧ w = w' := by
  cases ho : Mp.get H.objs r with
  | none =>
    have HE : Hid (holdsH H r = 0) := Lib.hid (by simp [holdsH, ho])
    have HF := Lib.hid (find_none h ho)
    clear h ho
    go_enter Try.func38, Try.ntmps38
    go_wp2_with (go_at_call 57; refine HF.out.mono ?_; rintro e w1 ⟨rfl, rfl⟩)
    all_goals go_ret
    all_goals exact ⟨by rw [HE.out]; rfl, rfl⟩
  | some o =>
    have HE : Hid (holdsH H r = o.holds) := Lib.hid (by simp [holdsH, ho])
    have HF := Lib.hid (find_some h ho)
    obtain ⟨d0, d1, d2, d3, d4, d5, d6, d7, d8, d9, d10, d11, df⟩ := h.ocells ho
    clear h ho
    go_enter Try.func38, Try.ntmps38
    go_wp2_with (go_at_call 57; refine HF.out.mono ?_; rintro e w1 ⟨rfl, rfl⟩)
    all_goals go_ret
    all_goals exact ⟨by rw [HE.out]; rfl, rfl⟩
theorem Count_nil (r : Int) (w : World) : Calls Try.prog 39 #[.pointer none, .int .i64 r] w fun e w' => e = .returned (.int .i64 0) ∧ w = w' := by
  have HF := Lib.hid (find_nil r w)
  go_enter Try.func39, Try.ntmps39
  go_wp2_with (go_at_call 57; refine HF.out.mono ?_; rintro e w1 ⟨rfl, rfl⟩)
  all_goals go_ret
  all_goals exact ⟨rfl, rfl⟩
/-- Count's result; the world may have drawn. -/
theorem Count_calls (h : HpAt w hb A H S) (r : Int) (hbd : ∀ o, Mp.get H.objs r = some o → 0 ≤ o.holds ∧ o.holds ≤ 1000000000 ∧ 0 ≤ o.rc ∧ o.rc ≤ 1000000000) : Calls Try.prog 39 #[.pointer (some ⟨hb, 0, none⟩), .int .i64 r] w fun e w' => e = .returned (.int .i64 (countH H r)) ∧ Below w.heap.size w w' := by
  cases ho : Mp.get H.objs r with
  | none =>
    have HE : Hid (countH H r = 0) := Lib.hid (by simp [countH, ho])
    have HF := Lib.hid (find_none h ho)
    clear h ho hbd
    go_enter Try.func39, Try.ntmps39
    go_wp2_with (go_at_call 57; refine HF.out.mono ?_; rintro e w1 ⟨rfl, rfl⟩)
    all_goals go_ret
    all_goals exact ⟨by rw [HE.out]; rfl, Below.refl _ _⟩
  | some o =>
    have HE : Hid (countH H r = o.holds + o.rc) := Lib.hid (by simp [countH, ho])
    have HF := Lib.hid (find_some h ho)
    obtain ⟨b1, b2, b3, b4⟩ := hbd o ho
    have HC := Lib.hid (count_calls h ho b1 b2 (by omega) b4)
    clear h ho hbd b1 b2 b3 b4
    go_enter Try.func39, Try.ntmps39
    go_wp2_with (first
      | (go_at_call 57; refine HF.out.mono ?_; rintro e w1 ⟨rfl, rfl⟩)
      | (go_at_call 75; refine HC.out.mono ?_; rintro e w1 ⟨rfl, hb1⟩; have HB := Lib.hid hb1; clear hb1))
    all_goals go_ret
    all_goals exact ⟨by rw [HE.out]; rfl, HB.out⟩
/-- The number of the store, and the error. -/
def storeOfH (H : Hp) (r : Int) : Int × Int := match Mp.get H.objs r with | none => (0, 4) | some o => if o.kind ≠ 2 then (0, 13) else (o.row, 0)
theorem store_nil (r : Int) (w : World) : Calls Try.prog 46 #[.pointer none, .int .i64 r] w fun e w' => e = .returned (.tuple #[.int .i64 0, .int .i64 4]) ∧ w = w' := by
  have HF := Lib.hid (find_nil r w)
  go_enter Try.func46, Try.ntmps46
  go_wp2_with (go_at_call 57; refine HF.out.mono ?_; rintro e w1 ⟨rfl, rfl⟩)
  all_goals go_ret2
  all_goals exact ⟨rfl, rfl⟩
theorem store_calls (h : HpAt w hb A H S) (r : Int) (hrow : ∀ o, Mp.get H.objs r = some o → o.kind = 2 → ∃ x, Mp.get H.rows o.row = some x ∧ x.isA = true) : Calls Try.prog 46 #[.pointer (some ⟨hb, 0, none⟩), .int .i64 r] w fun e w' => e = .returned (.tuple #[.int .i64 (storeOfH H r).1, .int .i64 (storeOfH H r).2]) ∧ w = w' := by
  cases ho : Mp.get H.objs r with
  | none =>
    have HE : Hid (storeOfH H r = (0, 4)) := Lib.hid (by simp [storeOfH, ho])
    have HF := Lib.hid (find_none h ho)
    clear h ho hrow
    go_enter Try.func46, Try.ntmps46
    go_wp2_with (go_at_call 57; refine HF.out.mono ?_; rintro e w1 ⟨rfl, rfl⟩)
    all_goals go_ret2
    all_goals exact ⟨by rw [HE.out]; rfl, rfl⟩
  | some o =>
    have HF := Lib.hid (find_some h ho)
    obtain ⟨d0, d1, d2, d3, d4, d5, d6, d7, d8, d9, d10, d11, df⟩ := h.ocells ho
    by_cases hk : o.kind = 2
    · have HE : Hid (storeOfH H r = (o.row, 0)) := Lib.hid (by simp [storeOfH, ho, hk])
      obtain ⟨x, hx, hi⟩ := hrow o ho hk
      have e1 := cell_of_heap (v := .int .i64 o.row) (h.sto _ _ hx hi) (j := 0) rfl
      rw [hk] at d0
      have d7' : w.cell? ⟨A.ob r, 7, none⟩ = some (.pointer (some ⟨A.st o.row, 0, none⟩)) := by rw [d7]; unfold HA.pF; rw [if_pos hk]
      clear h ho hrow d7 hk d1 d2 d3 d4 d5 d6 d8 d9 d10 d11 hx hi
      go_enter Try.func46, Try.ntmps46
      go_wp2_with (go_at_call 57; refine HF.out.mono ?_; rintro e w1 ⟨rfl, rfl⟩)
      all_goals go_ret2
      all_goals exact ⟨by rw [HE.out]; rfl, rfl⟩
    · have HE : Hid (storeOfH H r = (0, 13)) := Lib.hid (by simp [storeOfH, ho, hk])
      have hk2 : (o.kind != 2) = !false := by simpa using hk
      clear h ho hrow d7 hk d1 d2 d3 d4 d5 d6 d8 d9 d10 d11
      go_enter Try.func46, Try.ntmps46
      go_wp2_with (go_at_call 57; refine HF.out.mono ?_; rintro e w1 ⟨rfl, rfl⟩)
      all_goals go_ret2
      all_goals exact ⟨by rw [HE.out]; rfl, rfl⟩
end Go.Proofs.Ytodfpclekihbhaa

/- slices.Clone of booleans, words and references. -/
namespace Go.Proofs.Ytodfpclekihbhaa
open Go.RowKit Go.Shelf

theorem own_slice {w : World} {b n size : Nat} {e : TypeId} {v : Value} {xs : List Value} (h : w.ownsRow b e size v n xs) : ∃ A C, v = .slice A n C := by
  rcases h.2 with ⟨h1, h2⟩ | ⟨g, cap, cur, h1, _⟩
  · exact ⟨none, 0, by rw [h1, h2]⟩
  · exact ⟨_, _, h1⟩
theorem lt_of_cell {w : World} {a : Addr} {v : Value} (h : w.cell? a = some v) : a.block < w.heap.size := by
  unfold World.cell? at h
  rcases Nat.lt_or_ge a.block w.heap.size with h1 | h1
  · exact h1
  · rw [Array.getElem?_eq_none h1] at h
    cases h
theorem Try.infoBool : (Try.prog.info? 4).map (fun i => (i.zero, i.size, i.bytes)) = some (some (.bool false), 1, 1) := by kernel_rfl
set_option maxHeartbeats 1000000 in
theorem cloneBool (ad : Option Addr) (n C : Nat) (vs : List Value) (w : World) (hv : vs.length = n * 1) (hcell : ∀ a, ad = some a → ∀ j u, vs[j]? = some u → w.cell? (a.add j) = some u) (h1 : ∀ u ∈ vs, u.oneCell' = true) (hnil : ad = none → n = 0 ∧ C = 0) (hn : n ≤ 100000000) :
    Calls Try.prog 86 #[.slice ad n C] w fun e w' => ∃ A' C', e = .returned (.slice A' n C') ∧ w'.ownsRow w.heap.size 4 1 (.slice A' n C') n vs ∧ Below w.heap.size w w' ∧ (ad = none → A' = none) := by
  cases ad with
  | none =>
    obtain ⟨rfl, rfl⟩ := hnil rfl
    have hvs : vs = [] := List.eq_nil_of_length_eq_zero (by omega)
    have HV := Lib.hid hvs
    clear hcell h1 hnil hvs hv
    have hneq : ∀ w : World, (binOp .eql 30 (.slice none 0 0) (.slice none 0 0)).run Try.prog w = .ok (.bool true) w := fun w => Lib.run_eql_slice_nil w 30 4 none 0 0 0 0 Try.underlying30
    go_enter Try.func86, Try.ntmps86
    go_wp2
    all_goals go_ret
    all_goals exact ⟨none, 0, rfl, by rw [HV.out]; exact World.ownsRow_nil _ _ _ _, Below.refl _ _, fun _ => rfl⟩
  | some a =>
    obtain ⟨i0, hi, hz0, hz1, hz2⟩ := info_parts Try.infoBool
    have HV := Lib.hid hv
    have HC := Lib.hid (hcell a rfl)
    have H1 := Lib.hid h1
    have HI := Lib.hid hi
    have HZ0 := Lib.hid hz0
    have HZ1 := Lib.hid hz1
    have HZ2 := Lib.hid hz2
    have hneq : ∀ w : World, (binOp .eql 30 (.slice (some a) n C) (.slice none 0 0)).run Try.prog w = .ok (.bool false) w := fun w => Lib.run_eql_slice_nil w 30 4 (some a) n C 0 0 Try.underlying30
    have hb0 : Below w.heap.size w (w.alloc (.cells #[] 4)) := (Below.refl _ _).alloc (Nat.le_refl _) _
    have HB := Lib.hid hb0
    have HO : Hid ((w.alloc (.cells #[] 4)).ownsRow w.heap.size 4 1 (.slice (some ⟨w.heap.size, 0, none⟩) 0 0) 0 []) := Lib.hid (World.ownsRow_made w #[] 0 (Nat.le_refl _) (by decide) rfl)
    clear hv hcell h1 hnil hi hz0 hz1 hz2 hb0
    go_enter Try.func86, Try.ntmps86
    go_wp2_with (at_builtin; refine wpList_append_own _ rfl _ _ 30 rfl w.heap.size 4 i0 (.bool false) 1 1 Try.underlying30 HI.out HZ0.out HZ1.out HZ2.out rfl (by decide) (.slice (some ⟨w.heap.size, 0, none⟩) 0 0) 0 [] rfl HO.out a n C vs rfl HV.out ?c1 H1.out ?c3 ?c4 ?c5 ?_
                 case c1 => exact fun j u hj => (HB.out.cell (lt_of_cell (HC.out j u hj))).trans (HC.out j u hj)
                 case c3 => simp only [maxLen]; omega
                 case c4 => omega
                 case c5 => simp
                 intro v1 w1 hown1 hgrow _)
    go_ret
    simp only [Nat.zero_add, List.nil_append] at hown1
    obtain ⟨A1, C1, rfl⟩ := own_slice hown1
    exact ⟨A1, C1, rfl, hown1, HB.out.grown hgrow (by simp) (fun k hk => by simp [Value.ownBlock] at hk; omega), fun h => by cases h⟩
theorem Try.infoWord : (Try.prog.info? 42).map (fun i => (i.zero, i.size, i.bytes)) = some (some (.agg #[.int .i64 0, .int .i64 0]), 2, 16) := by kernel_rfl
set_option maxHeartbeats 1000000 in
theorem cloneWord (ad : Option Addr) (n C : Nat) (vs : List Value) (w : World) (hv : vs.length = n * 2) (hcell : ∀ a, ad = some a → ∀ j u, vs[j]? = some u → w.cell? (a.add j) = some u) (h1 : ∀ u ∈ vs, u.oneCell' = true) (hnil : ad = none → n = 0 ∧ C = 0) (hn : n ≤ 100000000) :
    Calls Try.prog 60 #[.slice ad n C] w fun e w' => ∃ A' C', e = .returned (.slice A' n C') ∧ w'.ownsRow w.heap.size 42 2 (.slice A' n C') n vs ∧ Below w.heap.size w w' ∧ (ad = none → A' = none) := by
  cases ad with
  | none =>
    obtain ⟨rfl, rfl⟩ := hnil rfl
    have hvs : vs = [] := List.eq_nil_of_length_eq_zero (by omega)
    have HV := Lib.hid hvs
    clear hcell h1 hnil hvs hv
    have hneq : ∀ w : World, (binOp .eql 97 (.slice none 0 0) (.slice none 0 0)).run Try.prog w = .ok (.bool true) w := fun w => Lib.run_eql_slice_nil w 97 42 none 0 0 0 0 Try.underlying97
    go_enter Try.func60, Try.ntmps60
    go_wp2
    all_goals go_ret
    all_goals exact ⟨none, 0, rfl, by rw [HV.out]; exact World.ownsRow_nil _ _ _ _, Below.refl _ _, fun _ => rfl⟩
  | some a =>
    obtain ⟨i0, hi, hz0, hz1, hz2⟩ := info_parts Try.infoWord
    have HV := Lib.hid hv
    have HC := Lib.hid (hcell a rfl)
    have H1 := Lib.hid h1
    have HI := Lib.hid hi
    have HZ0 := Lib.hid hz0
    have HZ1 := Lib.hid hz1
    have HZ2 := Lib.hid hz2
    have hneq : ∀ w : World, (binOp .eql 97 (.slice (some a) n C) (.slice none 0 0)).run Try.prog w = .ok (.bool false) w := fun w => Lib.run_eql_slice_nil w 97 42 (some a) n C 0 0 Try.underlying97
    have hb0 : Below w.heap.size w (w.alloc (.cells #[] 42)) := (Below.refl _ _).alloc (Nat.le_refl _) _
    have HB := Lib.hid hb0
    have HO : Hid ((w.alloc (.cells #[] 42)).ownsRow w.heap.size 42 2 (.slice (some ⟨w.heap.size, 0, none⟩) 0 0) 0 []) := Lib.hid (World.ownsRow_made w #[] 0 (Nat.le_refl _) (by decide) rfl)
    clear hv hcell h1 hnil hi hz0 hz1 hz2 hb0
    go_enter Try.func60, Try.ntmps60
    go_wp2_with (at_builtin; refine wpList_append_own _ rfl _ _ 97 rfl w.heap.size 42 i0 (.agg #[.int .i64 0, .int .i64 0]) 2 16 Try.underlying97 HI.out HZ0.out HZ1.out HZ2.out rfl (by decide) (.slice (some ⟨w.heap.size, 0, none⟩) 0 0) 0 [] rfl HO.out a n C vs rfl HV.out ?c1 H1.out ?c3 ?c4 ?c5 ?_
                 case c1 => exact fun j u hj => (HB.out.cell (lt_of_cell (HC.out j u hj))).trans (HC.out j u hj)
                 case c3 => simp only [maxLen]; omega
                 case c4 => omega
                 case c5 => simp
                 intro v1 w1 hown1 hgrow _)
    go_ret
    simp only [Nat.zero_add, List.nil_append] at hown1
    obtain ⟨A1, C1, rfl⟩ := own_slice hown1
    exact ⟨A1, C1, rfl, hown1, HB.out.grown hgrow (by simp) (fun k hk => by simp [Value.ownBlock] at hk; omega), fun h => by cases h⟩
set_option maxHeartbeats 1000000 in
theorem cloneRef (ad : Option Addr) (n C : Nat) (vs : List Value) (w : World) (hv : vs.length = n * 1) (hcell : ∀ a, ad = some a → ∀ j u, vs[j]? = some u → w.cell? (a.add j) = some u) (h1 : ∀ u ∈ vs, u.oneCell' = true) (hnil : ad = none → n = 0 ∧ C = 0) (hn : n ≤ 100000000) :
    Calls Try.prog 51 #[.slice ad n C] w fun e w' => ∃ A' C', e = .returned (.slice A' n C') ∧ w'.ownsRow w.heap.size 26 1 (.slice A' n C') n vs ∧ Below w.heap.size w w' ∧ (ad = none → A' = none) := by
  cases ad with
  | none =>
    obtain ⟨rfl, rfl⟩ := hnil rfl
    have hvs : vs = [] := List.eq_nil_of_length_eq_zero (by omega)
    have HV := Lib.hid hvs
    clear hcell h1 hnil hvs hv
    have hneq : ∀ w : World, (binOp .eql 35 (.slice none 0 0) (.slice none 0 0)).run Try.prog w = .ok (.bool true) w := fun w => Lib.run_eql_slice_nil w 35 26 none 0 0 0 0 Try.underlying35
    go_enter Try.func51, Try.ntmps51
    go_wp2
    all_goals go_ret
    all_goals exact ⟨none, 0, rfl, by rw [HV.out]; exact World.ownsRow_nil _ _ _ _, Below.refl _ _, fun _ => rfl⟩
  | some a =>
    obtain ⟨i0, hi, hz0, hz1, hz2⟩ := info_parts Try.infoRef
    have HV := Lib.hid hv
    have HC := Lib.hid (hcell a rfl)
    have H1 := Lib.hid h1
    have HI := Lib.hid hi
    have HZ0 := Lib.hid hz0
    have HZ1 := Lib.hid hz1
    have HZ2 := Lib.hid hz2
    have hneq : ∀ w : World, (binOp .eql 35 (.slice (some a) n C) (.slice none 0 0)).run Try.prog w = .ok (.bool false) w := fun w => Lib.run_eql_slice_nil w 35 26 (some a) n C 0 0 Try.underlying35
    have hb0 : Below w.heap.size w (w.alloc (.cells #[] 26)) := (Below.refl _ _).alloc (Nat.le_refl _) _
    have HB := Lib.hid hb0
    have HO : Hid ((w.alloc (.cells #[] 26)).ownsRow w.heap.size 26 1 (.slice (some ⟨w.heap.size, 0, none⟩) 0 0) 0 []) := Lib.hid (World.ownsRow_made w #[] 0 (Nat.le_refl _) (by decide) rfl)
    clear hv hcell h1 hnil hi hz0 hz1 hz2 hb0
    go_enter Try.func51, Try.ntmps51
    go_wp2_with (at_builtin; refine wpList_append_own _ rfl _ _ 35 rfl w.heap.size 26 i0 (.int .i64 0) 1 8 Try.underlying35 HI.out HZ0.out HZ1.out HZ2.out rfl (by decide) (.slice (some ⟨w.heap.size, 0, none⟩) 0 0) 0 [] rfl HO.out a n C vs rfl HV.out ?c1 H1.out ?c3 ?c4 ?c5 ?_
                 case c1 => exact fun j u hj => (HB.out.cell (lt_of_cell (HC.out j u hj))).trans (HC.out j u hj)
                 case c3 => simp only [maxLen]; omega
                 case c4 => omega
                 case c5 => simp
                 intro v1 w1 hown1 hgrow _)
    go_ret
    simp only [Nat.zero_add, List.nil_append] at hown1
    obtain ⟨A1, C1, rfl⟩ := own_slice hown1
    exact ⟨A1, C1, rfl, hown1, HB.out.grown hgrow (by simp) (fun k hk => by simp [Value.ownBlock] at hk; omega), fun h => by cases h⟩
end Go.Proofs.Ytodfpclekihbhaa

/- copied: a shape in its own memory. -/
namespace Go.Proofs.Ytodfpclekihbhaa
open Go.RowKit Go.Shelf

/-- A slice of booleans that can be read. -/
structure RdB (w : World) (ad : Option Addr) (C : Nat) (refs : List Bool) : Prop where
  cell : ∀ a, ad = some a → ∀ j u, (refs.map Value.bool)[j]? = some u → w.cell? (a.add j) = some u
  nil : ad = none → refs = [] ∧ C = 0
theorem RdB.below {w w' : World} {ad : Option Addr} {C : Nat} {refs : List Bool} (h : RdB w ad C refs) (hb : Below w.heap.size w w') : RdB w' ad C refs :=
  ⟨fun a ha j u hj => (hb.cell (lt_of_cell (h.cell a ha j u hj))).trans (h.cell a ha j u hj), h.nil⟩
theorem clone_bools {w : World} {ad : Option Addr} {C : Nat} {refs : List Bool} (h : RdB w ad C refs) (hn : refs.length ≤ 100000000) :
    Calls Try.prog 86 #[.slice ad refs.length C] w fun e w' => ∃ A' C', e = .returned (.slice A' refs.length C') ∧ w'.ownsRow w.heap.size 4 1 (.slice A' refs.length C') refs.length (refs.map Value.bool) ∧ Below w.heap.size w w' :=
  (cloneBool ad refs.length C (refs.map Value.bool) w (by simp) h.cell (by intro u hu; obtain ⟨b, _, rfl⟩ := List.mem_map.1 hu; rfl) (fun e => by obtain ⟨h1, h2⟩ := h.nil e; rw [h1]; exact ⟨rfl, h2⟩) hn).mono fun _ _ ⟨A', C', h1, h2, h3, _⟩ => ⟨A', C', h1, h2, h3⟩
theorem bcell {W w1 : World} (hb : Below W.heap.size W w1) : (∀ b o, b < W.heap.size → w1.cell? ⟨b, o, none⟩ = W.cell? ⟨b, o, none⟩) ∧ (∀ b o, b < W.heap.size → w1.frozen? ⟨b, o, none⟩ = W.frozen? ⟨b, o, none⟩) :=
  ⟨fun b o h => hb.cell (p := ⟨b, o, none⟩) h, fun b o h => hb.frozen (p := ⟨b, o, none⟩) h⟩
theorem keep3 {W w1 : World} {b o : Nat} {v : Value} (hb : Below W.heap.size W w1) (h : W.cell? ⟨b, o, none⟩ = some v) : w1.cell? ⟨b, o, none⟩ = some v :=
  (hb.cell (p := ⟨b, o, none⟩) (World.block_lt_of_cell? W ⟨b, o, none⟩ h)).trans h
theorem keepf {W w1 : World} {b o : Nat} {v : Value} (hb : Below W.heap.size W w1) (h : W.cell? ⟨b, o, none⟩ = some v) (hf : W.frozen? ⟨b, o, none⟩ = false) : w1.frozen? ⟨b, o, none⟩ = false :=
  (hb.frozen (p := ⟨b, o, none⟩) (World.block_lt_of_cell? W ⟨b, o, none⟩ h)).trans hf
theorem heap2 (w : World) (o1 o2 : Obj) : ((w.alloc o1).alloc o2).heap[w.heap.size]? = some o1 ∧ ((w.alloc o1).alloc o2).heap[w.heap.size + 1]? = some o2 :=
  ⟨(Below.heap_alloc _ _ _ (by simp)).trans (heap_alloc_new w _), by have := heap_alloc_new (w.alloc o1) o2; rwa [World.size_alloc] at this⟩
theorem copied_end {w W w1 : World} {A1 : Option Addr} {n C1 : Nat} {vs : List Value} (hb0 : Below w.heap.size w W) (hlt : w.heap.size + 1 < W.heap.size) (hb1 : Below W.heap.size W w1) (ho : w1.ownsRow W.heap.size 4 1 (.slice A1 n C1) n vs) (v0 v1 : Value) :
    ((w1.setCell ⟨w.heap.size + 1, 0, none⟩ v0).setCell ⟨w.heap.size + 1, 1, none⟩ v1).ownsRow w.heap.size 4 1 (.slice A1 n C1) n vs ∧ Below w.heap.size w ((w1.setCell ⟨w.heap.size + 1, 0, none⟩ v0).setCell ⟨w.heap.size + 1, 1, none⟩ v1) := by
  have hm : Mut (· = w.heap.size + 1) w1 ((w1.setCell ⟨w.heap.size + 1, 0, none⟩ v0).setCell ⟨w.heap.size + 1, 1, none⟩ v1) := (Mut.setCell (S := (· = w.heap.size + 1)) _ _ _ _ rfl).then (Mut.setCell (S := (· = w.heap.size + 1)) _ _ _ _ rfl)
  have hlow : ∀ a, A1 = some a → W.heap.size ≤ a.block := fun a ha => (own_blk ho a ha).1
  refine ⟨own_rebase (own_mut2 ho hm fun a ha e => ?_) fun a ha => ?_, (hb0.trans (hb1.mono (by omega))).trans (hm.to_below (by have := hb1.size; omega) fun k hk => by omega)⟩
  · have := hlow a ha; omega
  · have := hlow a ha; omega
set_option maxHeartbeats 1000000 in
theorem copied_calls (cls : Int) {w : World} {ad : Option Addr} {C : Nat} {refs : List Bool} (h : RdB w ad C refs) (hn : refs.length ≤ 100000000) :
    Calls Try.prog 56 #[.agg #[.int .i64 cls, .slice ad refs.length C]] w fun e w' => ∃ A' C', e = .returned (.agg #[.int .i64 cls, .slice A' refs.length C']) ∧ w'.ownsRow w.heap.size 4 1 (.slice A' refs.length C') refs.length (refs.map Value.bool) ∧ Below w.heap.size w w' := by
  have H := Lib.hid h
  have HN := Lib.hid hn
  clear h hn
  go_enter Try.func56, Try.ntmps56
  go_wp2
  have HB : Hid (Below w.heap.size w ((w.alloc (.cells #[.int .i64 cls, .slice ad refs.length C] 32)).alloc (.cells #[.int .i64 0, .slice none 0 0] 32))) := Lib.hid (((Below.refl _ _).alloc (Nat.le_refl _) _).alloc (by simp) _)
  generalize hW : (w.alloc (.cells #[.int .i64 cls, .slice ad refs.length C] 32)).alloc (.cells #[.int .i64 0, .slice none 0 0] 32) = W
  obtain ⟨k0, k1⟩ : W.heap[w.heap.size]? = _ ∧ W.heap[w.heap.size + 1]? = _ := by rw [← hW]; exact heap2 w _ _
  have c0 := cell_of_heap (v := .int .i64 cls) k0 (j := 0) rfl
  have c1 := cell_of_heap (v := .slice ad refs.length C) k0 (j := 1) rfl
  have c2 := cell_of_heap (v := .int .i64 0) k1 (j := 0) rfl
  have c3 := cell_of_heap (v := .slice none 0 0) k1 (j := 1) rfl
  have hf0 := frozen_of_heap k1 0
  have hf1 := frozen_of_heap k1 1
  have hsz : w.heap.size + 1 < W.heap.size := lt_of_heap k1
  rw [hW] at HB
  clear k0 k1 hW
  go_region_with ((go_at_call 86; refine (clone_bools (H.out.below (by first | exact HB.out | exact HB.out.drew | exact HB.out.dn _)) HN.out).mono ?_; rintro e w1 ⟨A1, C1, rfl, ho, hb⟩; have HO := Lib.hid ho; clear ho; have e2 := keep3 hb c2; have e3 := keep3 hb c3; have f2 := keepf hb c2 hf0; have f3 := keepf hb c3 hf1; have g0 := keep3 hb c0; have g1 := keep3 hb c1; have HB1 := Lib.hid hb; clear hb))
  all_goals go_wp2
  all_goals
    obtain ⟨q1, q2⟩ := copied_end (by first | exact HB.out | exact HB.out.drew | exact HB.out.dn _) (by simpa using hsz) HB1.out HO.out (.int .i64 cls) (.slice A1 refs.length C1)
    exact bodyPost_ret (v := .agg #[.int .i64 cls, .slice A1 refs.length C1]) (by simp [results, Try.results56, go_sem, e2, e3]) rfl ⟨A1, C1, rfl, q1, q2⟩
end Go.Proofs.Ytodfpclekihbhaa

/- New; add: an object gets the next number. -/
namespace Go.Proofs.Ytodfpclekihbhaa
open Go.RowKit Go.Shelf

variable {w : World} {hb : Nat} {A : HA} {H : Hp} {S : Nat → Prop}
/-- A slice of booleans in memory of its own, for a heap's object. -/
structure ShpAt (w : World) (sa : Option Addr) (refs : List Bool) : Prop where
  rd : BoolsAt w sa refs
  blk : refs ≠ [] → ∀ a, sa = some a → ∃ cs fr, w.heap[a.block]? = some (.cells cs 4 fr)
def shpB (sa : Option Addr) (refs : List Bool) : Nat → Prop := fun k => refs ≠ [] ∧ ∃ a, sa = some a ∧ a.block = k
theorem ShpAt.mut {T : Nat → Prop} {w w' : World} {sa : Option Addr} {refs : List Bool} (h : ShpAt w sa refs) (hm : Mut T w w') (hT : ∀ k, T k → ¬ shpB sa refs k) : ShpAt w' sa refs :=
  ⟨h.rd.mut hm fun he a ha hk => hT _ hk ⟨he, a, ha, rfl⟩, fun he a ha => by
    obtain ⟨cs, fr, hc⟩ := h.blk he a ha
    exact ⟨cs, fr, (hm.block _ (lt_of_heap hc) fun hk => hT _ hk ⟨he, a, ha, rfl⟩).trans hc⟩⟩
theorem ShpAt.of_own {w : World} {B n C : Nat} {A' : Option Addr} {refs : List Bool} (h : w.ownsRow B 4 1 (.slice A' n C) n (refs.map Value.bool)) : ShpAt w A' refs := by
  rcases h.2 with ⟨h1, h2⟩ | ⟨g, cap, cur, h1, h2, h3, h4, h5, h6, h7⟩
  · have : refs = [] := by
      have h3 := h.1
      rw [h2] at h3
      exact List.eq_nil_of_length_eq_zero (by simpa using h3)
    subst this
    exact ⟨fun j hj => absurd hj (Nat.not_lt_zero _), fun he => absurd rfl he⟩
  · injection h1 with e1
    subst e1
    refine ⟨fun j hj => ⟨g, 0, rfl, lt_of_heap h3, cell_of_heap h3 ?_⟩, fun _ a ha => by injection ha with ha; subst ha; exact ⟨cur, (0, 0), h3⟩⟩
    have hl := h.1
    have : (cur.toList.take (n * 1))[j]? = some (Value.bool (refs[j]'hj)) := by rw [h7]; simp [hj]
    rw [List.getElem?_take_of_lt (by simp at hl; omega)] at this
    simpa using this
def HA.addO (A : HA) (r : Int) (nb : Nat) (sa : Option Addr) (sc : Nat) : HA := { A with ob := fun x => if x = r then nb else A.ob x, sA := fun x => if x = r then sa else A.sA x, sC := fun x => if x = r then sc else A.sC x }
/-- An object is put into the map. -/
theorem HpAt.addOb {w' : World} (h : HpAt w hb A H S) {r : Int} (hr : Mp.get H.objs r = none) (o : Ob) (nb : Nat) (sa : Option Addr) (sc : Nat) (hnb : ¬ S nb) {x : Rw} (hx : Mp.get H.rows o.row = some x)
    (hB : w.heap[nb]? = some (.cells (obC (A.addO r nb sa sc) r o x.words.length) 104 (0, 0))) (hs : ShpAt w sa o.refs)
    (hm : Mut (· = A.mb) w w') (hL : Mp.MapIs w' A.mb kV ptrV (Mp.put (obAdr A H.objs) r nb)) :
    HpAt w' hb (A.addO r nb sa sc) { H with objs := Mp.put H.objs r o } (fun k => S k ∨ k = nb ∨ shpB sa o.refs k) := by
  obtain ⟨es, clk, hM, _⟩ := h.omap
  have hne : ∀ x y, Mp.get H.objs x = some y → x ≠ r := fun x y hy e => by rw [e, hr] at hy; cases hy
  have hg : ∀ x y, Mp.get (Mp.put H.objs r o) x = some y → (x = r ∧ y = o) ∨ (x ≠ r ∧ Mp.get H.objs x = some y) := fun x y hy => by
    rw [Mp.get_put] at hy
    by_cases e : x = r
    · rw [if_pos e] at hy; injection hy with hy; exact .inl ⟨e, hy.symm⟩
    · rw [if_neg e] at hy; exact .inr ⟨e, hy⟩
  have e0 : (A.addO r nb sa sc).ob r = nb := if_pos rfl
  have e1 : ∀ x, x ≠ r → (A.addO r nb sa sc).ob x = A.ob x := fun x hx => if_neg hx
  have e2 : (A.addO r nb sa sc).sA r = sa := if_pos rfl
  have e3 : ∀ x, x ≠ r → (A.addO r nb sa sc).sA x = A.sA x := fun x hx => if_neg hx
  have e4 : ∀ x, x ≠ r → (A.addO r nb sa sc).sC x = A.sC x := fun x hx => if_neg hx
  have eC : ∀ x y n, x ≠ r → obC (A.addO r nb sa sc) x y n = obC A x y n := fun x y n hx => by
    unfold obC
    rw [e3 x hx, e4 x hx]
    rfl
  have hput : obAdr (A.addO r nb sa sc) (Mp.put H.objs r o) = Mp.put (obAdr A H.objs) r nb := by
    have hr2 : Mp.get (obAdr A H.objs) r = none := by rw [get_obAdr, hr]; rfl
    rw [put_fresh hr, put_fresh hr2]
    unfold obAdr
    rw [List.map_append]
    congr 1
    · apply List.map_congr_left
      intro p hp
      have : p.1 ≠ r := fun e => (Mp.get_none_iff H.objs r).1 hr p hp e
      rw [e1 _ this]
    · simp [e0]
  have hrow : ∀ k, ({ H with objs := Mp.put H.objs r o } : Hp).rowOf k = H.rowOf k := fun _ => rfl
  have ho1 : ∀ x y, Mp.get H.objs x = some y → A.ob x ≠ nb := fun x y hy e => hnb (e ▸ h.So x y hy)
  refine { blk := ?_, omap := by rw [hput]; exact hL, smap := ?_, snil := h.snil, obj := ?_, row := ?_, sto := ?_, shp := ?_, oinj := ?_, winj := h.winj, sinj := h.sinj, mne := h.mne, Sh := .inl h.Sh, Sm := .inl h.Sm, Ss := fun b e => .inl (h.Ss b e), So := ?_, Sw := fun k x a hx ha => .inl (h.Sw k x a hx ha), St := fun k x hx hi => .inl (h.St k x hx hi), Sp := ?_, Slt := ?_ }
  · exact (hm.block _ (lt_of_heap h.blk) (not_map_of_cells h.blk hM)).trans h.blk
  · exact fun b e => (h.smap b e).of_block (hm.block _ (h.smap b e).lt (fun e2 => h.mne (by rw [← e2]; exact e)))
  · intro x y hy
    rw [hrow]
    rcases hg x y hy with ⟨rfl, rfl⟩ | ⟨hx1, hy1⟩
    · rw [e0, h.row_of hx rfl]
      exact (hm.block _ (lt_of_heap hB) (not_map_of_cells hB hM)).trans hB
    · rw [e1 x hx1, eC x y _ hx1]
      exact (hm.block _ (lt_of_heap (h.obj x y hy1)) (not_map_of_cells (h.obj x y hy1) hM)).trans (h.obj x y hy1)
  · exact fun k x hx => own_mut2 (h.row k x hx) hm fun a ha e => by
      obtain ⟨cs, hcs, _⟩ := row_blk (h.row k x hx) a ha
      exact not_map_of_cells hcs hM e
  · exact fun k x hx hi => (hm.block _ (lt_of_heap (h.sto k x hx hi)) (not_map_of_cells (h.sto k x hx hi) hM)).trans (h.sto k x hx hi)
  · intro x y hy
    rcases hg x y hy with ⟨rfl, rfl⟩ | ⟨hx1, hy1⟩
    · rw [e2]
      exact hs.rd.mut hm fun he a ha e => by
        obtain ⟨cs, fr, hc⟩ := hs.blk he a ha
        exact not_map_of_cells hc hM e
    · rw [e3 x hx1]
      exact (h.shp x y hy1).mut hm fun he a ha e => by
        obtain ⟨_, cs, fr, hc⟩ := h.Sp x y a hy1 he ha
        exact not_map_of_cells hc hM e
  · intro x x' y y' hy hy' e
    rcases hg x y hy with ⟨rfl, rfl⟩ | ⟨hx1, hy1⟩
    · rcases hg x' y' hy' with ⟨rfl, rfl⟩ | ⟨hx2, hy2⟩
      · rfl
      · rw [e0, e1 x' hx2] at e
        exact absurd e.symm (ho1 x' y' hy2)
    · rcases hg x' y' hy' with ⟨rfl, rfl⟩ | ⟨hx2, hy2⟩
      · rw [e0, e1 x hx1] at e
        exact absurd e (ho1 x y hy1)
      · rw [e1 x hx1, e1 x' hx2] at e
        exact h.oinj _ _ _ _ hy1 hy2 e
  · intro x y hy
    rcases hg x y hy with ⟨rfl, rfl⟩ | ⟨hx1, hy1⟩
    · rw [e0]; exact .inr (.inl rfl)
    · rw [e1 x hx1]; exact .inl (h.So x y hy1)
  · intro x y a hy he ha
    rcases hg x y hy with ⟨rfl, rfl⟩ | ⟨hx1, hy1⟩
    · rw [e2] at ha
      obtain ⟨cs, fr, hc⟩ := hs.blk he a ha
      exact ⟨.inr (.inr ⟨he, a, ha, rfl⟩), cs, fr, (hm.block _ (lt_of_heap hc) (not_map_of_cells hc hM)).trans hc⟩
    · rw [e3 x hx1] at ha
      obtain ⟨g1, cs, fr, hc⟩ := h.Sp x y a hy1 he ha
      exact ⟨.inl g1, cs, fr, (hm.block _ (lt_of_heap hc) (not_map_of_cells hc hM)).trans hc⟩
  · intro k hk
    refine Nat.lt_of_lt_of_le ?_ hm.size
    rcases hk with hk | rfl | ⟨he, a, ha, rfl⟩
    · exact h.Slt k hk
    · exact lt_of_heap hB
    · obtain ⟨cs, fr, hc⟩ := hs.blk he a ha
      exact lt_of_heap hc
theorem updO_run {w : World} {b : Nat} {L : List (Int × Nat)} (hmap : Mp.MapIs w b kV ptrV L) (k : Int) (q : Nat) : ∃ w', (Instr.mapUpdate 93 (.map (some b)) (.int .i64 k) (.pointer (some ⟨q, 0, none⟩))).run Try.prog w = .ok () w' ∧ Mp.MapIs w' b kV ptrV (Mp.put L k q) ∧ Mut (· = b) w w' := by
  obtain ⟨o, h1, h2⟩ := hmap.update (P := Try.prog) Try.underlying93 Try.underlying26 kV_key kV_inj k q
  exact ⟨_, h1, h2, Mut.setB w b o rfl⟩
/-- The cells of an object that is not held yet. -/
def obC0 (A : HA) (r : Int) (o : Ob) (n : Nat) : Array Value := obC A r { o with holds := 0 } n
set_option maxRecDepth 100000 in
set_option maxHeartbeats 2000000 in
theorem add_calls (h : HpAt w hb A H S) (hr : Mp.get H.objs ((H.last : Int) + 1) = none) (o : Ob) (nb : Nat) (sa : Option Addr) (sc : Nat) (hnb : ¬ S nb) {x : Rw} (hx : Mp.get H.rows o.row = some x) (hn : H.last ≤ 1000000)
    (hB : w.heap[nb]? = some (.cells (obC0 (A.addO ((H.last : Int) + 1) nb sa sc) ((H.last : Int) + 1) o x.words.length) 104 (0, 0))) (hs : ShpAt w sa o.refs) :
    Calls Try.prog 55 #[.pointer (some ⟨hb, 0, none⟩), .pointer (some ⟨nb, 0, none⟩)] w fun e w' => e = .returned (.int .i64 ((H.last : Int) + 1)) ∧ HpAt w' hb (A.addO ((H.last : Int) + 1) nb sa sc) (addH H o) (fun k => S k ∨ k = nb ∨ shpB sa o.refs k) ∧ Mut (fun k => S k ∨ k = nb) w w' := by
  have HH := Lib.hid h
  have HX := Lib.hid hx
  have HR := Lib.hid hr
  have HB := Lib.hid hB
  have HS := Lib.hid hs
  have HNB := Lib.hid hnb
  obtain ⟨c0, c1, c2, c3, hf⟩ := h.cells
  have d1 := cell_of_heap (v := .int .i64 0) hB (j := 10) rfl
  have d2 := frozen_of_heap hB 10
  have hne1 : hb ≠ nb := fun e => hnb (e ▸ h.Sh)
  have hne2 : nb ≠ hb := fun e => hnb (e ▸ h.Sh)
  have hlt := lt_of_heap hB
  have hlt2 := lt_of_heap h.blk
  clear h hr hnb hx hB hs
  generalize hla : (H.last : Int) = la at *
  have hla1 : 0 ≤ la := by omega
  have hla2 : la ≤ 1000000 := by omega
  have HLA := Lib.hid hla
  clear hla hn
  go_enter Try.func55, Try.ntmps55
  go_wp2
  obtain ⟨W2, hW2⟩ : ∃ W2, W2 = (w.setCell ⟨hb, 1, none⟩ (.int .i64 (la + 1))).setCell ⟨nb, 10, none⟩ (.int .i64 1) := ⟨_, rfl⟩
  rw [← hW2]
  have hs1 := HH.out.setHp 1 (.int .i64 (la + 1)) (H.last + 1) H.watched (by have := HLA.out; simp [hpC, ← this]) (fun e => (HH.out.snil e).1)
  have hm1 : Mut (· = hb) w (w.setCell ⟨hb, 1, none⟩ (.int .i64 (la + 1))) := Mut.setCell _ _ _ _ rfl
  have hm2 : Mut (· = nb) (w.setCell ⟨hb, 1, none⟩ (.int .i64 (la + 1))) W2 := by rw [hW2]; exact Mut.setCell _ _ _ _ rfl
  have hB1 := (hm1.block nb (lt_of_heap HB.out) hne2).trans HB.out
  have hB2 : W2.heap[nb]? = some (.cells (obC (A.addO (la + 1) nb sa sc) (la + 1) { o with holds := 1 } x.words.length) 104 (0, 0)) := by
    rw [hW2, heap_setCell_same _ nb 10 _ _ _ hB1]; rfl
  have hp2 := hs1.mut hm2 fun k hk e => HNB.out (e ▸ hk)
  have hs2 : ShpAt W2 sa o.refs := (HS.out.mut hm1 (fun k hk hk2 => by
      obtain ⟨he, a, ha, e⟩ := hk2
      obtain ⟨cs, fr, hc⟩ := HS.out.blk he a ha
      exact ne_ty hc HH.out.blk (by decide) (e.trans hk))).mut hm2 fun k hk hk2 => by
      obtain ⟨he, a, ha, e⟩ := hk2
      obtain ⟨cs, fr, hc⟩ := HS.out.blk he a ha
      exact ne_ty hc HB.out (by decide) (e.trans hk)
  have hdr : Below W2.heap.size W2 W2.drew := (Below.refl _ _).drew
  have hp3 := hp2.below hdr
  obtain ⟨w3, hrun, hm3, hmut3⟩ := updO_run hp3.omap (la + 1) nb
  have hp4 := hp3.addOb (r := la + 1) HR.out { o with holds := 1 } nb sa sc HNB.out HX.out ((hdr.block _ (lt_of_heap hB2)).trans hB2) (hs2.mut (Mut.of_below (S := fun _ => False) hdr) (fun _ h => h.elim)) hmut3 hm3
  have HP4 := Lib.hid hp4
  have hmt : Mut (fun k => S k ∨ k = nb) w w3 := ((((hm1.mono (S' := fun k => S k ∨ k = nb) fun i hi => .inl (.inl (hi ▸ HH.out.Sh))).trans hm2 fun i hi => .inl (.inr hi)).then (Mut.of_below hdr)).trans hmut3 fun i hi => .inl (.inl (hi ▸ HH.out.Sm)))
  have HMT := Lib.hid hmt
  obtain ⟨e0, e1, e2, e3, ef⟩ := hp2.cells
  obtain ⟨g0, g1, g2, g3, gf⟩ := hp4.cells
  rw [show (({ ({ H with last := H.last + 1, watched := H.watched } : Hp) with objs := Mp.put H.objs (la + 1) { o with holds := 1 } } : Hp).last : Int) = la + 1 from by have := HLA.out; show ((H.last + 1 : Nat) : Int) = _; omega] at g1
  rw [show ((({ H with last := H.last + 1, watched := H.watched } : Hp)).last : Int) = la + 1 from by have := HLA.out; show ((H.last + 1 : Nat) : Int) = _; omega] at e1
  have HSee := Lib.hid (see_calls hp4 (la + 1))
  have HE : Hid (addH H o = seeH { ({ H with last := H.last + 1, watched := H.watched } : Hp) with objs := Mp.put H.objs (la + 1) { o with holds := 1 } } (la + 1)) := Lib.hid (by unfold addH; rw [HLA.out])
  clear hW2 hs1 hm1 hm2 hB1 hB2 hp2 hs2 hp3 hm3 hmut3 hp4 hmt hdr c0 c1 c2 c3 hf d1 d2 g0 g2 g3 e2 e3
  go_region
  go_wp2_with (go_at_call 62; refine HSee.out.mono ?_; rintro e w5 ⟨rfl, h5, m5⟩
               have hc5 := h5.cells.2.1
               rw [seeH_last] at hc5
               rw [show (({ ({ H with last := H.last + 1, watched := H.watched } : Hp) with objs := Mp.put H.objs (la + 1) { o with holds := 1 } } : Hp).last : Int) = la + 1 from by have := HLA.out; show ((H.last + 1 : Nat) : Int) = _; omega] at hc5
               have hf5 := h5.cells.2.2.2.2
               have H5 := Lib.hid h5
               have M5 := Lib.hid m5
               clear h5 m5)
  go_ret
  exact ⟨rfl, by rw [HE.out]; exact H5.out, HMT.out.trans M5.out fun i hi => .inl (.inl (HH.out.Ss i hi))⟩
theorem Mp.setB_same {w : World} {b : Nat} {o : Obj} (h : b < w.heap.size) (o' : Obj) : (Mp.setB w b o').heap[b]? = some o' := by simp [Mp.setB, h]
set_option maxHeartbeats 1000000 in
theorem new_calls (w : World) : Calls Try.prog 12 #[] w fun e w' => ∃ hb A S, e = .returned (.pointer (some ⟨hb, 0, none⟩)) ∧ HpAt w' hb A emptyH S ∧ Below w.heap.size w w' ∧ ∀ k, S k → w.heap.size ≤ k := by
  have hmm := @run_makeMap Try.prog
  go_enter Try.func12, Try.ntmps12
  go_wp2
  go_ret
  obtain ⟨k0, k1⟩ := heap2 w (.map #[] 0) (.cells #[.map (some w.heap.size), .int .i64 0, .bool false, .map none] 95)
  have hm : Mp.MapIs ((w.alloc (.map #[] 0)).alloc (.cells #[.map (some w.heap.size), .int .i64 0, .bool false, .map none] 95)) w.heap.size kV ptrV [] := (Mp.MapIs.made w kV ptrV).of_block ((Below.heap_alloc _ _ _ (by simp)))
  refine ⟨w.heap.size + 1, ⟨w.heap.size, none, fun _ => 0, fun _ => none, fun _ => 0, fun _ => 0, fun _ => none, fun _ => 0⟩, fun k => k = w.heap.size ∨ k = w.heap.size + 1, rfl, ?_, ((Below.refl _ _).alloc (Nat.le_refl _) _).alloc (by simp) _, fun k hk => by omega⟩
  exact { blk := k1, omap := hm, smap := fun b e => (by cases e), snil := fun _ => ⟨rfl, rfl⟩, obj := fun r o ho => (by cases ho), row := fun k x hx => (by cases hx), sto := fun k x hx => (by cases hx), shp := fun r o ho => (by cases ho), oinj := fun r r' o o' ho => (by cases ho), winj := fun k k' x x' a b hx => (by cases hx), sinj := fun k k' x x' hx => (by cases hx), mne := fun e => (by cases e), Sh := .inr rfl, Sm := .inl rfl, Ss := fun b e => (by cases e), So := fun r o ho => (by cases ho), Sw := fun k x a hx => (by cases hx), St := fun k x hx => (by cases hx), Sp := fun r o a ho => (by cases ho), Slt := fun k hk => (by simp; omega) }
end Go.Proofs.Ytodfpclekihbhaa

