/- free: an object is removed, and its references are added to a list. -/
import Derived.Test.YtodfpclekihbhaaW3
import Derived.Test.YtodfpclekihbhaaL3
namespace Go.Proofs.Ytodfpclekihbhaa
open Go.RowKit Go.Shelf
attribute [local go_sem] Oper.semAt_some

/-- A slice of references that the call may write to: it reads as a list; its row is not the heap's. -/
structure Lst (w : World) (S : Nat → Prop) (LA : Option Addr) (LC : Nat) (l : List Int) : Prop where
  own : w.ownsRow 0 26 1 (.slice LA l.length LC) l.length (ints l)
  off : ∀ a, LA = some a → ¬ S a.block
def LB (LA : Option Addr) : Nat → Prop := fun k => ∃ a, LA = some a ∧ a.block = k
theorem ord_of {w3 W : World} {hb : Nat} {A : HA} {H : Hp} {S : Nat → Prop} (h : HpAt w3 hb A H S) {r : Int} {o : Ob} {x : Rw} (hx : Mp.get H.rows o.row = some x) (hxA : o.kind = 2 → x.isA = true)
    (hB : w3.heap[A.ob r]? = some (.cells (obC A r o x.words.length) 104 (0, 0))) {Bs : Nat} {LA : Option Addr} {LC : Nat} {l : List Int} {bv : Value} (hbox : w3.heap[Bs]? = some (.cells #[bv] 35 (0, 0))) (hown : w3.ownsRow 0 26 1 (.slice LA l.length LC) l.length (ints l))
    (hm : Mut (fun k => k = Bs ∨ ∃ a, LA = some a ∧ a.block = k) w3 W) : ORd (A.ob r) A o x.words W := by
  have ne : ∀ {b : Nat} {cs : Array Value} {t : TypeId} {fr : Nat × Nat}, w3.heap[b]? = some (.cells cs t fr) → t ≠ 35 → t ≠ 26 → ¬ (b = Bs ∨ ∃ a, LA = some a ∧ a.block = b) := fun {b cs t fr} hb h1 h2 hh => by
    rcases hh with e | ⟨a, ha, e⟩
    · exact ne_ty hb hbox h1 e
    · obtain ⟨_, ds, hds⟩ := own_head hown a ha
      exact ne_ty hds hb (fun e => h2 e.symm) e
  have hB2 : W.heap[A.ob r]? = some (.cells (obC A r o x.words.length) 104 (0, 0)) := (hm.block _ (lt_of_heap hB) (ne hB (by decide) (by decide))).trans hB
  refine ⟨cell_of_heap hB2 rfl, cell_of_heap hB2 rfl, cell_of_heap hB2 rfl, cell_of_heap hB2 rfl, fun hk => ?_, ?_⟩
  · have hs := h.sto _ _ hx (hxA hk)
    exact cell_of_heap ((hm.block _ (lt_of_heap hs) (ne hs (by decide) (by decide))).trans hs) rfl
  · exact own_mut2 (h.row _ _ hx) hm fun a ha e => by
      obtain ⟨cs, hcs, _⟩ := row_blk (h.row _ _ hx) a ha
      exact ne hcs (by decide) (by decide) e
theorem get_del_of {α : Type} {L : List (Int × α)} {r x : Int} {o : α} (h : Mp.get (Mp.del L r) x = some o) : Mp.get L x = some o ∧ x ≠ r := by
  rw [Mp.get_del] at h
  by_cases e : x = r
  · rw [if_pos e] at h; cases h
  · rw [if_neg e] at h; exact ⟨h, e⟩
/-- What lies in memory when an object has been deleted from the map. -/
structure Mid (w w2 : World) (hb : Nat) (A : HA) (H : Hp) (S : Nat → Prop) (r : Int) (o : Ob) (x : Rw) (LA : Option Addr) (LC : Nat) (l : List Int) : Prop where
  hp : HpAt w2 hb A { H with objs := Mp.del H.objs r } S
  blk : w2.heap[A.ob r]? = some (.cells (obC A r o x.words.length) 104 (0, 0))
  box : w2.heap[w.heap.size]? = some (.cells #[.slice LA l.length LC] 35 (0, 0))
  own : w2.ownsRow 0 26 1 (.slice LA l.length LC) l.length (ints l)
  chg : Mut S w w2
theorem mid_of {w w2 : World} {hb : Nat} {A : HA} {H : Hp} {S : Nat → Prop} (h : HpAt w hb A H S) {r : Int} {o : Ob} {x : Rw} (ho : Mp.get H.objs r = some o) (hx : Mp.get H.rows o.row = some x) {LA : Option Addr} {LC : Nat} {l : List Int} (hl : Lst w S LA LC l)
    (hm : Mp.MapIs w2 A.mb kV ptrV (Mp.del (obAdr A H.objs) r)) (hmut : Mut (· = A.mb) (w.alloc (.cells #[.slice LA l.length LC] 35)) w2) : Mid w w2 hb A H S r o x LA LC l := by
  have ba : Below w.heap.size w (w.alloc (.cells #[.slice LA l.length LC] 35)) := (Below.refl _ _).alloc (Nat.le_refl _) _
  have hw : HpAt (w.alloc (.cells #[.slice LA l.length LC] 35)) hb A H S := h.below ba
  have hobj := hw.obj r o ho
  rw [hw.row_of hx rfl] at hobj
  have hbx : (w.alloc (.cells #[.slice LA l.length LC] 35)).heap[w.heap.size]? = some (.cells #[.slice LA l.length LC] 35 (0, 0)) := heap_alloc_new w _
  refine ⟨hw.delOb r hmut hm, (hmut.block _ (lt_of_heap hobj) (fun e => ne_map hobj hw.omap e.symm)).trans hobj, (hmut.block _ (lt_of_heap hbx) (fun e => ne_map hbx hw.omap e.symm)).trans hbx, ?_, ?_⟩
  · exact own_mut2 (own_mut2 hl.own (Mut.of_below (S := fun _ => False) ba) (fun _ _ h => h)) hmut fun a ha e => hl.off a ha (by rw [e]; exact h.Sm)
  · exact (Mut.of_below ba).trans hmut fun i hi => .inl (by rw [hi]; exact h.Sm)
/-- What free leaves. -/
def FreePost (w : World) (hb : Nat) (A : HA) (S : Nat → Prop) (LA : Option Addr) (G : Hp) (ls : List Int) (e : Ending) (w' : World) : Prop :=
  ∃ LA' LC', e = .returned (.slice LA' ls.length LC') ∧ HpAt w' hb A G S ∧ Lst w' S LA' LC' ls ∧ (∀ a, LA' = some a → LA = some a ∨ w.heap.size ≤ a.block) ∧ Mut (fun k => S k ∨ LB LA k) w w'
theorem freeH_none {H : Hp} {r : Int} {o : Ob} {x : Rw} (hx : Mp.get H.rows o.row = some x) (hA : ¬ (x.isA = true ∧ 0 < x.arr - 1)) : freeH H r o = ({ H with objs := Mp.del H.objs r, rows := Mp.del H.rows o.row }, refsOf x.words ++ tailOf o) := by
  unfold freeH targetsH Hp.rowOf
  rw [hx]
  simp only [Option.map_some, Option.getD_some]
  rw [if_neg hA]
theorem freeH_some {H : Hp} {r : Int} {o : Ob} {x : Rw} (hx : Mp.get H.rows o.row = some x) (hA : x.isA = true ∧ 0 < x.arr - 1) : freeH H r o = ({ H with objs := Mp.del H.objs r, rows := mapAt H.rows o.row Rw.dec }, []) := by
  unfold freeH
  rw [hx]
  simp only
  rw [if_pos hA]
/-- The end of free: behind the range. -/
theorem free_end {w w3 W : World} {hb : Nat} {A : HA} {H G : Hp} {S : Nat → Prop} (h : HpAt w hb A H S) (h3 : HpAt w3 hb A G S) {LA : Option Addr} {l ls : List Int} {D : Nat}
    (hoff : ∀ a, LA = some a → ¬ S a.block) (hmut : Mut S w w3) (hW : BoxAt w3 w.heap.size LA ls W) (hD : w3.heap.size ≤ D) (hdef : W.heap[D]? = some (.deferred (some [])))
    {k : Int} (hk : ∀ r o, Mp.get G.objs r = some o → o.row ≠ k) : ∃ LA' LC', W.heap[w.heap.size]? = some (.cells #[.slice LA' ls.length LC'] 35 (0, 0)) ∧
      FreePost w hb A S LA { G with rows := Mp.del G.rows k } ls (.returned (.slice LA' ls.length LC')) (W.putObj D (.deferred none)) := by
  obtain ⟨LA', LC', h1, h2, h4, h5⟩ := hW
  have hp : Mut (· = D) W (W.putObj D (.deferred none)) := ⟨rfl, rfl, rfl, by simp, fun k _ hk => World.putObj_heap_other (fun e => hk e)⟩
  have hDn : ∀ {b : Nat} {cs : Array Value} {t : TypeId} {fr : Nat × Nat}, W.heap[b]? = some (.cells cs t fr) → b ≠ D := fun hb e => by rw [e, hdef] at hb; cases hb
  have hS3 := hmut.size
  have hm2 : Mut (fun k => k = w.heap.size ∨ ∃ a, LA = some a ∧ a.block = k) w3 (W.putObj D (.deferred none)) := h5.trans hp fun i hi => .inr (by rw [hi]; exact hD)
  refine ⟨LA', LC', h1, LA', LC', rfl, ?_, ⟨?_, ?_⟩, ?_, ?_⟩
  · refine (h3.mut hm2 fun k hSk hT => ?_).delRow k hk
    rcases hT with e | ⟨a, ha, e⟩
    · have := h.Slt k hSk; omega
    · exact hoff a ha (by rw [e]; exact hSk)
  · exact own_mut2 h2 hp fun a ha e => by
      obtain ⟨_, cs, hcs⟩ := own_head h2 a ha
      exact hDn hcs e
  · intro a ha hSa
    rcases h4 a ha with e | e
    · exact hoff a e hSa
    · have := h.Slt _ hSa; omega
  · intro a ha
    rcases h4 a ha with e | e
    · exact .inl e
    · exact .inr (by omega)
  · refine (hmut.mono fun i hi => .inl (.inl hi)).trans hm2 fun i hi => ?_
    rcases hi with e | e
    · exact .inr (by omega)
    · exact .inl (.inr e)
set_option maxHeartbeats 2000000 in
theorem free_shared (n : Nat) (hn : 3 ≤ n) {w : World} {hb : Nat} {A : HA} {H : Hp} {S : Nat → Prop} (h : HpAt w hb A H S) {r : Int} {o : Ob} {x : Rw} (ho : Mp.get H.objs r = some o) (hx : Mp.get H.rows o.row = some x) (hk : o.kind = 2) (hA : x.isA = true) (ha1 : 2 ≤ x.arr) (ha2 : x.arr ≤ 1000000000) (hw : x.words.length ≤ 100000000) {LA : Option Addr} {LC : Nat} {l : List Int} (hl : Lst w S LA LC l) (hll : l.length ≤ 500000000) :
    CallsIn Fence.wide n Try.prog 76 #[.pointer (some ⟨hb, 0, none⟩), .int .i64 r, .pointer (some ⟨A.ob r, 0, none⟩), .slice LA l.length LC] w (FreePost w hb A S LA { H with objs := Mp.del H.objs r, rows := mapAt H.rows o.row Rw.dec } l) := by
  refine callsIn_of_wp Try.func76 rfl trivial ?_ rfl
  simp only [Try.ntmps76, List.size_toArray, List.length_cons, List.length_nil, Nat.reduceAdd, Nat.reduceSub, Array.replicate_succ, Array.replicate_zero, List.push_toArray, List.append_toArray, List.nil_append, List.cons_append]
  have HH := Lib.hid h
  have HO := Lib.hid ho
  have HX := Lib.hid hx
  have HL := Lib.hid hl
  have HW := Lib.hid hw
  have HN := Lib.hid hll
  have HM : Hid (Mp.MapIs (w.alloc (.cells #[.slice LA l.length LC] 35)) A.mb kV ptrV (obAdr A H.objs)) := Lib.hid (h.omap.of_block (((Below.refl w.heap.size w).alloc (Nat.le_refl _) _).block _ h.omap.lt))
  obtain ⟨c0, _, _, _, _⟩ := h.cells
  have hlt0 := lt_of_heap h.blk
  have HK := Lib.hid hk
  have HA2 := Lib.hid hA
  have HI : Hid (∃ na : Int, x.arr = na ∧ 2 ≤ na ∧ na ≤ 1000000000) := Lib.hid ⟨_, rfl, ha1, ha2⟩
  clear h ho hx hl hw hll hk hA ha1 ha2
  obtain ⟨na, ha0, ha1, ha2⟩ := HI.out
  have HA0 := Lib.hid ha0
  clear ha0
  have hpos : decide (na - 1 > 0) = true := by simp; omega
  gi_wp2_with (first
    | (refine Mp.wpListIn_delete_map rfl _ _ rfl HM.out Try.underlying93 Try.underlying26 kV_key kV_inj r (by rfl) (by rfl) ?_; intro w2 hm2 hmut2
       have HMid := Lib.hid (mid_of HH.out HO.out HX.out HL.out hm2.out hmut2.out)
       clear hm2 hmut2
       have d0 := cell_of_heap (v := .int .i64 2) HMid.out.blk (j := 0) (by have := HK.out; simp [obC, this])
       have d7 := cell_of_heap (v := .pointer (some ⟨A.st o.row, 0, none⟩)) HMid.out.blk (j := 7) (by have := HK.out; simp [obC, HA.pF, this])
       have d8 := cell_of_heap (v := .int .i64 na) (HMid.out.hp.sto o.row x HX.out HA2.out) (j := 2) (by have := HA0.out; simp [stC, this])
       have d9 := frozen_of_heap (HMid.out.hp.sto o.row x HX.out HA2.out) 2
       have e1 := cell_of_heap (v := .slice LA l.length LC) HMid.out.box (j := 0) rfl
       have e2 := frozen_of_heap HMid.out.box 0
       go_frame)
    | gi_in)
  go_ret
  have hset := HMid.out.hp.setArr o.row x HX.out HA2.out (na - 1) Rw.dec (by have := HA0.out; simp [Rw.dec, this]) (fun _ => rfl) (fun _ => rfl)
  have hms : Mut S w2 (w2.setCell ⟨A.st o.row, 2, none⟩ (.int .i64 (na - 1))) := Mut.setCell _ _ _ _ (HH.out.St _ _ HX.out HA2.out)
  refine ⟨LA, LC, rfl, hset, ⟨?_, HL.out.off⟩, fun a ha => .inl ha, (HMid.out.chg.then hms).mono fun i hi => .inl (.inl hi)⟩
  refine own_mut2 HMid.out.own hms fun a ha e => HL.out.off a ha e
set_option maxHeartbeats 2000000 in
theorem free_last (n : Nat) (hn : 3 ≤ n) {w : World} {hb : Nat} {A : HA} {H : Hp} {S : Nat → Prop} (h : HpAt w hb A H S) {r : Int} {o : Ob} {x : Rw} (ho : Mp.get H.objs r = some o) (hx : Mp.get H.rows o.row = some x) (hk : o.kind = 2) (hA : x.isA = true) (ha1 : x.arr = 1) (hu : ∀ r2 o2, Mp.get (Mp.del H.objs r) r2 = some o2 → o2.row ≠ o.row) (hw : x.words.length ≤ 100000000) {LA : Option Addr} {LC : Nat} {l : List Int} (hl : Lst w S LA LC l) (hll : l.length ≤ 500000000) :
    CallsIn Fence.wide n Try.prog 76 #[.pointer (some ⟨hb, 0, none⟩), .int .i64 r, .pointer (some ⟨A.ob r, 0, none⟩), .slice LA l.length LC] w (FreePost w hb A S LA { H with objs := Mp.del H.objs r, rows := Mp.del H.rows o.row } (l ++ (refsOf x.words ++ tailOf o))) := by
  refine callsIn_of_wp_marks Try.func76 rfl trivial ?_ rfl
  simp only [Try.ntmps76, List.size_toArray, List.length_cons, List.length_nil, Nat.reduceAdd, Nat.reduceSub, Array.replicate_succ, Array.replicate_zero, List.push_toArray, List.append_toArray, List.nil_append, List.cons_append]
  have HH := Lib.hid h
  have HO := Lib.hid ho
  have HX := Lib.hid hx
  have HL := Lib.hid hl
  have HW := Lib.hid hw
  have HN := Lib.hid hll
  have HM : Hid (Mp.MapIs (w.alloc (.cells #[.slice LA l.length LC] 35)) A.mb kV ptrV (obAdr A H.objs)) := Lib.hid (h.omap.of_block (((Below.refl w.heap.size w).alloc (Nat.le_refl _) _).block _ h.omap.lt))
  obtain ⟨c0, _, _, _, _⟩ := h.cells
  have hlt0 := lt_of_heap h.blk
  have HK := Lib.hid hk
  have HA2 := Lib.hid hA
  have HA0 := Lib.hid ha1
  have HU := Lib.hid hu
  clear h ho hx hl hw hll hk hA ha1 hu
  gi_wp2_with (first
    | (refine Mp.wpListIn_delete_map rfl _ _ rfl HM.out Try.underlying93 Try.underlying26 kV_key kV_inj r (by rfl) (by rfl) ?_; intro w2 hm2 hmut2
       have HMid := Lib.hid (mid_of HH.out HO.out HX.out HL.out hm2.out hmut2.out)
       clear hm2 hmut2
       have d0 := cell_of_heap (v := .int .i64 2) HMid.out.blk (j := 0) (by have := HK.out; simp [obC, this])
       have d7 := cell_of_heap (v := .pointer (some ⟨A.st o.row, 0, none⟩)) HMid.out.blk (j := 7) (by have := HK.out; simp [obC, HA.pF, this])
       have d8 := cell_of_heap (v := .int .i64 1) (HMid.out.hp.sto o.row x HX.out HA2.out) (j := 2) (by have := HA0.out; simp [stC, this])
       have d9 := frozen_of_heap (HMid.out.hp.sto o.row x HX.out HA2.out) 2
       have e1 := cell_of_heap (v := .slice LA l.length LC) HMid.out.box (j := 0) rfl
       have e2 := frozen_of_heap HMid.out.box 0
       go_frame)
    | gi_in)
  have hset := HMid.out.hp.setArr o.row x HX.out HA2.out 0 Rw.dec (by have := HA0.out; simp [Rw.dec, this]) (fun _ => rfl) (fun _ => rfl)
  have hms : Mut (· = A.st o.row) w2 (w2.setCell ⟨A.st o.row, 2, none⟩ (.int .i64 0)) := Mut.setCell _ _ _ _ rfl
  have hms2 : Mut S w2 (w2.setCell ⟨A.st o.row, 2, none⟩ (.int .i64 0)) := Mut.setCell _ _ _ _ (HH.out.St _ _ HX.out HA2.out)
  have hsto := HMid.out.hp.sto o.row x HX.out HA2.out
  have hmid3 := And.intro hset (And.intro ((hms.block _ (lt_of_heap HMid.out.blk) (ne_ty HMid.out.blk hsto (by decide))).trans HMid.out.blk) (And.intro ((hms.block _ (lt_of_heap HMid.out.box) (ne_ty HMid.out.box hsto (by decide))).trans HMid.out.box) (And.intro (own_mut2 HMid.out.own hms2 fun a ha e => HL.out.off a ha e) (HMid.out.chg.then hms2))))
  have HX3 : Hid (Mp.get (Hp.updR { H with objs := Mp.del H.objs r } o.row Rw.dec).rows o.row = some x.dec ∧ (o.kind = 2 → x.dec.isA = true) ∧ x.dec.words = x.words) := Lib.hid ⟨by show Mp.get (mapAt H.rows o.row Rw.dec) o.row = _; rw [get_mapAt, if_pos rfl, HX.out]; rfl, fun _ => HA2.out, rfl⟩
  generalize w2.setCell ⟨A.st o.row, 2, none⟩ (.int .i64 0) = w3 at *
  clear hset hms hms2 hsto d0 d7 d8 d9 e1 e2 HMid
  have htl : (refsOf x.words ++ tailOf o).length ≤ 200000000 := by
    have h1 := len_refsOf x.words
    have h2 : (tailOf o).length ≤ 1 := by unfold tailOf; split <;> simp
    have h3 := HW.out
    rw [List.length_append]; omega
  have HMid3 := Lib.hid hmid3
  clear hmid3
  have HTl := Lib.hid htl
  clear htl
  have h1 : 1 ≤ n := by omega
  refine wpIn_range_one rfl (by omega) (by simp) rfl trivial (enters_of Try.func72 (by kernel_rfl) rfl) (targets_gives (n - 1) A (A.ob r) o x.words HW.out) (fun j W => BoxAt w3 w.heap.size LA (l ++ (refsOf x.words ++ tailOf o).take j) W) (fun j A B h hb => h.below hb) (fun j W l o o' h hl ho hc => h.put hl ho hc) ?_ ?_ ?_ ?_
  · intro j W hW
    obtain ⟨LA1, LC1, _, _, _, hm⟩ := hW
    exact ord_of (x := x.dec) HMid3.out.1 HX3.out.1 HX3.out.2.1 (by rw [HX3.out.2.2]; exact HMid3.out.2.1) HMid3.out.2.2.1 HMid3.out.2.2.2.1 hm |> fun q => HX3.out.2.2 ▸ q
  · simp only [List.take_zero, List.append_nil]
    exact ⟨LA, LC, HMid3.out.2.2.1, HMid3.out.2.2.2.1, fun a ha => .inl ha, Mut.refl _ _⟩
  · intro lp j hj W hW
    obtain ⟨hj2, hxj, htk⟩ := ints_take hj
    rw [hxj]
    have hlen : (l ++ (refsOf x.words ++ tailOf o).take j).length ≤ 1000000000 := by
      have h1 := HTl.out
      have h2 := HN.out
      rw [List.length_append, List.length_take]; omega
    have HK3 : Hid (BoxAt w3 w.heap.size LA (l ++ (refsOf x.words ++ tailOf o).take (j + 1)) = BoxAt w3 w.heap.size LA (l ++ (refsOf x.words ++ tailOf o).take j ++ [(refsOf x.words ++ tailOf o)[j]'hj2])) := Lib.hid (by rw [htk, List.append_assoc])
    generalize (refsOf x.words ++ tailOf o)[j]'hj2 = y at *
    generalize l ++ (refsOf x.words ++ tailOf o).take j = zs at *
    obtain ⟨LA1, LC1, g1, g2, g3, g4⟩ := hW
    have c1 := cell_of_heap (v := .slice LA1 zs.length LC1) g1 (j := 0) rfl
    have c2 := frozen_of_heap g1 0
    have G1 := Lib.hid g1
    have G2 := Lib.hid g2
    have G3 := Lib.hid g3
    have G4 := Lib.hid g4
    clear g1 g2 g3 g4 hxj htk c0
    gi_wp2_with (first
      | (gi_at_builtin; refine appI rfl _ _ rfl w3 w.heap.size LA zs y LA1 LC1 G1.out G2.out G3.out G4.out rfl rfl rfl hlen ?_; intro g C w5 d1 d2 HB)
      | gi_in)
    exact ⟨HB.out.2 _, by rw [HK3.out]; exact HB.out.1⟩
  · intro D W hD hW hdef
    rename_i Q' K hK
    refine hK _ _ ?_
    rw [List.take_of_length_le (by simp [ints])] at hW
    obtain ⟨LA', LC', q1, q2⟩ := free_end (l := l) HH.out HMid3.out.1 HL.out.off HMid3.out.2.2.2.2 hW hD hdef (k := o.row) HU.out
    have c1 := cell_of_heap (v := .slice LA' (l ++ (refsOf x.words ++ tailOf o)).length LC') q1 (j := 0) rfl
    have c2 := frozen_of_heap q1 0
    have H2 := Lib.hid q2
    have H7 := Lib.hid hdef
    generalize hls : l ++ (refsOf x.words ++ tailOf o) = ls at *
    have HLS := Lib.hid hls
    clear q1 q2 hdef hW hD hK hls c0
    gi_wp2
    refine ⟨by simp, .inl ⟨_, _, rfl, run_takeDeferred H7.out, ?_⟩⟩
    refine ⟨_, results_tmp rfl _ _ _, ?_⟩
    have e9 : Mp.del (mapAt H.rows o.row Rw.dec) o.row = Mp.del H.rows o.row := del_mapAt _ _ _
    have q := H2.out
    rw [show ({ (Hp.updR { H with objs := Mp.del H.objs r } o.row Rw.dec) with rows := Mp.del (Hp.updR { H with objs := Mp.del H.objs r } o.row Rw.dec).rows o.row } : Hp) = { H with objs := Mp.del H.objs r, rows := Mp.del H.rows o.row } from by simp only [Hp.updR, e9]] at q
    exact q
set_option maxHeartbeats 2000000 in
theorem free_other (n : Nat) (hn : 3 ≤ n) {w : World} {hb : Nat} {A : HA} {H : Hp} {S : Nat → Prop} (h : HpAt w hb A H S) {r : Int} {o : Ob} {x : Rw} (ho : Mp.get H.objs r = some o) (hx : Mp.get H.rows o.row = some x) (hk : o.kind ≠ 2) (hu : ∀ r2 o2, Mp.get (Mp.del H.objs r) r2 = some o2 → o2.row ≠ o.row) (hw : x.words.length ≤ 100000000) {LA : Option Addr} {LC : Nat} {l : List Int} (hl : Lst w S LA LC l) (hll : l.length ≤ 500000000) :
    CallsIn Fence.wide n Try.prog 76 #[.pointer (some ⟨hb, 0, none⟩), .int .i64 r, .pointer (some ⟨A.ob r, 0, none⟩), .slice LA l.length LC] w (FreePost w hb A S LA { H with objs := Mp.del H.objs r, rows := Mp.del H.rows o.row } (l ++ (refsOf x.words ++ tailOf o))) := by
  refine callsIn_of_wp_marks Try.func76 rfl trivial ?_ rfl
  simp only [Try.ntmps76, List.size_toArray, List.length_cons, List.length_nil, Nat.reduceAdd, Nat.reduceSub, Array.replicate_succ, Array.replicate_zero, List.push_toArray, List.append_toArray, List.nil_append, List.cons_append]
  have HH := Lib.hid h
  have HO := Lib.hid ho
  have HX := Lib.hid hx
  have HL := Lib.hid hl
  have HW := Lib.hid hw
  have HN := Lib.hid hll
  have HM : Hid (Mp.MapIs (w.alloc (.cells #[.slice LA l.length LC] 35)) A.mb kV ptrV (obAdr A H.objs)) := Lib.hid (h.omap.of_block (((Below.refl w.heap.size w).alloc (Nat.le_refl _) _).block _ h.omap.lt))
  obtain ⟨c0, _, _, _, _⟩ := h.cells
  have hlt0 := lt_of_heap h.blk
  have hk2 : (o.kind == 2) = false := by simpa using hk
  have HK := Lib.hid hk
  have HU := Lib.hid hu
  clear h ho hx hl hw hll hk hu
  gi_wp2_with (first
    | (refine Mp.wpListIn_delete_map rfl _ _ rfl HM.out Try.underlying93 Try.underlying26 kV_key kV_inj r (by rfl) (by rfl) ?_; intro w2 hm2 hmut2
       have HMid := Lib.hid (mid_of HH.out HO.out HX.out HL.out hm2.out hmut2.out)
       clear hm2 hmut2
       have d0 := cell_of_heap (v := .int .i64 o.kind) HMid.out.blk (j := 0) rfl
       have e1 := cell_of_heap (v := .slice LA l.length LC) HMid.out.box (j := 0) rfl
       have e2 := frozen_of_heap HMid.out.box 0
       go_frame)
    | gi_in)
  have hmid3 := And.intro HMid.out.hp (And.intro HMid.out.blk (And.intro HMid.out.box (And.intro HMid.out.own HMid.out.chg)))
  have HX3 : Hid (Mp.get ({ H with objs := Mp.del H.objs r } : Hp).rows o.row = some x ∧ (o.kind = 2 → x.isA = true) ∧ x.words = x.words) := Lib.hid ⟨HX.out, fun e => absurd e HK.out, rfl⟩
  obtain ⟨w3, rfl⟩ : ∃ w3, w3 = w2 := ⟨_, rfl⟩
  clear d0 e1 e2 HMid
  have htl : (refsOf x.words ++ tailOf o).length ≤ 200000000 := by
    have h1 := len_refsOf x.words
    have h2 : (tailOf o).length ≤ 1 := by unfold tailOf; split <;> simp
    have h3 := HW.out
    rw [List.length_append]; omega
  have HMid3 := Lib.hid hmid3
  clear hmid3
  have HTl := Lib.hid htl
  clear htl
  have h1 : 1 ≤ n := by omega
  refine wpIn_range_one rfl (by omega) (by simp) rfl trivial (enters_of Try.func72 (by kernel_rfl) rfl) (targets_gives (n - 1) A (A.ob r) o x.words HW.out) (fun j W => BoxAt w3 w.heap.size LA (l ++ (refsOf x.words ++ tailOf o).take j) W) (fun j A B h hb => h.below hb) (fun j W l o o' h hl ho hc => h.put hl ho hc) ?_ ?_ ?_ ?_
  · intro j W hW
    obtain ⟨LA1, LC1, _, _, _, hm⟩ := hW
    exact ord_of (x := x) HMid3.out.1 HX3.out.1 HX3.out.2.1 (by rw [HX3.out.2.2]; exact HMid3.out.2.1) HMid3.out.2.2.1 HMid3.out.2.2.2.1 hm |> fun q => HX3.out.2.2 ▸ q
  · simp only [List.take_zero, List.append_nil]
    exact ⟨LA, LC, HMid3.out.2.2.1, HMid3.out.2.2.2.1, fun a ha => .inl ha, Mut.refl _ _⟩
  · intro lp j hj W hW
    obtain ⟨hj2, hxj, htk⟩ := ints_take hj
    rw [hxj]
    have hlen : (l ++ (refsOf x.words ++ tailOf o).take j).length ≤ 1000000000 := by
      have h1 := HTl.out
      have h2 := HN.out
      rw [List.length_append, List.length_take]; omega
    have HK3 : Hid (BoxAt w3 w.heap.size LA (l ++ (refsOf x.words ++ tailOf o).take (j + 1)) = BoxAt w3 w.heap.size LA (l ++ (refsOf x.words ++ tailOf o).take j ++ [(refsOf x.words ++ tailOf o)[j]'hj2])) := Lib.hid (by rw [htk, List.append_assoc])
    generalize (refsOf x.words ++ tailOf o)[j]'hj2 = y at *
    generalize l ++ (refsOf x.words ++ tailOf o).take j = zs at *
    obtain ⟨LA1, LC1, g1, g2, g3, g4⟩ := hW
    have c1 := cell_of_heap (v := .slice LA1 zs.length LC1) g1 (j := 0) rfl
    have c2 := frozen_of_heap g1 0
    have G1 := Lib.hid g1
    have G2 := Lib.hid g2
    have G3 := Lib.hid g3
    have G4 := Lib.hid g4
    clear g1 g2 g3 g4 hxj htk c0
    gi_wp2_with (first
      | (gi_at_builtin; refine appI rfl _ _ rfl w3 w.heap.size LA zs y LA1 LC1 G1.out G2.out G3.out G4.out rfl rfl rfl hlen ?_; intro g C w5 d1 d2 HB)
      | gi_in)
    exact ⟨HB.out.2 _, by rw [HK3.out]; exact HB.out.1⟩
  · intro D W hD hW hdef
    rename_i Q' K hK
    refine hK _ _ ?_
    rw [List.take_of_length_le (by simp [ints])] at hW
    obtain ⟨LA', LC', q1, q2⟩ := free_end (l := l) HH.out HMid3.out.1 HL.out.off HMid3.out.2.2.2.2 hW hD hdef (k := o.row) HU.out
    have c1 := cell_of_heap (v := .slice LA' (l ++ (refsOf x.words ++ tailOf o)).length LC') q1 (j := 0) rfl
    have c2 := frozen_of_heap q1 0
    have H2 := Lib.hid q2
    have H7 := Lib.hid hdef
    generalize hls : l ++ (refsOf x.words ++ tailOf o) = ls at *
    have HLS := Lib.hid hls
    clear q1 q2 hdef hW hD hK hls c0
    gi_wp2
    refine ⟨by simp, .inl ⟨_, _, rfl, run_takeDeferred H7.out, ?_⟩⟩
    refine ⟨_, results_tmp rfl _ _ _, ?_⟩
    exact H2.out
end Go.Proofs.Ytodfpclekihbhaa
