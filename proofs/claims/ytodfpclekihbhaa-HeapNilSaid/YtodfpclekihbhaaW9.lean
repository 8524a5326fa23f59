/- New; add: an object gets the next number. -/
import Derived.Test.YtodfpclekihbhaaW8
import Derived.StillTailTactics
namespace Go.Proofs.Ytodfpclekihbhaa
open Go.RowKit Go.Shelf

variable {w : World} {hb : Nat} {A : HA} {H : Hp} {S : Nat → Prop}
/-- A slice of booleans in memory of its own, for a heap's object. -/
structure ShpAt (w : World) (sa : Option Addr) (refs : List Bool) : Prop where
  rd : BoolsAt w sa refs
  blk : refs ≠ [] → ∀ a, sa = some a → ∃ cs fr, w.heap[a.block]? = some (.cells cs 4 fr)
def shpB (sa : Option Addr) (refs : List Bool) : Nat → Prop := fun k => refs ≠ [] ∧ ∃ a, sa = some a ∧ a.block = k
theorem ShpAt.mut {T : Nat → Prop} {w w' : World} {sa : Option Addr} {refs : List Bool} (h : ShpAt w sa refs) (hm : Mut T w w') (hT : ∀ k, T k → ¬ shpB sa refs k) : ShpAt w' sa refs :=
  ⟨h.rd.mut hm fun he a ha hk => hT _ hk ⟨he, a, ha, rfl⟩, fun he a ha => by
    obtain ⟨cs, fr, hc⟩ := h.blk he a ha
    exact ⟨cs, fr, (hm.block _ (lt_of_heap hc) fun hk => hT _ hk ⟨he, a, ha, rfl⟩).trans hc⟩⟩
theorem ShpAt.of_own {w : World} {B n C : Nat} {A' : Option Addr} {refs : List Bool} (h : w.ownsRow B 4 1 (.slice A' n C) n (refs.map Value.bool)) : ShpAt w A' refs := by
  rcases h.2 with ⟨h1, h2⟩ | ⟨g, cap, cur, h1, h2, h3, h4, h5, h6, h7⟩
  · have : refs = [] := by
      have h3 := h.1
      rw [h2] at h3
      exact List.eq_nil_of_length_eq_zero (by simpa using h3)
    subst this
    exact ⟨fun j hj => absurd hj (Nat.not_lt_zero _), fun he => absurd rfl he⟩
  · injection h1 with e1
    subst e1
    refine ⟨fun j hj => ⟨g, 0, rfl, lt_of_heap h3, cell_of_heap h3 ?_⟩, fun _ a ha => by injection ha with ha; subst ha; exact ⟨cur, (0, 0), h3⟩⟩
    have hl := h.1
    have : (cur.toList.take (n * 1))[j]? = some (Value.bool (refs[j]'hj)) := by rw [h7]; simp [hj]
    rw [List.getElem?_take_of_lt (by simp at hl; omega)] at this
    simpa using this
def HA.addO (A : HA) (r : Int) (nb : Nat) (sa : Option Addr) (sc : Nat) : HA := { A with ob := fun x => if x = r then nb else A.ob x, sA := fun x => if x = r then sa else A.sA x, sC := fun x => if x = r then sc else A.sC x }
/-- An object is put into the map. -/
theorem HpAt.addOb {w' : World} (h : HpAt w hb A H S) {r : Int} (hr : Mp.get H.objs r = none) (o : Ob) (nb : Nat) (sa : Option Addr) (sc : Nat) (hnb : ¬ S nb) {x : Rw} (hx : Mp.get H.rows o.row = some x)
    (hB : w.heap[nb]? = some (.cells (obC (A.addO r nb sa sc) r o x.words.length) 104 (0, 0))) (hs : ShpAt w sa o.refs)
    (hm : Mut (· = A.mb) w w') (hL : Mp.MapIs w' A.mb kV ptrV (Mp.put (obAdr A H.objs) r nb)) :
    HpAt w' hb (A.addO r nb sa sc) { H with objs := Mp.put H.objs r o } (fun k => S k ∨ k = nb ∨ shpB sa o.refs k) := by
  obtain ⟨es, clk, hM, _⟩ := h.omap
  have hne : ∀ x y, Mp.get H.objs x = some y → x ≠ r := fun x y hy e => by rw [e, hr] at hy; cases hy
  have hg : ∀ x y, Mp.get (Mp.put H.objs r o) x = some y → (x = r ∧ y = o) ∨ (x ≠ r ∧ Mp.get H.objs x = some y) := fun x y hy => by
    rw [Mp.get_put] at hy
    by_cases e : x = r
    · rw [if_pos e] at hy; injection hy with hy; exact .inl ⟨e, hy.symm⟩
    · rw [if_neg e] at hy; exact .inr ⟨e, hy⟩
  have e0 : (A.addO r nb sa sc).ob r = nb := if_pos rfl
  have e1 : ∀ x, x ≠ r → (A.addO r nb sa sc).ob x = A.ob x := fun x hx => if_neg hx
  have e2 : (A.addO r nb sa sc).sA r = sa := if_pos rfl
  have e3 : ∀ x, x ≠ r → (A.addO r nb sa sc).sA x = A.sA x := fun x hx => if_neg hx
  have e4 : ∀ x, x ≠ r → (A.addO r nb sa sc).sC x = A.sC x := fun x hx => if_neg hx
  have eC : ∀ x y n, x ≠ r → obC (A.addO r nb sa sc) x y n = obC A x y n := fun x y n hx => by
    unfold obC
    rw [e3 x hx, e4 x hx]
    rfl
  have hput : obAdr (A.addO r nb sa sc) (Mp.put H.objs r o) = Mp.put (obAdr A H.objs) r nb := by
    have hr2 : Mp.get (obAdr A H.objs) r = none := by rw [get_obAdr, hr]; rfl
    rw [put_fresh hr, put_fresh hr2]
    unfold obAdr
    rw [List.map_append]
    congr 1
    · apply List.map_congr_left
      intro p hp
      have : p.1 ≠ r := fun e => (Mp.get_none_iff H.objs r).1 hr p hp e
      rw [e1 _ this]
    · simp [e0]
  have hrow : ∀ k, ({ H with objs := Mp.put H.objs r o } : Hp).rowOf k = H.rowOf k := fun _ => rfl
  have ho1 : ∀ x y, Mp.get H.objs x = some y → A.ob x ≠ nb := fun x y hy e => hnb (e ▸ h.So x y hy)
  refine { blk := ?_, omap := by rw [hput]; exact hL, smap := ?_, snil := h.snil, obj := ?_, row := ?_, sto := ?_, shp := ?_, oinj := ?_, winj := h.winj, sinj := h.sinj, mne := h.mne, Sh := .inl h.Sh, Sm := .inl h.Sm, Ss := fun b e => .inl (h.Ss b e), So := ?_, Sw := fun k x a hx ha => .inl (h.Sw k x a hx ha), St := fun k x hx hi => .inl (h.St k x hx hi), Sp := ?_, Slt := ?_ }
  · exact (hm.block _ (lt_of_heap h.blk) (not_map_of_cells h.blk hM)).trans h.blk
  · exact fun b e => (h.smap b e).of_block (hm.block _ (h.smap b e).lt (fun e2 => h.mne (by rw [← e2]; exact e)))
  · intro x y hy
    rw [hrow]
    rcases hg x y hy with ⟨rfl, rfl⟩ | ⟨hx1, hy1⟩
    · rw [e0, h.row_of hx rfl]
      exact (hm.block _ (lt_of_heap hB) (not_map_of_cells hB hM)).trans hB
    · rw [e1 x hx1, eC x y _ hx1]
      exact (hm.block _ (lt_of_heap (h.obj x y hy1)) (not_map_of_cells (h.obj x y hy1) hM)).trans (h.obj x y hy1)
  · exact fun k x hx => own_mut2 (h.row k x hx) hm fun a ha e => by
      obtain ⟨cs, hcs, _⟩ := row_blk (h.row k x hx) a ha
      exact not_map_of_cells hcs hM e
  · exact fun k x hx hi => (hm.block _ (lt_of_heap (h.sto k x hx hi)) (not_map_of_cells (h.sto k x hx hi) hM)).trans (h.sto k x hx hi)
  · intro x y hy
    rcases hg x y hy with ⟨rfl, rfl⟩ | ⟨hx1, hy1⟩
    · rw [e2]
      exact hs.rd.mut hm fun he a ha e => by
        obtain ⟨cs, fr, hc⟩ := hs.blk he a ha
        exact not_map_of_cells hc hM e
    · rw [e3 x hx1]
      exact (h.shp x y hy1).mut hm fun he a ha e => by
        obtain ⟨_, cs, fr, hc⟩ := h.Sp x y a hy1 he ha
        exact not_map_of_cells hc hM e
  · intro x x' y y' hy hy' e
    rcases hg x y hy with ⟨rfl, rfl⟩ | ⟨hx1, hy1⟩
    · rcases hg x' y' hy' with ⟨rfl, rfl⟩ | ⟨hx2, hy2⟩
      · rfl
      · rw [e0, e1 x' hx2] at e
        exact absurd e.symm (ho1 x' y' hy2)
    · rcases hg x' y' hy' with ⟨rfl, rfl⟩ | ⟨hx2, hy2⟩
      · rw [e0, e1 x hx1] at e
        exact absurd e (ho1 x y hy1)
      · rw [e1 x hx1, e1 x' hx2] at e
        exact h.oinj _ _ _ _ hy1 hy2 e
  · intro x y hy
    rcases hg x y hy with ⟨rfl, rfl⟩ | ⟨hx1, hy1⟩
    · rw [e0]; exact .inr (.inl rfl)
    · rw [e1 x hx1]; exact .inl (h.So x y hy1)
  · intro x y a hy he ha
    rcases hg x y hy with ⟨rfl, rfl⟩ | ⟨hx1, hy1⟩
    · rw [e2] at ha
      obtain ⟨cs, fr, hc⟩ := hs.blk he a ha
      exact ⟨.inr (.inr ⟨he, a, ha, rfl⟩), cs, fr, (hm.block _ (lt_of_heap hc) (not_map_of_cells hc hM)).trans hc⟩
    · rw [e3 x hx1] at ha
      obtain ⟨g1, cs, fr, hc⟩ := h.Sp x y a hy1 he ha
      exact ⟨.inl g1, cs, fr, (hm.block _ (lt_of_heap hc) (not_map_of_cells hc hM)).trans hc⟩
  · intro k hk
    refine Nat.lt_of_lt_of_le ?_ hm.size
    rcases hk with hk | rfl | ⟨he, a, ha, rfl⟩
    · exact h.Slt k hk
    · exact lt_of_heap hB
    · obtain ⟨cs, fr, hc⟩ := hs.blk he a ha
      exact lt_of_heap hc
theorem updO_run {w : World} {b : Nat} {L : List (Int × Nat)} (hmap : Mp.MapIs w b kV ptrV L) (k : Int) (q : Nat) : ∃ w', (Instr.mapUpdate 93 (.map (some b)) (.int .i64 k) (.pointer (some ⟨q, 0, none⟩))).run Try.prog w = .ok () w' ∧ Mp.MapIs w' b kV ptrV (Mp.put L k q) ∧ Mut (· = b) w w' := by
  obtain ⟨o, h1, h2⟩ := hmap.update (P := Try.prog) Try.underlying93 Try.underlying26 kV_key kV_inj k q
  exact ⟨_, h1, h2, Mut.setB w b o rfl⟩
/-- The cells of an object that is not held yet. -/
def obC0 (A : HA) (r : Int) (o : Ob) (n : Nat) : Array Value := obC A r { o with holds := 0 } n
set_option maxRecDepth 100000 in
set_option maxHeartbeats 2000000 in
theorem add_calls (h : HpAt w hb A H S) (hr : Mp.get H.objs ((H.last : Int) + 1) = none) (o : Ob) (nb : Nat) (sa : Option Addr) (sc : Nat) (hnb : ¬ S nb) {x : Rw} (hx : Mp.get H.rows o.row = some x) (hn : H.last ≤ 1000000)
    (hB : w.heap[nb]? = some (.cells (obC0 (A.addO ((H.last : Int) + 1) nb sa sc) ((H.last : Int) + 1) o x.words.length) 104 (0, 0))) (hs : ShpAt w sa o.refs) :
    Calls Try.prog 55 #[.pointer (some ⟨hb, 0, none⟩), .pointer (some ⟨nb, 0, none⟩)] w fun e w' => e = .returned (.int .i64 ((H.last : Int) + 1)) ∧ HpAt w' hb (A.addO ((H.last : Int) + 1) nb sa sc) (addH H o) (fun k => S k ∨ k = nb ∨ shpB sa o.refs k) ∧ Mut (fun k => S k ∨ k = nb) w w' := by
  have HH := Lib.hid h
  have HX := Lib.hid hx
  have HR := Lib.hid hr
  have HB := Lib.hid hB
  have HS := Lib.hid hs
  have HNB := Lib.hid hnb
  obtain ⟨c0, c1, c2, c3, hf⟩ := h.cells
  have d1 := cell_of_heap (v := .int .i64 0) hB (j := 10) rfl
  have d2 := frozen_of_heap hB 10
  have hne1 : hb ≠ nb := fun e => hnb (e ▸ h.Sh)
  have hne2 : nb ≠ hb := fun e => hnb (e ▸ h.Sh)
  have hlt := lt_of_heap hB
  have hlt2 := lt_of_heap h.blk
  clear h hr hnb hx hB hs
  generalize hla : (H.last : Int) = la at *
  have hla1 : 0 ≤ la := by omega
  have hla2 : la ≤ 1000000 := by omega
  have HLA := Lib.hid hla
  clear hla hn
  go_enter Try.func55, Try.ntmps55
  go_wp2
  obtain ⟨W2, hW2⟩ : ∃ W2, W2 = (w.setCell ⟨hb, 1, none⟩ (.int .i64 (la + 1))).setCell ⟨nb, 10, none⟩ (.int .i64 1) := ⟨_, rfl⟩
  rw [← hW2]
  have hs1 := HH.out.setHp 1 (.int .i64 (la + 1)) (H.last + 1) H.watched (by have := HLA.out; simp [hpC, ← this]) (fun e => (HH.out.snil e).1)
  have hm1 : Mut (· = hb) w (w.setCell ⟨hb, 1, none⟩ (.int .i64 (la + 1))) := Mut.setCell _ _ _ _ rfl
  have hm2 : Mut (· = nb) (w.setCell ⟨hb, 1, none⟩ (.int .i64 (la + 1))) W2 := by rw [hW2]; exact Mut.setCell _ _ _ _ rfl
  have hB1 := (hm1.block nb (lt_of_heap HB.out) hne2).trans HB.out
  have hB2 : W2.heap[nb]? = some (.cells (obC (A.addO (la + 1) nb sa sc) (la + 1) { o with holds := 1 } x.words.length) 104 (0, 0)) := by
    rw [hW2, heap_setCell_same _ nb 10 _ _ _ hB1]; rfl
  have hp2 := hs1.mut hm2 fun k hk e => HNB.out (e ▸ hk)
  have hs2 : ShpAt W2 sa o.refs := (HS.out.mut hm1 (fun k hk hk2 => by
      obtain ⟨he, a, ha, e⟩ := hk2
      obtain ⟨cs, fr, hc⟩ := HS.out.blk he a ha
      exact ne_ty hc HH.out.blk (by decide) (e.trans hk))).mut hm2 fun k hk hk2 => by
      obtain ⟨he, a, ha, e⟩ := hk2
      obtain ⟨cs, fr, hc⟩ := HS.out.blk he a ha
      exact ne_ty hc HB.out (by decide) (e.trans hk)
  have hdr : Below W2.heap.size W2 W2.drew := (Below.refl _ _).drew
  have hp3 := hp2.below hdr
  obtain ⟨w3, hrun, hm3, hmut3⟩ := updO_run hp3.omap (la + 1) nb
  have hp4 := hp3.addOb (r := la + 1) HR.out { o with holds := 1 } nb sa sc HNB.out HX.out ((hdr.block _ (lt_of_heap hB2)).trans hB2) (hs2.mut (Mut.of_below (S := fun _ => False) hdr) (fun _ h => h.elim)) hmut3 hm3
  have HP4 := Lib.hid hp4
  have hmt : Mut (fun k => S k ∨ k = nb) w w3 := ((((hm1.mono (S' := fun k => S k ∨ k = nb) fun i hi => .inl (.inl (hi ▸ HH.out.Sh))).trans hm2 fun i hi => .inl (.inr hi)).then (Mut.of_below hdr)).trans hmut3 fun i hi => .inl (.inl (hi ▸ HH.out.Sm)))
  have HMT := Lib.hid hmt
  obtain ⟨e0, e1, e2, e3, ef⟩ := hp2.cells
  obtain ⟨g0, g1, g2, g3, gf⟩ := hp4.cells
  rw [show (({ ({ H with last := H.last + 1, watched := H.watched } : Hp) with objs := Mp.put H.objs (la + 1) { o with holds := 1 } } : Hp).last : Int) = la + 1 from by have := HLA.out; show ((H.last + 1 : Nat) : Int) = _; omega] at g1
  rw [show ((({ H with last := H.last + 1, watched := H.watched } : Hp)).last : Int) = la + 1 from by have := HLA.out; show ((H.last + 1 : Nat) : Int) = _; omega] at e1
  have HSee := Lib.hid (see_calls hp4 (la + 1))
  have HE : Hid (addH H o = seeH { ({ H with last := H.last + 1, watched := H.watched } : Hp) with objs := Mp.put H.objs (la + 1) { o with holds := 1 } } (la + 1)) := Lib.hid (by unfold addH; rw [HLA.out])
  clear hW2 hs1 hm1 hm2 hB1 hB2 hp2 hs2 hp3 hm3 hmut3 hp4 hmt hdr c0 c1 c2 c3 hf d1 d2 g0 g2 g3 e2 e3
  go_region
  go_wp2_with (go_at_call 62; refine HSee.out.mono ?_; rintro e w5 ⟨rfl, h5, m5⟩
               have hc5 := h5.cells.2.1
               rw [seeH_last] at hc5
               rw [show (({ ({ H with last := H.last + 1, watched := H.watched } : Hp) with objs := Mp.put H.objs (la + 1) { o with holds := 1 } } : Hp).last : Int) = la + 1 from by have := HLA.out; show ((H.last + 1 : Nat) : Int) = _; omega] at hc5
               have hf5 := h5.cells.2.2.2.2
               have H5 := Lib.hid h5
               have M5 := Lib.hid m5
               clear h5 m5)
  go_ret
  exact ⟨rfl, by rw [HE.out]; exact H5.out, HMT.out.trans M5.out fun i hi => .inl (.inl (HH.out.Ss i hi))⟩
theorem Mp.setB_same {w : World} {b : Nat} {o : Obj} (h : b < w.heap.size) (o' : Obj) : (Mp.setB w b o').heap[b]? = some o' := by simp [Mp.setB, h]
set_option maxHeartbeats 1000000 in
theorem new_calls (w : World) : Calls Try.prog 12 #[] w fun e w' => ∃ hb A S, e = .returned (.pointer (some ⟨hb, 0, none⟩)) ∧ HpAt w' hb A emptyH S ∧ Below w.heap.size w w' ∧ ∀ k, S k → w.heap.size ≤ k := by
  have hmm := @run_makeMap Try.prog
  go_enter Try.func12, Try.ntmps12
  go_wp2
  go_ret
  obtain ⟨k0, k1⟩ := heap2 w (.map #[] 0) (.cells #[.map (some w.heap.size), .int .i64 0, .bool false, .map none] 95)
  have hm : Mp.MapIs ((w.alloc (.map #[] 0)).alloc (.cells #[.map (some w.heap.size), .int .i64 0, .bool false, .map none] 95)) w.heap.size kV ptrV [] := (Mp.MapIs.made w kV ptrV).of_block ((Below.heap_alloc _ _ _ (by simp)))
  refine ⟨w.heap.size + 1, ⟨w.heap.size, none, fun _ => 0, fun _ => none, fun _ => 0, fun _ => 0, fun _ => none, fun _ => 0⟩, fun k => k = w.heap.size ∨ k = w.heap.size + 1, rfl, ?_, ((Below.refl _ _).alloc (Nat.le_refl _) _).alloc (by simp) _, fun k hk => by omega⟩
  exact { blk := k1, omap := hm, smap := fun b e => (by cases e), snil := fun _ => ⟨rfl, rfl⟩, obj := fun r o ho => (by cases ho), row := fun k x hx => (by cases hx), sto := fun k x hx => (by cases hx), shp := fun r o ho => (by cases ho), oinj := fun r r' o o' ho => (by cases ho), winj := fun k k' x x' a b hx => (by cases hx), sinj := fun k k' x x' hx => (by cases hx), mne := fun e => (by cases e), Sh := .inr rfl, Sm := .inl rfl, Ss := fun b e => (by cases e), So := fun r o ho => (by cases ho), Sw := fun k x a hx => (by cases hx), St := fun k x hx => (by cases hx), Sp := fun r o a ho => (by cases ho), Slt := fun k hk => (by simp; omega) }
end Go.Proofs.Ytodfpclekihbhaa
