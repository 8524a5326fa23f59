/- The heap in memory: what a store into a cell, or a map, makes of it. -/
import Derived.Test.YtodfpclekihbhaaH2
namespace Go.Proofs.Ytodfpclekihbhaa
open Go.RowKit

variable {w : World} {hb : Nat} {A : HA} {H : Hp} {S : Nat → Prop}
theorem ne_ty {w : World} {b c : Nat} {cs ds : Array Value} {t u : TypeId} {fr gr : Nat × Nat} (h : w.heap[b]? = some (.cells cs t fr)) (k : w.heap[c]? = some (.cells ds u gr)) (hn : t ≠ u) : b ≠ c := fun e => by
  subst e
  rw [h] at k
  injection k with k
  injection k with _ k2
  exact hn k2
theorem ne_map {w : World} {b c : Nat} {cs : Array Value} {t : TypeId} {fr : Nat × Nat} {α : Type} {K : Int → Value} {V : α → Value} {L : List (Int × α)} (h : w.heap[b]? = some (.cells cs t fr)) (k : Mp.MapIs w c K V L) : c ≠ b := fun e => by
  subst e
  obtain ⟨es, clk, h1, _⟩ := k
  rw [h] at h1
  cases h1
theorem row_blk {w : World} {A : Option Addr} {C : Nat} {l : List Wd} (h : WordsAt w A C l) (a : Addr) (ha : A = some a) : ∃ cs, w.heap[a.block]? = some (.cells cs 42 (0, 0)) ∧ a = ⟨a.block, 0, none⟩ := by
  rcases h.2 with ⟨h1, h2⟩ | ⟨g, cap, cur, h1, h2, h3, h4, h5, h6, h7⟩
  · injection h1 with h1; rw [ha] at h1; cases h1
  · injection h1 with e1
    rw [ha] at e1
    injection e1 with e1
    subst e1
    exact ⟨cur, h3, rfl⟩
theorem HpAt.row_of (h : HpAt w hb A H S) {o : Ob} {k : Int} {x : Rw} (hx : Mp.get H.rows k = some x) (hk : o.row = k) : H.rowOf o.row = x.words := by
  unfold Hp.rowOf
  rw [hk, hx]; rfl
/-- A cell of an object is written. -/
theorem HpAt.setOb (h : HpAt w hb A H S) (r : Int) (o : Ob) (ho : Mp.get H.objs r = some o) (i : Nat) (v : Value) (f : Ob → Ob) (hc : (obC A r o (H.rowOf o.row).length).setIfInBounds i v = obC A r (f o) (H.rowOf (f o).row).length) (hr : ∀ x, (f x).refs = x.refs) :
    HpAt (w.setCell ⟨A.ob r, i, none⟩ v) hb A (H.upd r f) S := by
  have hB := h.obj r o ho
  have hm : Mut (· = A.ob r) w (w.setCell ⟨A.ob r, i, none⟩ v) := Mut.setCell w _ i v rfl
  have hg : ∀ x y, Mp.get (H.upd r f).objs x = some y → ∃ y0, Mp.get H.objs x = some y0 ∧ (x = r → y0 = o ∧ y = f o) ∧ (x ≠ r → y = y0) := fun x y hy => by
    have : Mp.get (mapAt H.objs r f) x = some y := hy
    rw [get_mapAt] at this
    by_cases e : x = r
    · subst e
      rw [if_pos rfl, ho] at this
      injection this with this
      exact ⟨o, ho, fun _ => ⟨rfl, this.symm⟩, fun h => absurd rfl h⟩
    · rw [if_neg e] at this
      exact ⟨y, this, fun h => absurd h e, fun _ => rfl⟩
  refine { blk := ?_, omap := ?_, smap := ?_, snil := h.snil, obj := ?_, row := ?_, sto := ?_, shp := ?_, oinj := ?_, winj := h.winj, sinj := h.sinj, mne := h.mne, Sh := h.Sh, Sm := h.Sm, Ss := h.Ss, So := ?_, Sw := h.Sw, St := h.St, Sp := ?_, Slt := fun k hk => Nat.lt_of_lt_of_le (h.Slt k hk) hm.size }
  · exact (hm.block _ (lt_of_heap h.blk) (ne_ty h.blk hB (by decide))).trans h.blk
  · have e1 : obAdr A (H.upd r f).objs = obAdr A H.objs := by
      unfold obAdr Hp.upd mapAt
      rw [List.map_map]
      apply List.map_congr_left
      intro p _
      simp only [Function.comp]
      split <;> rfl
    rw [e1]
    exact h.omap.of_block (hm.block _ h.omap.lt (ne_map hB h.omap))
  · exact fun b e => (h.smap b e).of_block (hm.block _ (h.smap b e).lt (ne_map hB (h.smap b e)))
  · intro x y hy
    obtain ⟨y0, h1, h2, h3⟩ := hg x y hy
    by_cases e : x = r
    · subst e
      obtain ⟨rfl, rfl⟩ := h2 rfl
      rw [heap_setCell_same w _ i _ _ v hB, hc]
      rfl
    · rw [h3 e]
      exact (hm.block _ (lt_of_heap (h.obj x y0 h1)) (fun e2 => e (h.oinj _ _ _ _ h1 ho e2))).trans (h.obj x y0 h1)
  · exact fun k x hx => own_mut2 (h.row k x hx) hm fun a ha e => by
      obtain ⟨cs, hcs, _⟩ := row_blk (h.row k x hx) a ha
      exact ne_ty hcs hB (by decide) e
  · exact fun k x hx hi => (hm.block _ (lt_of_heap (h.sto k x hx hi)) (ne_ty (h.sto k x hx hi) hB (by decide))).trans (h.sto k x hx hi)
  · intro x y hy
    obtain ⟨y0, h1, h2, h3⟩ := hg x y hy
    have e : y.refs = y0.refs := by
      by_cases e : x = r
      · obtain ⟨e1, e2⟩ := h2 e
        rw [e2, hr, e1]
      · rw [h3 e]
    rw [e]
    exact (h.shp x y0 h1).mut hm fun he a ha e2 => by
      obtain ⟨_, cs, fr, hcs⟩ := h.Sp x y0 a h1 he ha
      exact ne_ty hcs hB (by decide) e2
  · intro x x' y y' hy hy' e
    obtain ⟨y0, h1, _⟩ := hg x y hy
    obtain ⟨y1, h2, _⟩ := hg x' y' hy'
    exact h.oinj _ _ _ _ h1 h2 e
  · intro x y hy
    obtain ⟨y0, h1, _⟩ := hg x y hy
    exact h.So x y0 h1
  · intro x y a hy he ha
    obtain ⟨y0, h1, h2, h3⟩ := hg x y hy
    have e : y.refs = y0.refs := by
      by_cases e : x = r
      · obtain ⟨e1, e2⟩ := h2 e
        rw [e2, hr, e1]
      · rw [h3 e]
    rw [e] at he
    obtain ⟨g1, cs, fr, g2⟩ := h.Sp x y0 a h1 he ha
    exact ⟨g1, cs, fr, (hm.block _ (lt_of_heap g2) (ne_ty g2 hB (by decide))).trans g2⟩
/-- The count of a store is written. -/
theorem HpAt.setArr (h : HpAt w hb A H S) (k : Int) (x : Rw) (hx : Mp.get H.rows k = some x) (hi : x.isA = true) (v : Int) (f : Rw → Rw) (hf : f x = { x with arr := v }) (hw : ∀ y, (f y).words = y.words) (hA : ∀ y, (f y).isA = y.isA) :
    HpAt (w.setCell ⟨A.st k, 2, none⟩ (.int .i64 v)) hb A (H.updR k f) S := by
  have hB := h.sto k x hx hi
  have hm : Mut (· = A.st k) w (w.setCell ⟨A.st k, 2, none⟩ (.int .i64 v)) := Mut.setCell w _ 2 _ rfl
  have hg : ∀ j y, Mp.get (H.updR k f).rows j = some y → ∃ y0, Mp.get H.rows j = some y0 ∧ (j = k → y0 = x ∧ y = f x) ∧ (j ≠ k → y = y0) ∧ y.words = y0.words ∧ y.isA = y0.isA := fun j y hy => by
    have : Mp.get (mapAt H.rows k f) j = some y := hy
    rw [get_mapAt] at this
    by_cases e : j = k
    · subst e
      rw [if_pos rfl, hx] at this
      injection this with this
      exact ⟨x, hx, fun _ => ⟨rfl, this.symm⟩, fun h => absurd rfl h, by rw [← this, hw], by rw [← this, hA]⟩
    · rw [if_neg e] at this
      exact ⟨y, this, fun h => absurd h e, fun _ => rfl, rfl, rfl⟩
  have hrow : ∀ j, (H.updR k f).rowOf j = H.rowOf j := fun j => by
    show ((Mp.get (mapAt H.rows k f) j).map (·.words)).getD [] = ((Mp.get H.rows j).map (·.words)).getD []
    rw [get_mapAt]
    split
    · cases Mp.get H.rows j with
      | none => rfl
      | some y => simp [hw]
    · rfl
  refine { blk := ?_, omap := ?_, smap := ?_, snil := h.snil, obj := ?_, row := ?_, sto := ?_, shp := ?_, oinj := h.oinj, winj := ?_, sinj := ?_, mne := h.mne, Sh := h.Sh, Sm := h.Sm, Ss := h.Ss, So := h.So, Sw := ?_, St := ?_, Sp := ?_, Slt := fun k hk => Nat.lt_of_lt_of_le (h.Slt k hk) hm.size }
  · exact (hm.block _ (lt_of_heap h.blk) (ne_ty h.blk hB (by decide))).trans h.blk
  · exact h.omap.of_block (hm.block _ h.omap.lt (ne_map hB h.omap))
  · exact fun b e => (h.smap b e).of_block (hm.block _ (h.smap b e).lt (ne_map hB (h.smap b e)))
  · intro r o ho
    rw [hrow]
    exact (hm.block _ (lt_of_heap (h.obj r o ho)) (ne_ty (h.obj r o ho) hB (by decide))).trans (h.obj r o ho)
  · intro j y hy
    obtain ⟨y0, h1, h2, h3, h4, h5⟩ := hg j y hy
    rw [h4]
    exact own_mut2 (h.row j y0 h1) hm fun a ha e => by
      obtain ⟨cs, hcs, _⟩ := row_blk (h.row j y0 h1) a ha
      exact ne_ty hcs hB (by decide) e
  · intro j y hy hyi
    obtain ⟨y0, h1, h2, h3, h4, h5⟩ := hg j y hy
    by_cases e : j = k
    · subst e
      obtain ⟨rfl, rfl⟩ := h2 rfl
      rw [heap_setCell_same w _ 2 _ _ _ hB, hf]
      rfl
    · rw [h3 e] at hyi ⊢
      exact (hm.block _ (lt_of_heap (h.sto j y0 h1 hyi)) (fun e2 => e (h.sinj _ _ _ _ h1 hx hyi hi e2))).trans (h.sto j y0 h1 hyi)
  · exact fun r o ho => (h.shp r o ho).mut hm fun he a ha e2 => by
      obtain ⟨_, cs, fr, hcs⟩ := h.Sp r o a ho he ha
      exact ne_ty hcs hB (by decide) e2
  · intro j j' y y' a b hy hy' ha hb' e
    obtain ⟨y0, h1, _⟩ := hg j y hy
    obtain ⟨y1, h2, _⟩ := hg j' y' hy'
    exact h.winj _ _ _ _ a b h1 h2 ha hb' e
  · intro j j' y y' hy hy' hi1 hi2 e
    obtain ⟨y0, h1, _, _, _, g1⟩ := hg j y hy
    obtain ⟨y1, h2, _, _, _, g2⟩ := hg j' y' hy'
    exact h.sinj _ _ _ _ h1 h2 (g1 ▸ hi1) (g2 ▸ hi2) e
  · intro j y a hy ha
    obtain ⟨y0, h1, _⟩ := hg j y hy
    exact h.Sw j y0 a h1 ha
  · intro j y hy hyi
    obtain ⟨y0, h1, _, _, _, g1⟩ := hg j y hy
    exact h.St j y0 h1 (g1 ▸ hyi)
  · intro r o a ho he ha
    obtain ⟨g1, cs, fr, g2⟩ := h.Sp r o a ho he ha
    exact ⟨g1, cs, fr, (hm.block _ (lt_of_heap g2) (ne_ty g2 hB (by decide))).trans g2⟩
/-- A cell of a word is written. -/
theorem HpAt.setWd (h : HpAt w hb A H S) (k : Int) (x : Rw) (hx : Mp.get H.rows k = some x) (g i : Nat) (hA : A.wA k = some ⟨g, 0, none⟩) (v : Value) (ws : List Wd) (hl : ws.length = x.words.length) (hw : (wcs x.words).set i v = wcs ws) (f : Rw → Rw) (hf : f x = { x with words := ws }) :
    HpAt (w.setCell ⟨g, i, none⟩ v) hb A (H.updR k f) S := by
  obtain ⟨cs0, hB, _⟩ := row_blk (h.row k x hx) _ hA
  simp only at hB
  have hm : Mut (· = g) w (w.setCell ⟨g, i, none⟩ v) := Mut.setCell w _ i _ rfl
  have hg : ∀ j y, Mp.get (H.updR k f).rows j = some y → ∃ y0, Mp.get H.rows j = some y0 ∧ (j = k → y0 = x ∧ y = f x) ∧ (j ≠ k → y = y0) ∧ y.words.length = y0.words.length ∧ y.isA = y0.isA ∧ y.arr = y0.arr := fun j y hy => by
    have : Mp.get (mapAt H.rows k f) j = some y := hy
    rw [get_mapAt] at this
    by_cases e : j = k
    · subst e
      rw [if_pos rfl, hx] at this
      injection this with this
      exact ⟨x, hx, fun _ => ⟨rfl, this.symm⟩, fun h => absurd rfl h, by rw [← this, hf]; exact hl, by rw [← this, hf], by rw [← this, hf]⟩
    · rw [if_neg e] at this
      exact ⟨y, this, fun h => absurd h e, fun _ => rfl, rfl, rfl, rfl⟩
  have hrow : ∀ j, ((H.updR k f).rowOf j).length = (H.rowOf j).length := fun j => by
    show (((Mp.get (mapAt H.rows k f) j).map (·.words)).getD []).length = (((Mp.get H.rows j).map (·.words)).getD []).length
    rw [get_mapAt]
    by_cases e : j = k
    · subst e; rw [if_pos rfl, hx]; simp [hf, hl]
    · rw [if_neg e]
  refine { blk := ?_, omap := ?_, smap := ?_, snil := h.snil, obj := ?_, row := ?_, sto := ?_, shp := ?_, oinj := h.oinj, winj := ?_, sinj := ?_, mne := h.mne, Sh := h.Sh, Sm := h.Sm, Ss := h.Ss, So := h.So, Sw := ?_, St := ?_, Sp := ?_, Slt := fun k hk => Nat.lt_of_lt_of_le (h.Slt k hk) hm.size }
  · exact (hm.block _ (lt_of_heap h.blk) (ne_ty h.blk hB (by decide))).trans h.blk
  · exact h.omap.of_block (hm.block _ h.omap.lt (ne_map hB h.omap))
  · exact fun b e => (h.smap b e).of_block (hm.block _ (h.smap b e).lt (ne_map hB (h.smap b e)))
  · intro r o ho
    rw [hrow]
    exact (hm.block _ (lt_of_heap (h.obj r o ho)) (ne_ty (h.obj r o ho) hB (by decide))).trans (h.obj r o ho)
  · intro j y hy
    obtain ⟨y0, h1, h2, h3, h4, h5⟩ := hg j y hy
    by_cases e : j = k
    · subst e
      obtain ⟨rfl, rfl⟩ := h2 rfl
      rw [hf, hA]
      show World.ownsRow _ 0 42 2 (.slice _ ws.length _) ws.length (wcs ws)
      rw [hl, ← hw]
      have h6 := h.row j y0 hx
      unfold WordsAt at h6
      rw [hA] at h6
      exact own_put h6 v
    · rw [h3 e]
      exact own_mut2 (h.row j y0 h1) hm fun a ha e2 => e (h.winj _ _ _ _ _ _ h1 hx ha hA e2)
  · intro j y hy hyi
    obtain ⟨y0, h1, h2, h3, h4, h5, h6⟩ := hg j y hy
    have h7 : stC A j y = stC A j y0 := by unfold stC; rw [h4, h6]
    rw [h7]
    have hi0 : y0.isA = true := h5 ▸ hyi
    exact (hm.block _ (lt_of_heap (h.sto j y0 h1 hi0)) (ne_ty (h.sto j y0 h1 hi0) hB (by decide))).trans (h.sto j y0 h1 hi0)
  · exact fun r o ho => (h.shp r o ho).mut hm fun he a ha e2 => by
      obtain ⟨_, cs, fr, hcs⟩ := h.Sp r o a ho he ha
      exact ne_ty hcs hB (by decide) e2
  · intro j j' y y' a b hy hy' ha hb' e
    obtain ⟨y0, h1, _⟩ := hg j y hy
    obtain ⟨y1, h2, _⟩ := hg j' y' hy'
    exact h.winj _ _ _ _ a b h1 h2 ha hb' e
  · intro j j' y y' hy hy' hi1 hi2 e
    obtain ⟨y0, h1, _, _, _, g1, _⟩ := hg j y hy
    obtain ⟨y1, h2, _, _, _, g2, _⟩ := hg j' y' hy'
    exact h.sinj _ _ _ _ h1 h2 (g1 ▸ hi1) (g2 ▸ hi2) e
  · intro j y a hy ha
    obtain ⟨y0, h1, _⟩ := hg j y hy
    exact h.Sw j y0 a h1 ha
  · intro j y hy hyi
    obtain ⟨y0, h1, _, _, _, g1, _⟩ := hg j y hy
    exact h.St j y0 h1 (g1 ▸ hyi)
  · intro r o a ho he ha
    obtain ⟨g1, cs, fr, g2⟩ := h.Sp r o a ho he ha
    exact ⟨g1, cs, fr, (hm.block _ (lt_of_heap g2) (ne_ty g2 hB (by decide))).trans g2⟩
/-- A cell of the heap's struct is written. -/
theorem HpAt.setHp (h : HpAt w hb A H S) (i : Nat) (v : Value) (last : Nat) (watched : Bool) (hc : (hpC A H).setIfInBounds i v = hpC A { H with last := last, watched := watched }) (hn : A.sb = none → watched = false) :
    HpAt (w.setCell ⟨hb, i, none⟩ v) hb A { H with last := last, watched := watched } S := by
  have hB := h.blk
  have hm : Mut (· = hb) w (w.setCell ⟨hb, i, none⟩ v) := Mut.setCell w _ i v rfl
  refine { blk := ?_, omap := ?_, smap := ?_, snil := ?_, obj := ?_, row := ?_, sto := ?_, shp := ?_, oinj := h.oinj, winj := h.winj, sinj := h.sinj, mne := h.mne, Sh := h.Sh, Sm := h.Sm, Ss := h.Ss, So := h.So, Sw := h.Sw, St := h.St, Sp := ?_, Slt := fun k hk => Nat.lt_of_lt_of_le (h.Slt k hk) hm.size }
  · rw [heap_setCell_same w _ i _ _ v hB, hc]
  · exact h.omap.of_block (hm.block _ h.omap.lt (ne_map hB h.omap))
  · exact fun b e => (h.smap b e).of_block (hm.block _ (h.smap b e).lt (ne_map hB (h.smap b e)))
  · exact fun e => ⟨hn e, (h.snil e).2⟩
  · exact fun r o ho => (hm.block _ (lt_of_heap (h.obj r o ho)) (ne_ty (h.obj r o ho) hB (by decide))).trans (h.obj r o ho)
  · exact fun k x hx => own_mut2 (h.row k x hx) hm fun a ha e => by
      obtain ⟨cs, hcs, _⟩ := row_blk (h.row k x hx) a ha
      exact ne_ty hcs hB (by decide) e
  · exact fun k x hx hi => (hm.block _ (lt_of_heap (h.sto k x hx hi)) (ne_ty (h.sto k x hx hi) hB (by decide))).trans (h.sto k x hx hi)
  · exact fun r o ho => (h.shp r o ho).mut hm fun he a ha e2 => by
      obtain ⟨_, cs, fr, hcs⟩ := h.Sp r o a ho he ha
      exact ne_ty hcs hB (by decide) e2
  · intro r o a ho he ha
    obtain ⟨g1, cs, fr, g2⟩ := h.Sp r o a ho he ha
    exact ⟨g1, cs, fr, (hm.block _ (lt_of_heap g2) (ne_ty g2 hB (by decide))).trans g2⟩
theorem not_map_of_cells {w : World} {b c : Nat} {cs : Array Value} {t : TypeId} {fr : Nat × Nat} {es : Array MapEntry} {clk : Nat} (h : w.heap[b]? = some (.cells cs t fr)) (k : w.heap[c]? = some (.map es clk)) : b ≠ c := fun e => by
  subst e
  rw [h] at k
  cases k
/-- The map of what was seen is another one. -/
theorem HpAt.seenMap {w' : World} (h : HpAt w hb A H S) (b : Nat) (hb' : A.sb = some b) (L : List (Int × Bool)) (hm : Mut (· = b) w w') (hL : Mp.MapIs w' b kV Value.bool L) : HpAt w' hb A { H with seen := L } S := by
  obtain ⟨es, clk, hB, _⟩ := h.smap b hb'
  refine { blk := ?_, omap := ?_, smap := ?_, snil := ?_, obj := ?_, row := ?_, sto := ?_, shp := ?_, oinj := h.oinj, winj := h.winj, sinj := h.sinj, mne := h.mne, Sh := h.Sh, Sm := h.Sm, Ss := h.Ss, So := h.So, Sw := h.Sw, St := h.St, Sp := ?_, Slt := fun k hk => Nat.lt_of_lt_of_le (h.Slt k hk) hm.size }
  · exact (hm.block _ (lt_of_heap h.blk) (not_map_of_cells h.blk hB)).trans h.blk
  · exact h.omap.of_block (hm.block _ h.omap.lt (fun e => h.mne (by rw [hb', e])))
  · intro c hc
    rw [hb'] at hc
    injection hc with hc
    subst hc
    exact hL
  · intro e; rw [hb'] at e; cases e
  · exact fun r o ho => (hm.block _ (lt_of_heap (h.obj r o ho)) (not_map_of_cells (h.obj r o ho) hB)).trans (h.obj r o ho)
  · exact fun k x hx => own_mut2 (h.row k x hx) hm fun a ha e => by
      obtain ⟨cs, hcs, _⟩ := row_blk (h.row k x hx) a ha
      exact not_map_of_cells hcs hB e
  · exact fun k x hx hi => (hm.block _ (lt_of_heap (h.sto k x hx hi)) (not_map_of_cells (h.sto k x hx hi) hB)).trans (h.sto k x hx hi)
  · exact fun r o ho => (h.shp r o ho).mut hm fun he a ha e2 => by
      obtain ⟨_, cs, fr, hcs⟩ := h.Sp r o a ho he ha
      exact not_map_of_cells hcs hB e2
  · intro r o a ho he ha
    obtain ⟨g1, cs, fr, g2⟩ := h.Sp r o a ho he ha
    exact ⟨g1, cs, fr, (hm.block _ (lt_of_heap g2) (not_map_of_cells g2 hB)).trans g2⟩
/-- An object is deleted, and some rows are forgotten. -/
theorem HpAt.delOb {w' : World} (h : HpAt w hb A H S) (r : Int) (hm : Mut (· = A.mb) w w') (hL : Mp.MapIs w' A.mb kV ptrV (Mp.del (obAdr A H.objs) r)) : HpAt w' hb A { H with objs := Mp.del H.objs r } S := by
  obtain ⟨es, clk, hB, _⟩ := h.omap
  have hg : ∀ x o, Mp.get (Mp.del H.objs r) x = some o → Mp.get H.objs x = some o := fun x o ho => by
    rw [Mp.get_del] at ho
    split at ho
    · cases ho
    · exact ho
  have e1 : obAdr A (Mp.del H.objs r) = Mp.del (obAdr A H.objs) r := by
    unfold obAdr Mp.del
    rw [List.filter_map]
    rfl
  refine { blk := ?_, omap := by rw [e1]; exact hL, smap := ?_, snil := h.snil, obj := ?_, row := ?_, sto := ?_, shp := ?_, oinj := fun x x' o o' ho ho' e => h.oinj x x' o o' (hg _ _ ho) (hg _ _ ho') e, winj := h.winj, sinj := h.sinj, mne := h.mne, Sh := h.Sh, Sm := h.Sm, Ss := h.Ss, So := fun x o ho => h.So x o (hg _ _ ho), Sw := h.Sw, St := h.St, Sp := ?_, Slt := fun k hk => Nat.lt_of_lt_of_le (h.Slt k hk) hm.size }
  · exact (hm.block _ (lt_of_heap h.blk) (not_map_of_cells h.blk hB)).trans h.blk
  · exact fun b e => (h.smap b e).of_block (hm.block _ (h.smap b e).lt (fun e2 => h.mne (by rw [e, e2])))
  · exact fun x o ho => (hm.block _ (lt_of_heap (h.obj x o (hg _ _ ho))) (not_map_of_cells (h.obj x o (hg _ _ ho)) hB)).trans (h.obj x o (hg _ _ ho))
  · exact fun k x hx => own_mut2 (h.row k x hx) hm fun a ha e => by
      obtain ⟨cs, hcs, _⟩ := row_blk (h.row k x hx) a ha
      exact not_map_of_cells hcs hB e
  · exact fun k x hx hi => (hm.block _ (lt_of_heap (h.sto k x hx hi)) (not_map_of_cells (h.sto k x hx hi) hB)).trans (h.sto k x hx hi)
  · exact fun x o ho => (h.shp x o (hg _ _ ho)).mut hm fun he a ha e2 => by
      obtain ⟨_, cs, fr, hcs⟩ := h.Sp x o a (hg _ _ ho) he ha
      exact not_map_of_cells hcs hB e2
  · intro x o a ho he ha
    obtain ⟨g1, cs, fr, g2⟩ := h.Sp x o a (hg _ _ ho) he ha
    exact ⟨g1, cs, fr, (hm.block _ (lt_of_heap g2) (not_map_of_cells g2 hB)).trans g2⟩
/-- A row that no object has is forgotten. -/
theorem HpAt.delRow (h : HpAt w hb A H S) (k : Int) (hk : ∀ r o, Mp.get H.objs r = some o → o.row ≠ k) : HpAt w hb A { H with rows := Mp.del H.rows k } S := by
  have hg : ∀ j x, Mp.get (Mp.del H.rows k) j = some x → Mp.get H.rows j = some x := fun j x hx => by
    rw [Mp.get_del] at hx
    split at hx
    · cases hx
    · exact hx
  refine { h with blk := h.blk, obj := ?_, row := fun j x hx => h.row j x (hg _ _ hx), sto := fun j x hx hi => h.sto j x (hg _ _ hx) hi, winj := fun j j' x x' a b hx hx' => h.winj j j' x x' a b (hg _ _ hx) (hg _ _ hx'), sinj := fun j j' x x' hx hx' => h.sinj j j' x x' (hg _ _ hx) (hg _ _ hx'), Sw := fun j x a hx => h.Sw j x a (hg _ _ hx), St := fun j x hx => h.St j x (hg _ _ hx) }
  intro r o ho
  have : ({ H with rows := Mp.del H.rows k } : Hp).rowOf o.row = H.rowOf o.row := by
    show ((Mp.get (Mp.del H.rows k) o.row).map (·.words)).getD [] = _
    rw [Mp.get_del, if_neg (hk r o ho)]
    rfl
  rw [this]
  exact h.obj r o ho
end Go.Proofs.Ytodfpclekihbhaa
