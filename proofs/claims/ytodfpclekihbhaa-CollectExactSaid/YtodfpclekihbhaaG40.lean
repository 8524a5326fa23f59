/- Texts on the heap, merged: E1, E2, E3, E4. -/
import Derived.Test.YtodfpclekihbhaaG26
import Derived.Test.YtodfpclekihbhaaG38
import Derived.Maps.AppendAt
/- What can be reached, in plain Lean; release and Clear keep it. -/
namespace Go.Proofs.Ytodfpclekihbhaa

/-- What can be reached. -/
inductive Reach (H : Hp) : Int → Prop
  | held {r : Int} : 0 < holdsH H r → Reach H r
  | step {r x : Int} : Reach H r → x ∈ refsH H r → Reach H x
theorem Reach.ex {H : Hp} {N : Nat} (ok : Ok H N) {x : Int} (h : Reach H x) : Mp.get H.objs x ≠ none := by
  cases h with
  | held h => exact holds_some h
  | step _ h => exact refs_exist ok h
/-- G has the objects of B as H has them, but for their counts. -/
def KeepB (B : Int → Prop) (H G : Hp) : Prop := ∀ b o, B b → Mp.get H.objs b = some o → (∃ c, Mp.get G.objs b = some { o with rc := c }) ∧ G.rowOf o.row = H.rowOf o.row
theorem KeepB.refl (B : Int → Prop) (H : Hp) : KeepB B H H := fun b o _ ho => ⟨⟨o.rc, ho⟩, rfl⟩
theorem KeepB.trans {B : Int → Prop} {H G F : Hp} (h : KeepB B H G) (k : KeepB B G F) : KeepB B H F := fun b o hb ho => by
  obtain ⟨⟨c, h1⟩, h2⟩ := h b o hb ho
  obtain ⟨⟨d, k1⟩, k2⟩ := k b _ hb h1
  exact ⟨⟨d, k1⟩, k2.trans h2⟩
theorem KeepB.of_eq {B : Int → Prop} {H G : Hp} (h1 : G.objs = H.objs) (h2 : G.rows = H.rows) : KeepB B H G := fun b o _ ho => ⟨⟨o.rc, by rw [h1]; exact ho⟩, by unfold Hp.rowOf; rw [h2]⟩
/-- Each of B is held, or a target of one of B. -/
def Closed (B : Int → Prop) (H : Hp) : Prop := ∀ b, B b → ∃ o, Mp.get H.objs b = some o ∧ (0 < o.holds ∨ ∃ b' o', B b' ∧ Mp.get H.objs b' = some o' ∧ b ∈ targetsH H o')
theorem KeepB.closed {B : Int → Prop} {H G : Hp} (k : KeepB B H G) (h : Closed B H) : Closed B G := fun b hb => by
  obtain ⟨o, ho, h1⟩ := h b hb
  obtain ⟨⟨c, g1⟩, _⟩ := k b o hb ho
  refine ⟨_, g1, h1.imp id ?_⟩
  rintro ⟨b', o', hb', ho', hm⟩
  obtain ⟨⟨c', g2⟩, g3⟩ := k b' o' hb' ho'
  refine ⟨b', _, hb', g2, ?_⟩
  unfold targetsH at hm ⊢
  rw [show ({ o' with rc := c' } : Ob).row = o'.row from rfl, g3]
  exact hm
theorem occ_target {H : Hp} {st : List Int} (hi : Inv H st) {b' : Int} {o' : Ob} (ho' : Mp.get H.objs b' = some o') {x : Int} (hx : x ∈ targetsH H o') : 1 ≤ inH H x := by
  unfold targetsH at hx
  rcases List.mem_append.1 hx with h | h
  · obtain ⟨y, hy, _⟩ := hi.row b' o' ho'
    refine occ_row hy ?_
    unfold Hp.rowOf at h
    rw [hy] at h
    exact h
  · exact occ_tail ho' h
theorem Closed.rc {B : Int → Prop} {H : Hp} {r : Int} {st : List Int} (h : Closed B H) (hi : Inv H (r :: st)) {o : Ob} (ho : Mp.get H.objs r = some o) (hb : B r) : o.holds + (o.rc - 1) ≠ 0 := by
  obtain ⟨o1, ho1, h1⟩ := h r hb
  rw [ho] at ho1
  injection ho1 with ho1
  subst ho1
  have hc := hi.cnt r o ho
  rw [List.count_cons_self] at hc
  have hp := (hi.pos r o ho).1
  rcases h1 with h1 | ⟨b', o', _, ho', hm⟩
  · omega
  · have := occ_target hi ho' hm
    omega
theorem row_two {H : Hp} {st : List Int} (hi : Inv H st) {r b : Int} {o p : Ob} (ho : Mp.get H.objs r = some o) (hp : Mp.get H.objs b = some p) (hne : b ≠ r) (hrow : p.row = o.row) : ∃ x, Mp.get H.rows o.row = some x ∧ x.isA = true ∧ 1 < x.arr := by
  obtain ⟨x, hx, hk, _⟩ := hi.row r o ho
  obtain ⟨ha, h1, hA⟩ := hi.arr _ x hx
  have e1 := arrC_del hi.ndO ho o.row
  rw [if_pos rfl] at e1
  have hpd : Mp.get (Mp.del H.objs r) b = some p := by rw [Mp.get_del, if_neg hne]; exact hp
  have e2 := arrC_del (Mp.nodup_del hi.ndO r) hpd o.row
  rw [if_pos hrow] at e2
  refine ⟨x, hx, ?_, by omega⟩
  cases hq : x.isA with
  | true => rfl
  | false => have := hA hq; omega
theorem rowOf_mapAt_same (L : List (Int × Rw)) (k : Int) (f : Rw → Rw) (hf : ∀ x : Rw, (f x).words = x.words) (j : Int) : ((Mp.get (mapAt L k f) j).map (fun x : Rw => x.words)).getD [] = ((Mp.get L j).map (fun x : Rw => x.words)).getD [] := by
  rw [get_mapAt]
  by_cases h : j = k
  · rw [if_pos h]
    cases Mp.get L j with
    | none => rfl
    | some x => exact hf x
  · rw [if_neg h]
theorem KeepB.upd {B : Int → Prop} (H : Hp) (r : Int) (f : Ob → Ob) (hf : ∀ o, ∃ c, f o = { o with rc := c }) : KeepB B H (H.upd r f) := fun b o _ ho => by
  refine ⟨?_, rfl⟩
  rw [get_upd]
  by_cases h : b = r
  · rw [if_pos h, ho]
    obtain ⟨c, e⟩ := hf o
    exact ⟨c, congrArg some e⟩
  · rw [if_neg h]; exact ⟨o.rc, ho⟩
theorem KeepB.free {B : Int → Prop} {H : Hp} {r : Int} {st : List Int} (hi : Inv H (r :: st)) {o : Ob} (ho : Mp.get H.objs r = some o) (hr : ¬ B r) : KeepB B H (freeH (H.upd r Ob.dec) r o).1 := fun b p hb hp => by
  have hne : b ≠ r := fun e => hr (e ▸ hb)
  have h1 : (freeH (H.upd r Ob.dec) r o).1.objs = Mp.del (H.upd r Ob.dec).objs r := freeH_objs _ _ _
  refine ⟨⟨p.rc, ?_⟩, ?_⟩
  · rw [h1, Mp.get_del, if_neg hne, get_upd, if_neg hne]; exact hp
  · show ((Mp.get _ p.row).map (fun x : Rw => x.words)).getD [] = ((Mp.get H.rows p.row).map (fun x : Rw => x.words)).getD []
    unfold freeH
    have e : (H.upd r Ob.dec).rows = H.rows := rfl
    rw [e]
    split
    · rfl
    · rename_i rw' hrw
      split
      · exact rowOf_mapAt_same H.rows o.row Rw.dec (fun _ => rfl) p.row
      · rename_i hn
        show ((Mp.get (Mp.del H.rows o.row) p.row).map (fun x : Rw => x.words)).getD [] = _
        rw [Mp.get_del]
        by_cases hrow : p.row = o.row
        · obtain ⟨x, hx, hA, h2⟩ := row_two hi ho hp hne hrow
          rw [hrw] at hx
          injection hx with hx
          subst hx
          exact absurd ⟨hA, by omega⟩ hn
        · rw [if_neg hrow]
/-- Release keeps what is held, and what that refers to. -/
theorem KeepB.rel {B : Int → Prop} {H : Hp} {st : List Int} (h : Inv H st) (hc : Closed B H) : KeepB B H (relH H st) := by
  generalize hm : muH H + st.length = m
  induction m using Nat.strongRecOn generalizing H st with
  | ind m ih =>
    cases st with
    | nil => rw [relH_nil]; exact KeepB.refl B H
    | cons r st =>
      by_cases h0 : r = 0
      · subst h0
        rw [relH_zero]
        exact ih _ (by simp at hm; omega) h.zero hc rfl
      · obtain ⟨o, ho⟩ := h.some_of h0
        have hp := h.pos r o ho
        by_cases hcn : o.holds + (o.rc - 1) = 0
        · rw [relH_free st h0 ho hcn]
          have hr : ¬ B r := fun hb => hc.rc h ho hb hcn
          have k1 := KeepB.free h ho hr
          refine k1.trans (ih _ ?_ (h.free ho hcn) (k1.closed hc) rfl)
          have h1 : Mp.get (H.upd r Ob.dec).objs r = some o.dec := by rw [get_upd, if_pos rfl, ho]; rfl
          have h2 := mu_free _ r o _ h1
          rw [mu_upd] at h2
          simp at hm ⊢
          omega
        · rw [relH_keep st h0 ho hcn]
          have k1 : KeepB B H (H.upd r Ob.dec) := KeepB.upd H r Ob.dec fun o => ⟨o.rc - 1, rfl⟩
          refine k1.trans (ih _ ?_ (h.dec ho (by omega)) (k1.closed hc) rfl)
          rw [mu_upd]
          simp at hm
          omega
/-- Clear keeps what does not share the row. -/
theorem KeepB.clear {B : Int → Prop} {H : Hp} {N : Nat} (ok : Ok H N) (hc : Closed B H) {r : Int} {o : Ob} (ho : Mp.get H.objs r = some o) (hr : ¬ B r) (hrow : ∀ b p, B b → Mp.get H.objs b = some p → p.row ≠ o.row) : KeepB B H (clearH H r).1 := by
  have hcut := ok.inv.cut ho
  have hc2 : Inv (seeAll ((H.updR o.row cutRow).upd r Ob.cut) (targetsH H o)) (targetsH H o).reverse := hcut.same (seeAll_objs _ _) (seeAll_rows _ _) (seeAll_last _ _)
  have k1 : KeepB B H (seeAll ((H.updR o.row cutRow).upd r Ob.cut) (targetsH H o)) := fun b p hb hp => by
    have hne : b ≠ r := fun e => hr (e ▸ hb)
    refine ⟨⟨p.rc, ?_⟩, ?_⟩
    · rw [seeAll_objs, get_upd, if_neg hne]; exact hp
    · unfold Hp.rowOf
      rw [seeAll_rows]
      show ((Mp.get (mapAt H.rows o.row cutRow) p.row).map (fun x : Rw => x.words)).getD [] = _
      rw [get_mapAt, if_neg (hrow b p hb hp)]
  unfold clearH
  rw [ho]
  exact k1.trans (KeepB.rel hc2 (k1.closed hc))
theorem KeepB.refs {B : Int → Prop} {H G : Hp} (k : KeepB B H G) {b : Int} (hb : B b) (hex : Mp.get H.objs b ≠ none) : refsH G b = refsH H b ∧ holdsH G b = holdsH H b ∧ Mp.get G.objs b ≠ none ∧ kindH G b = kindH H b := by
  cases ho : Mp.get H.objs b with
  | none => exact absurd ho hex
  | some o =>
    obtain ⟨⟨c, h1⟩, h2⟩ := k b o hb ho
    unfold refsH holdsH kindH
    rw [ho, h1]
    refine ⟨?_, rfl, by simp, rfl⟩
    show targetsH G _ = targetsH H o
    unfold targetsH
    rw [show ({ o with rc := c } : Ob).row = o.row from rfl, h2]
    rfl
theorem Reach.closed {H : Hp} {N : Nat} (ok : Ok H N) : Closed (Reach H) H := fun b hb => by
  cases ho : Mp.get H.objs b with
  | none => exact absurd ho (hb.ex ok)
  | some o =>
    refine ⟨o, rfl, ?_⟩
    cases hb with
    | held h => unfold holdsH at h; rw [ho] at h; exact .inl h
    | step h hx =>
      rename_i r
      cases hr : Mp.get H.objs r with
      | none => unfold refsH at hx; rw [hr] at hx; cases hx
      | some p => exact .inr ⟨r, p, h, hr, by unfold refsH at hx; rw [hr] at hx; exact hx⟩
end Go.Proofs.Ytodfpclekihbhaa

/- A round of the collector in plain Lean: marking. -/
namespace Go.Proofs.Ytodfpclekihbhaa

theorem colorC_put (C : List (Int × Int)) (r v x : Int) : colorC (Mp.put C r v) x = if x = r then v else colorC C x := by
  unfold colorC
  rw [Mp.get_put]
  split <;> rfl
theorem colorC_shade1 (C : List (Int × Int)) (r x : Int) : colorC (shade1 C r) x = if colorC C x = 1 ∧ x = r then 2 else colorC C x := by
  unfold shade1
  by_cases h : colorC C r = 1
  · rw [if_pos h, colorC_put]
    by_cases e : x = r
    · subst e; rw [if_pos rfl, if_pos ⟨h, rfl⟩]
    · rw [if_neg e, if_neg (fun q => e q.2)]
  · rw [if_neg h]
    by_cases e : x = r
    · subst e; rw [if_neg (fun q => h q.1)]
    · rw [if_neg (fun q => e q.2)]
theorem colorC_shade (l : List Int) : ∀ (C : List (Int × Int)) (x : Int), colorC (shadeC C l) x = if colorC C x = 1 ∧ x ∈ l then 2 else colorC C x := by
  induction l with
  | nil => intro C x; rw [if_neg (fun q => by cases q.2)]; rfl
  | cons y l ih =>
    intro C x
    show colorC (shadeC (shade1 C y) l) x = _
    rw [ih, colorC_shade1]
    by_cases h2 : x = y
    · subst h2
      by_cases h1 : colorC C x = 1 <;> by_cases h3 : x ∈ l <;> simp [h1, h3]
    · by_cases h1 : colorC C x = 1 <;> by_cases h3 : x ∈ l <;> simp [h1, h2, h3]
theorem colorC_grey (H : Hp) (l : List Int) : ∀ (C : List (Int × Int)) (x : Int), colorC (l.foldl (grey1 H) C) x = if x ∈ l ∧ 0 < holdsH H x then 2 else colorC C x := by
  induction l with
  | nil => intro C x; rw [if_neg (fun q => by cases q.1)]; rfl
  | cons y l ih =>
    intro C x
    show colorC (l.foldl (grey1 H) (grey1 H C y)) x = _
    rw [ih]
    have e : colorC (grey1 H C y) x = if x = y ∧ 0 < holdsH H x then 2 else colorC C x := by
      unfold grey1
      by_cases h : 0 < holdsH H y
      · rw [if_pos h, colorC_put]
        by_cases e : x = y
        · subst e; rw [if_pos rfl, if_pos ⟨rfl, h⟩]
        · rw [if_neg e, if_neg (fun q => e q.1)]
      · rw [if_neg h]
        by_cases e : x = y
        · subst e; rw [if_neg (fun q => h q.2)]
        · rw [if_neg (fun q => e q.1)]
    rw [e]
    by_cases h2 : x = y
    · subst h2
      by_cases h0 : 0 < holdsH H x <;> by_cases h1 : x ∈ l <;> simp [h0, h1]
    · by_cases h0 : 0 < holdsH H x <;> by_cases h1 : x ∈ l <;> simp [h0, h1, h2]
open Classical in
noncomputable def reachB (H : Hp) (r : Int) : Bool := decide (Reach H r)
theorem reachB_iff {H : Hp} {r : Int} : reachB H r = true ↔ Reach H r := by simp [reachB]
theorem reachB_not {H : Hp} {r : Int} : reachB H r = false ↔ ¬ Reach H r := by simp [reachB]
/-- What can be reached, in order; what cannot. -/
noncomputable def reachL (H : Hp) : List Int := (allH H).filter (reachB H)
noncomputable def lostL (H : Hp) : List Int := (allH H).filter fun r => !reachB H r
theorem mem_reachL {H : Hp} {N : Nat} (ok : Ok H N) {x : Int} : x ∈ reachL H ↔ Reach H x := by
  unfold reachL
  rw [List.mem_filter, mem_all, reachB_iff]
  exact ⟨fun h => h.2, fun h => ⟨h.ex ok, h⟩⟩
theorem mem_lostL {H : Hp} {x : Int} : x ∈ lostL H ↔ Mp.get H.objs x ≠ none ∧ ¬ Reach H x := by
  unfold lostL
  rw [List.mem_filter, mem_all, Bool.not_eq_true', reachB_not]
theorem reachL_nodup {H : Hp} {N : Nat} (ok : Ok H N) : (reachL H).Nodup := (all_nodup ok.inv).filter _
theorem filter_two {α : Type} (l : List α) (p : α → Bool) : (l.filter p).length + (l.filter fun x => !p x).length = l.length := by
  induction l with
  | nil => rfl
  | cons x l ih =>
    rw [List.filter_cons, List.filter_cons]
    cases p x <;> simp <;> omega
theorem reach_lost (H : Hp) : (reachL H).length + (lostL H).length = (allH H).length := filter_two _ _
/-- While it marks, without other calls. -/
structure MkI (H0 H : Hp) (c : Cl) (N : Nat) : Prop where
  ok : Ok H N
  ob : H.objs = H0.objs
  rws : H.rows = H0.rows
  seen : H.seen = []
  ph : c.phase = 1
  ls : c.list = []
  cl : ∀ x, colorC c.colors x = 1 ∨ colorC c.colors x = 2 ∨ colorC c.colors x = 3
  rch : ∀ x, colorC c.colors x ≠ 1 → Reach H0 x
  held : ∀ x, 0 < holdsH H0 x → colorC c.colors x ≠ 1
  blk : ∀ x, colorC c.colors x = 3 → ∀ y ∈ refsH H0 x, colorC c.colors y ≠ 1
noncomputable def notB (H : Hp) (C : List (Int × Int)) : Nat := ((reachL H).filter fun r => decide (colorC C r ≠ 3)).length
theorem len_filter_one {l : List Int} (hn : l.Nodup) {r : Int} (hr : r ∈ l) {p p' : Int → Bool} (hp : p r = true) (h : ∀ x, p' x = (p x && decide (x ≠ r))) : (l.filter p').length + 1 = (l.filter p).length := by
  induction l with
  | nil => cases hr
  | cons y l ih =>
    rw [List.nodup_cons] at hn
    by_cases e : y = r
    · subst e
      have h1 : p' y = false := by rw [h]; simp
      have h2 : l.filter p' = l.filter p := List.filter_congr fun x hx => by
        rw [h]
        have : x ≠ y := fun e => hn.1 (e ▸ hx)
        simp [this]
      rw [List.filter_cons, List.filter_cons, h1, hp, h2]
      simp
    · have hr2 : r ∈ l := (List.mem_cons.1 hr).resolve_left (fun e2 => e e2.symm)
      have := ih hn.2 hr2
      rw [List.filter_cons, List.filter_cons, h y]
      have e2 : decide (y ≠ r) = true := decide_eq_true e
      rw [e2, Bool.and_true]
      cases p y <;> simp <;> omega
theorem keysNilL : keysS ([] : List (Int × Bool)) = [] := by unfold keysS; simp
theorem seenNilL {H : Hp} (h : H.seen = []) : (seenH H).2 = [] := by
  unfold seenH
  rw [h, keysNilL]
  rfl
/-- A unit of marking. -/
theorem MkI.unit {H0 H : Hp} {c : Cl} {N : Nat} (ok0 : Ok H0 N) (h : MkI H0 H c N) :
    (notB H0 c.colors = 0 → unitM H c = (watchH (seenH H).1 false, { c with phase := 2, swept := sweptL (lostL H0), list := lostL H0 })) ∧
    (∀ k, notB H0 c.colors = k + 1 → MkI H0 (unitM H c).1 (unitM H c).2 N ∧ notB H0 (unitM H c).2.colors = k) := by
  have eall : allH H = allH H0 := by unfold allH; rw [h.ob]
  have hnb0 : (∀ x, Reach H0 x → colorC c.colors x = 3) → notB H0 c.colors = 0 := fun hb => by
    unfold notB
    rw [List.length_eq_zero_iff, List.filter_eq_nil_iff]
    intro x hx
    have := hb x ((mem_reachL ok0).1 hx)
    simp [this]
  have eu : unitM H c = markM H c := by unfold unitM; rw [if_pos h.ph]
  rw [eu]
  unfold markM
  simp only
  rw [seenNilL h.seen, show shadeC c.colors [] = c.colors from rfl, eall]
  cases hf : (allH H0).find? fun r => decide (colorC c.colors r = 2) with
  | none =>
    have hng : ∀ x, Mp.get H0.objs x ≠ none → colorC c.colors x ≠ 2 := fun x hx e => by
      have := List.find?_eq_none.1 hf x ((mem_all H0 x).2 hx)
      simp [e] at this
    have hbl : ∀ x, Reach H0 x → colorC c.colors x = 3 := fun x hx => by
      induction hx with
      | held h0 =>
        rename_i r
        have h1 := h.held r h0
        have h2 := hng r (holds_some h0)
        rcases h.cl r with h3 | h3 | h3
        · exact absurd h3 h1
        · exact absurd h3 h2
        · exact h3
      | step _ hm ih =>
        rename_i r x _
        have h1 := h.blk r ih x hm
        have h2 := hng x (refs_exist ok0 hm)
        rcases h.cl x with h3 | h3 | h3
        · exact absurd h3 h1
        · exact absurd h3 h2
        · exact h3
    have hw : whiteL c.colors (allH H0) = lostL H0 := by
      unfold whiteL lostL
      apply List.filter_congr
      intro x _
      by_cases hx : Reach H0 x
      · rw [decide_eq_false (by rw [hbl x hx]; decide), reachB_iff.2 hx]
        rfl
      · have : colorC c.colors x = 1 := Classical.byContradiction fun e => hx (h.rch x e)
        rw [decide_eq_true this, reachB_not.2 hx]
        rfl
    refine ⟨fun _ => ?_, fun k hk => ?_⟩
    · simp only
      rw [hw, h.ls, List.nil_append]
    · rw [hnb0 hbl] at hk
      omega
  | some r =>
    have h2 : colorC c.colors r = 2 := by have := List.find?_some hf; simpa using this
    have hr : Reach H0 r := h.rch r (by rw [h2]; decide)
    have er : refsH H r = refsH H0 r := by unfold refsH targetsH Hp.rowOf; rw [h.ob, h.rws]
    have hc : ∀ x, colorC (shadeC (Mp.put c.colors r 3) (refsH H0 r)) x = if x = r then 3 else if colorC c.colors x = 1 ∧ x ∈ refsH H0 r then 2 else colorC c.colors x := fun x => by
      rw [colorC_shade, colorC_put]
      by_cases e : x = r
      · rw [if_pos e, if_pos e]
        rw [if_neg (fun q => by have := q.1; omega)]
      · rw [if_neg e, if_neg e]
    have hn : notB H0 (shadeC (Mp.put c.colors r 3) (refsH H0 r)) + 1 = notB H0 c.colors := by
      unfold notB
      refine len_filter_one (reachL_nodup ok0) ((mem_reachL ok0).2 hr) (by simp [h2]) fun x => ?_
      rw [hc]
      by_cases e : x = r
      · rw [if_pos e]; simp [e]
      · rw [if_neg e]
        by_cases q : colorC c.colors x = 1 ∧ x ∈ refsH H0 r
        · rw [if_pos q, q.1]; simp [e]
        · rw [if_neg q]; simp [e]
    refine ⟨fun hk => by omega, fun k hk => ⟨?_, ?_⟩⟩
    · simp only
      rw [er]
      refine ⟨h.ok.seenOp, h.ob, h.rws, rfl, h.ph, h.ls, fun x => ?_, fun x hx => ?_, fun x hx => ?_, fun x hx y hy => ?_⟩
      · show colorC (shadeC (Mp.put c.colors r 3) (refsH H0 r)) x = 1 ∨ _
        rw [hc]
        split
        · exact .inr (.inr rfl)
        · split
          · exact .inr (.inl rfl)
          · exact h.cl x
      · rw [show ({ c with colors := shadeC (Mp.put c.colors r 3) (refsH H0 r) } : Cl).colors = _ from rfl, hc] at hx
        by_cases e : x = r
        · rw [e]; exact hr
        · rw [if_neg e] at hx
          by_cases q : colorC c.colors x = 1 ∧ x ∈ refsH H0 r
          · exact hr.step q.2
          · rw [if_neg q] at hx; exact h.rch x hx
      · rw [show ({ c with colors := shadeC (Mp.put c.colors r 3) (refsH H0 r) } : Cl).colors = _ from rfl, hc]
        have := h.held x hx
        split
        · decide
        · split
          · decide
          · exact this
      · rw [show ({ c with colors := shadeC (Mp.put c.colors r 3) (refsH H0 r) } : Cl).colors = _ from rfl, hc] at hx ⊢
        have key : colorC c.colors y ≠ 1 ∨ (x = r) := by
          by_cases e : x = r
          · exact .inr e
          · rw [if_neg e] at hx
            by_cases q : colorC c.colors x = 1 ∧ x ∈ refsH H0 r
            · rw [if_pos q] at hx; omega
            · rw [if_neg q] at hx; exact .inl (h.blk x hx y hy)
        by_cases e : y = r
        · rw [if_pos e]; decide
        · rw [if_neg e]
          by_cases q : colorC c.colors y = 1 ∧ y ∈ refsH H0 r
          · rw [if_pos q]; decide
          · rw [if_neg q]
            rcases key with k1 | k1
            · exact k1
            · exact fun e2 => q ⟨e2, by rw [← k1]; exact hy⟩
    · simp only
      rw [er]
      omega
theorem stepsM_go {H : Hp} {c : Cl} (n : Nat) (h : (unitM H c).2.phase ≠ 0) : stepsM (n + 1) H c = stepsM n (unitM H c).1 (unitM H c).2 := by
  rw [stepsM, if_neg h]
/-- All of marking. -/
theorem MkI.all {H0 : Hp} {N : Nat} (ok0 : Ok H0 N) (m : Nat) : ∀ (k : Nat) (H : Hp) (c : Cl), MkI H0 H c N → notB H0 c.colors = k →
    ∃ H' c', stepsM (k + 1 + m) H c = stepsM m H' c' ∧ Ok H' N ∧ H'.objs = H0.objs ∧ H'.rows = H0.rows ∧ H'.last = H.last ∧ c'.phase = 2 ∧ c'.swept = sweptL (lostL H0) ∧ c'.list = lostL H0
  | 0, H, c, h, hk => by
    have e := (h.unit ok0).1 hk
    have hne : (unitM H c).2.phase ≠ 0 := by rw [e]; simp
    exact ⟨watchH (seenH H).1 false, { c with phase := 2, swept := sweptL (lostL H0), list := lostL H0 }, by rw [show 0 + 1 + m = m + 1 by omega, stepsM_go m hne, e], h.ok.seenOp.watch false, h.ob, h.rws, rfl, rfl, rfl, rfl⟩
  | k + 1, H, c, h, hk => by
    obtain ⟨h1, h2⟩ := (h.unit ok0).2 k hk
    have hne : (unitM H c).2.phase ≠ 0 := by rw [h1.ph]; decide
    obtain ⟨H', c', q1, q2, q3, q4, q5, q6⟩ := MkI.all ok0 m k _ _ h1 h2
    have el : (unitM H c).1.last = H.last := by
      unfold unitM
      rw [if_pos h.ph]
      rcases mark_heap H c with e | e <;> rw [e] <;> rfl
    exact ⟨H', c', by rw [show k + 1 + 1 + m = (k + 1 + m) + 1 by omega, stepsM_go _ hne, q1], q2, q3, q4, q5.trans el, q6⟩
end Go.Proofs.Ytodfpclekihbhaa

/- A round of the collector in plain Lean: sweeping; what is left. -/
namespace Go.Proofs.Ytodfpclekihbhaa

/-- Who refers to an object that is not held. -/
theorem referred {H : Hp} {N : Nat} (ok : Ok H N) {r : Int} (hr : Mp.get H.objs r ≠ none) (hh : ¬ 0 < holdsH H r) : ∃ y, Mp.get H.objs y ≠ none ∧ r ∈ refsH H y := by
  cases ho : Mp.get H.objs r with
  | none => exact absurd ho hr
  | some o =>
    have h1 := ok.inv.pos r o ho
    have h2 : ¬ 0 < o.holds := by unfold holdsH at hh; rw [ho] at hh; exact hh
    have h3 := ok.inv.cnt r o ho
    rw [List.count_nil] at h3
    have h4 : 1 ≤ inH H r := by omega
    have key : ∃ y p, Mp.get H.objs y = some p ∧ r ∈ targetsH H p := by
      have h5 : 1 ≤ rowOcc r H.rows ∨ 1 ≤ tailOcc r H.objs := by unfold inH at h4; omega
      rcases h5 with h5 | h5
      · have h6 : ∃ p ∈ H.rows, (refsOf p.2.words).count r ≠ 0 := Classical.byContradiction fun hc => by
          have : rowOcc r H.rows = 0 := sum_zero fun p hp => Classical.byContradiction fun hd => hc ⟨p, hp, hd⟩
          omega
        obtain ⟨p, hp, hc⟩ := h6
        have hp2 := Mp.get_of_mem ok.inv.ndR hp
        obtain ⟨s, y, hy, e⟩ := (fresh_of ok.inv).2 p.1 p.2 hp2
        refine ⟨s, y, hy, ?_⟩
        unfold targetsH Hp.rowOf
        rw [e, hp2]
        exact List.mem_append_left _ (List.count_pos_iff.1 (Nat.pos_of_ne_zero hc))
      · have h6 : ∃ p ∈ H.objs, (tailOf p.2).count r ≠ 0 := Classical.byContradiction fun hc => by
          have : tailOcc r H.objs = 0 := sum_zero fun p hp => Classical.byContradiction fun hd => hc ⟨p, hp, hd⟩
          omega
        obtain ⟨p, hp, hc⟩ := h6
        refine ⟨p.1, p.2, Mp.get_of_mem ok.inv.ndO hp, ?_⟩
        unfold targetsH
        exact List.mem_append_right _ (List.count_pos_iff.1 (Nat.pos_of_ne_zero hc))
    obtain ⟨y, p, hy, hm⟩ := key
    exact ⟨y, by rw [hy]; simp, by unfold refsH; rw [hy]; exact hm⟩
theorem inB_put (M : List (Int × Bool)) (r x : Int) : inB (Mp.put M r true) x = (decide (x = r) || inB M x) := by
  unfold inB
  rw [Mp.get_put]
  by_cases h : x = r <;> simp [h]
theorem inB_swept (l : List Int) (x : Int) : inB (sweptL l) x = decide (x ∈ l) := by
  have key : ∀ (l : List Int) (M : List (Int × Bool)), inB (l.foldl (fun S r => Mp.put S r true) M) x = (decide (x ∈ l) || inB M x) := by
    intro l
    induction l with
    | nil => intro M; simp
    | cons y l ih =>
      intro M
      rw [List.foldl_cons, ih, inB_put]
      by_cases h1 : x = y <;> by_cases h2 : x ∈ l <;> simp [h1, h2]
  have := key l []
  rw [show inB [] x = false from rfl, Bool.or_false] at this
  exact this
/-- An array that shares its words with one that can be reached. -/
def Shd (H0 H : Hp) (r : Int) : Prop := ∀ q, Mp.get H.objs r = some q → q.kind = 2 ∧ ∃ b p, Reach H0 b ∧ Mp.get H0.objs b = some p ∧ q.row = p.row
structure SwI (H0 H : Hp) (c : Cl) (pop : List Int) (N : Nat) : Prop where
  ok : Ok H N
  keep : KeepB (Reach H0) H0 H
  sub : Sub H0 H
  ph : c.phase = 2
  sw : c.swept = sweptL (lostL H0)
  ls : lostL H0 = pop ++ c.list
  flat : ∀ r ∈ pop, Flat H r ∨ Shd H0 H r
theorem Shd.sub {H0 H G : Hp} {r : Int} (h : Shd H0 H r) (s : Sub H G) : Shd H0 G r := fun q hq => by
  obtain ⟨o0, h0, a1, a2, a3, _⟩ := s.obj r q hq
  obtain ⟨b1, b, p, b2, b3, b4⟩ := h o0 h0
  exact ⟨a1.trans b1, b, p, b2, b3, a3.trans b4⟩
/-- A unit of sweeping with something in the list. -/
theorem SwI.unit {H0 H : Hp} {c : Cl} {pop : List Int} {N : Nat} (ok0 : Ok H0 N) (h : SwI H0 H c pop N) {r : Int} {rest : List Int} (hl : c.list = r :: rest) : SwI H0 (unitM H c).1 (unitM H c).2 (pop ++ [r]) N ∧ (unitM H c).2.list = rest := by
  have eu : unitM H c = (if kindH H r ≠ 0 ∧ sharedC H c r = false then (clearH H r).1 else H, { c with list := rest }) := by
    unfold unitM
    rw [if_neg (by rw [h.ph]; decide), if_pos h.ph]
    unfold sweepM
    rw [hl]
  rw [eu]
  have hlost : r ∈ lostL H0 := by rw [h.ls, hl]; simp
  have hnr : ¬ Reach H0 r := (mem_lostL.1 hlost).2
  have hls : lostL H0 = (pop ++ [r]) ++ rest := by rw [h.ls, hl]; simp
  by_cases hc : kindH H r ≠ 0 ∧ sharedC H c r = false
  · rw [if_pos hc]
    cases ho : Mp.get H.objs r with
    | none => exact absurd (by unfold kindH; rw [ho]; rfl) hc.1
    | some o =>
      have hrow : ∀ b p, Reach H0 b → Mp.get H.objs b = some p → p.row ≠ o.row := fun b p hb hp e => by
        have hne : b ≠ r := fun e2 => hnr (e2 ▸ hb)
        obtain ⟨x, hx, hA, _⟩ := row_two h.ok.inv ho hp hne e
        obtain ⟨x1, hx1, hk1, _⟩ := h.ok.inv.row r o ho
        obtain ⟨x2, hx2, hk2, _⟩ := h.ok.inv.row b p hp
        rw [hx] at hx1
        injection hx1 with hx1
        rw [e, hx] at hx2
        injection hx2 with hx2
        have k1 : o.kind = 2 := hk1.1 (hx1 ▸ hA)
        have k2 : p.kind = 2 := hk2.1 (hx2 ▸ hA)
        have hs : sharedC H c r = true := by
          unfold sharedC
          have e1 : storeOfH H r = (o.row, 0) := by unfold storeOfH; rw [ho]; simp [k1]
          have e2 : storeOfH H b = (p.row, 0) := by unfold storeOfH; rw [hp]; simp [k2]
          rw [e1]
          simp only [decide_true, Bool.true_and]
          rw [List.any_eq_true]
          refine ⟨b, (mem_all H b).2 (by rw [hp]; simp), ?_⟩
          unfold shB
          rw [e2, h.sw, inB_swept, decide_eq_false (fun hm => (mem_lostL.1 hm).2 hb)]
          simp [e]
        rw [hs] at hc
        exact absurd hc.2 (by decide)
      obtain ⟨s1, t1, f1, _⟩ := clear_flat h.ok r
      refine ⟨⟨h.ok.clear r, h.keep.trans (KeepB.clear h.ok (h.keep.closed (Reach.closed ok0)) ho hnr hrow), h.sub.trans s1, h.ph, h.sw, hls, fun x hx => ?_⟩, rfl⟩
      rcases List.mem_append.1 hx with hx | hx
      · rcases h.flat x hx with q | q
        · exact .inl (q.sub s1 t1)
        · exact .inr (q.sub s1)
      · obtain rfl : x = r := by simpa using hx
        exact .inl f1
  · rw [if_neg hc]
    refine ⟨⟨h.ok, h.keep, h.sub, h.ph, h.sw, hls, fun x hx => ?_⟩, rfl⟩
    rcases List.mem_append.1 hx with hx | hx
    · exact h.flat x hx
    · obtain rfl : x = r := by simpa using hx
      cases ho : Mp.get H.objs x with
      | none => exact .inl fun o ho2 => by rw [ho] at ho2; cases ho2
      | some o =>
        have hk : kindH H x ≠ 0 := kind_some h.ok (by rw [ho]; simp)
        have hs : sharedC H c x = true := by
          cases hq : sharedC H c x with
          | true => rfl
          | false => exact absurd ⟨hk, hq⟩ hc
        right
        intro q hq
        rw [ho] at hq
        injection hq with hq
        subst hq
        unfold sharedC at hs
        rw [Bool.and_eq_true, List.any_eq_true] at hs
        obtain ⟨h1, b, hb, h2⟩ := hs
        have hk2 : o.kind = 2 := Classical.byContradiction fun e => by
          have : storeOfH H x = (0, 13) := by unfold storeOfH; rw [ho]; simp [e]
          rw [this] at h1
          simp at h1
        have e1 : storeOfH H x = (o.row, 0) := by unfold storeOfH; rw [ho]; simp [hk2]
        rw [e1] at h2
        unfold shB at h2
        rw [Bool.and_eq_true, Bool.and_eq_true] at h2
        obtain ⟨⟨h3, h4⟩, h5⟩ := h2
        cases hp : Mp.get H.objs b with
        | none => exact absurd hp ((mem_all H b).1 hb)
        | some p =>
          have hk3 : p.kind = 2 := Classical.byContradiction fun e => by
            have : storeOfH H b = (0, 13) := by unfold storeOfH; rw [hp]; simp [e]
            rw [this] at h3
            simp at h3
          have e2 : storeOfH H b = (p.row, 0) := by unfold storeOfH; rw [hp]; simp [hk3]
          rw [e2] at h4
          have h4 : p.row = o.row := of_decide_eq_true h4
          obtain ⟨o0, g0, _, _, g3, _⟩ := h.sub.obj b p hp
          have hrb : Reach H0 b := Classical.byContradiction fun e => by
            have hm : b ∈ lostL H0 := mem_lostL.2 ⟨by rw [g0]; simp, e⟩
            rw [h.sw, inB_swept, decide_eq_true hm] at h5
            simp at h5
          exact ⟨hk2, b, o0, hrb, g0, by rw [← h4, g3]⟩
/-- All of sweeping. -/
theorem SwI.all {H0 : Hp} {N : Nat} (ok0 : Ok H0 N) : ∀ (rest pop : List Int) (H : Hp) (c : Cl), SwI H0 H c pop N → c.list = rest → ∃ H' c', stepsM rest.length H c = (H', c') ∧ SwI H0 H' c' (lostL H0) N ∧ c'.list = []
  | [], pop, H, c, h, hl => ⟨H, c, rfl, by
      have e := h.ls
      rw [hl, List.append_nil] at e
      rw [e]
      exact h, hl⟩
  | r :: rest, pop, H, c, h, hl => by
    obtain ⟨h1, h2⟩ := h.unit ok0 hl
    obtain ⟨H', c', q1, q2⟩ := SwI.all ok0 rest _ _ _ h1 h2
    exact ⟨H', c', by rw [List.length_cons, stepsM_go _ (by rw [h1.ph]; decide), q1], q2⟩
/-- What is left is what could be reached. -/
theorem SwI.left {H0 H : Hp} {c : Cl} {N : Nat} (ok0 : Ok H0 N) (h : SwI H0 H c (lostL H0) N) (x : Int) : Mp.get H.objs x ≠ none ↔ Reach H0 x := by
  constructor
  · intro hx
    refine Classical.byContradiction fun hn => ?_
    have hold : ∀ z, ¬ Reach H0 z → ¬ 0 < holdsH H z := fun z hz hh => by
      cases ho : Mp.get H.objs z with
      | none => unfold holdsH at hh; rw [ho] at hh; exact absurd hh (by decide)
      | some o =>
        obtain ⟨o0, g0, _, _, _, _, _, _, g7⟩ := h.sub.obj z o ho
        refine hz (Reach.held ?_)
        unfold holdsH at hh ⊢
        rw [ho] at hh
        rw [g0]
        have hh : 0 < o.holds := hh
        show 0 < o0.holds
        omega
    obtain ⟨y, hy, hm⟩ := referred h.ok hx (hold x hn)
    have keepb : ∀ b, Reach H0 b → x ∈ refsH H b → False := fun b hb hm => by
      rw [(h.keep.refs hb (hb.ex ok0)).1] at hm
      exact hn (hb.step hm)
    by_cases hry : Reach H0 y
    · exact keepb y hry hm
    · cases ho : Mp.get H.objs y with
      | none => exact absurd ho hy
      | some o =>
        obtain ⟨o0, g0, g1, _⟩ := h.sub.obj y o ho
        obtain ⟨x1, hx1, hk1, ht⟩ := h.ok.inv.row y o ho
        have hm2 : x ∈ refsOf (H.rowOf o.row) ++ tailOf o := by unfold refsH at hm; rw [ho] at hm; exact hm
        rcases h.flat y (mem_lostL.2 ⟨by rw [g0]; simp, hry⟩) with q | q
        · obtain ⟨q1, q2⟩ := q o ho
          have e1 : H.rowOf o.row = x1.words := by unfold Hp.rowOf; rw [hx1]; rfl
          rw [e1, q2 x1 hx1] at hm2
          unfold tailOf at hm2
          rw [if_pos q1] at hm2
          simp at hm2
        · obtain ⟨q1, b, p, q2, q3, q4⟩ := q o ho
          unfold tailOf at hm2
          rw [if_pos (ht q1), List.append_nil, q4] at hm2
          obtain ⟨⟨d, k1⟩, k2⟩ := h.keep b p q2 q3
          refine keepb b q2 ?_
          unfold refsH targetsH
          rw [k1]
          exact List.mem_append_left _ hm2
  · intro hr
    exact (h.keep.refs hr (hr.ex ok0)).2.2.1
theorem sorted_unique {l m : List Int} (hl : l.Pairwise (· ≤ ·)) (hm : m.Pairwise (· ≤ ·)) (nl : l.Nodup) (nm : m.Nodup) (h : ∀ x, x ∈ l ↔ x ∈ m) : l = m :=
  List.Perm.eq_of_pairwise (le := (· ≤ ·)) (fun _ _ _ _ h1 h2 => Int.le_antisymm h1 h2) hl hm (perm_of_nodup nl nm h)
theorem reachL_sorted (H : Hp) : (reachL H).Pairwise (· ≤ ·) := (sorted_all H).sublist (List.filter_sublist)
/-- A round without other calls. -/
theorem exact_round {H : Hp} {N : Nat} (ok : Ok H N) : ∃ H1 c1 H2 c2, stepsM ((allH H).length + 1) (watchH H true) { newCl with phase := 1, colors := greyC (watchH H true) (allH H) } = (H1, c1) ∧ c1.phase = 2 ∧ stepsM 1 H1 c1 = (H2, c2) ∧ c2.phase = 0 ∧ allH H2 = reachL H ∧ ∀ r, Reach H r → refsH H2 r = refsH H r := by
  have hm : MkI H (watchH H true) { newCl with phase := 1, colors := greyC (watchH H true) (allH H) } N := by
    have hc : ∀ x, colorC (greyC (watchH H true) (allH H)) x = if x ∈ allH H ∧ 0 < holdsH H x then 2 else 1 := fun x => colorC_grey (watchH H true) (allH H) [] x
    refine ⟨ok.watch true, rfl, rfl, rfl, rfl, rfl, fun x => ?_, fun x hx => ?_, fun x hx => ?_, fun x hx => ?_⟩
    · show colorC (greyC (watchH H true) (allH H)) x = 1 ∨ colorC (greyC (watchH H true) (allH H)) x = 2 ∨ _
      rw [hc]; split
      · exact .inr (.inl rfl)
      · exact .inl rfl
    · have hx : colorC (greyC (watchH H true) (allH H)) x ≠ 1 := hx
      rw [hc] at hx
      by_cases q : x ∈ allH H ∧ 0 < holdsH H x
      · exact Reach.held q.2
      · rw [if_neg q] at hx; exact absurd rfl hx
    · show colorC (greyC (watchH H true) (allH H)) x ≠ 1
      rw [hc, if_pos ⟨(mem_all H x).2 (holds_some hx), hx⟩]; decide
    · have hx : colorC (greyC (watchH H true) (allH H)) x = 3 := hx
      rw [hc] at hx
      split at hx <;> exact absurd hx (by decide)
  have hnb : notB H (greyC (watchH H true) (allH H)) = (reachL H).length := by
    have hc : ∀ x, colorC (greyC (watchH H true) (allH H)) x = if x ∈ allH H ∧ 0 < holdsH H x then 2 else 1 := fun x => colorC_grey (watchH H true) (allH H) [] x
    unfold notB
    rw [List.filter_eq_self.2]
    intro x _
    rw [hc]
    split <;> rfl
  obtain ⟨H', c', q1, q2, q3, q4, q5, q6, q7, q8⟩ := MkI.all ok (lostL H).length _ _ _ hm hnb
  have hsw : SwI H H' c' [] N := ⟨q2, KeepB.of_eq q3 q4, ⟨q5.trans rfl, by rw [q4]; exact Nat.le_refl _, fun r o ho => by rw [q3] at ho; exact (Sub.refl H).obj r o ho, fun k x hx => by rw [q4] at hx; exact ⟨x, hx, rfl⟩⟩, q6, q7, by rw [q8]; rfl, fun r hr => by cases hr⟩
  obtain ⟨H1, c1, r1, r2, r3⟩ := SwI.all ok (lostL H) [] H' c' hsw q8
  refine ⟨H1, c1, H1, { phase := 0, colors := [], swept := [], list := [], rounds := c1.rounds + 1 }, ?_, r2.ph, ?_, rfl, ?_, fun r hr => (r2.keep.refs hr (hr.ex ok)).1⟩
  · rw [← reach_lost, show (reachL H).length + (lostL H).length + 1 = (reachL H).length + 1 + (lostL H).length by omega, q1, r1]
  · have eu : unitM H1 c1 = (H1, { phase := 0, colors := [], swept := [], list := [], rounds := c1.rounds + 1 }) := by
      unfold unitM
      rw [if_neg (by rw [r2.ph]; decide), if_pos r2.ph]
      unfold sweepM
      rw [r3]
    rw [stepsM, eu]
    rfl
  · refine sorted_unique (sorted_all H1) (reachL_sorted H) (all_nodup r2.ok.inv) (reachL_nodup ok) fun x => ?_
    rw [mem_all, mem_reachL ok]
    exact r2.left ok x
end Go.Proofs.Ytodfpclekihbhaa

/- Appending to a list of the call's own, whatever is appended; the walk through all that can be reached, in plain Lean. -/
namespace Go.Proofs.Ytodfpclekihbhaa
open Go.RowKit Go.Shelf

set_option maxRecDepth 100000 in
theorem run_app_row {w : World} {B : Nat} {A : Option Addr} {C : Nat} {xs : List Int} (ty : TypeId) (hown : w.ownsRow B 26 1 (.slice A xs.length C) xs.length (ints xs)) {RA : Option Addr} {R : List Int} (hr : RdI w RA R) (RC : Nat) (h1 : xs.length + R.length ≤ 1000000000) (hB : B ≤ w.heap.size) :
    ∃ A1 C1 w', (Builtin.append_ #[35, 35] ty #[.slice A xs.length C, .slice RA R.length RC]).run Try.prog w = .ok (.slice A1 (xs ++ R).length C1) w' ∧ w'.ownsRow B 26 1 (.slice A1 (xs ++ R).length C1) (xs ++ R).length (ints (xs ++ R)) ∧ Mut (fun k => ∃ a, A = some a ∧ a.block = k) w w' ∧ ∀ a1, A1 = some a1 → (∃ a, A = some a ∧ a.block = a1.block) ∨ w.heap.size ≤ a1.block := by
  obtain ⟨i0, hi, hz0, hz1, hz2⟩ := info_parts Try.infoRef
  by_cases h0 : R = []
  · subst h0
    rw [List.append_nil]
    refine ⟨A, C, w, ?_, hown, Mut.refl _ _, fun a1 ha1 => .inl ⟨a1, ha1, rfl⟩⟩
    cases RA with
    | none =>
      rcases hown.2 with ⟨h2, h3⟩ | ⟨g, cap, cur, h2, _, _, hnc, _⟩
      · rw [h2]
        simp [Builtin.append_, run_underlying Try.underlying35, sizeOf, typeInfo, hi, Builtin.lenOf, Builtin.firstCells]
      · rw [h2]
        simp [Builtin.append_, run_underlying Try.underlying35, sizeOf, typeInfo, hi, Builtin.lenOf, Builtin.firstCells, hnc, storeCells]
    | some ra =>
      have hl : ∀ (x : Addr), (loadCells x 0).run Try.prog w = .ok #[] w := fun x => by simpa using run_loadCells_list (P := Try.prog) w x [] (by simp)
      rcases hown.2 with ⟨h2, h3⟩ | ⟨g, cap, cur, h2, _, _, hnc, _⟩
      · rw [h2]
        simp [Builtin.append_, run_underlying Try.underlying35, sizeOf, typeInfo, hi, Builtin.lenOf, Builtin.firstCells, hl]
      · rw [h2]
        simp [Builtin.append_, run_underlying Try.underlying35, sizeOf, typeInfo, hi, Builtin.lenOf, Builtin.firstCells, hnc, storeCells, hl]
  · have hpos : 0 < R.length := List.length_pos_iff.2 h0
    obtain ⟨g, o, hRA, _, _⟩ := hr 0 hpos
    subst hRA
    have hnews : ∀ j u, (ints R)[j]? = some u → w.cell? ((⟨g, o, none⟩ : Addr).add j) = some u := fun j u hj => by
      obtain ⟨hj1, hj2⟩ := List.getElem?_eq_some_iff.1 hj
      have hj3 : j < R.length := by simpa [ints] using hj1
      obtain ⟨g', o', e, _, hc⟩ := hr j hj3
      injection e with e
      injection e with e1 e2
      subst e1 e2
      have e1 : (⟨g, o, none⟩ : Addr).add j = ⟨g, o + j, none⟩ := by
        unfold Addr.add
        split
        · rename_i h; subst h; rfl
        · rfl
      rw [e1, hc, ← hj2]
      simp [ints]
    obtain ⟨v', w', hrun, h2, h3, _, h5⟩ := run_append_own_at (P := Try.prog) w B 35 ty 26 i0 (.int .i64 0) 1 8 Try.underlying35 hi hz0 hz1 hz2 rfl (by decide) _ xs.length (ints xs) hown ⟨g, o, none⟩ R.length RC (ints R) (by simp [ints]) hnews (fun u hu => by
      obtain ⟨x, _, rfl⟩ := List.mem_map.1 hu
      rfl) (by simp only [maxLen]; omega) (by omega) hB
    obtain ⟨A1, C1, rfl⟩ := own_slice h2
    have hl : (xs ++ R).length = xs.length + R.length := List.length_append
    have hi2 : ints xs ++ ints R = ints (xs ++ R) := by simp [ints]
    rw [hi2] at h2
    rw [hl]
    refine ⟨A1, C1, w', hrun, h2, Mut.of_grown h3 fun k hk => .inl (ownB hk), fun a1 ha1 => ?_⟩
    subst ha1
    rcases h5 with h5 | h5
    · exact .inl (ownB (h5.symm.trans rfl))
    · right
      have : some a1.block = some w.heap.size := h5
      injection this with this
      omega
/-- A list is appended to a list of the call's own. -/
theorem app_row {ops : Array Oper} {rest : List Oper} {o : Oper} {a : Act} {Q : Exit → Act → World → Prop} (hgd : o.guard = none) (s x : Operand)
    (ho : o.op = .call { callee := .builtin .append, args := #[s, x], argTypes := #[35, 35] }) {w : World} (B : Nat) (A : Option Addr) (C : Nat) (xs : List Int)
    (hs : a.eval s = .slice A xs.length C) (hown : w.ownsRow B 26 1 (.slice A xs.length C) xs.length (ints xs)) (RA : Option Addr) (RC : Nat) (R : List Int) (hx : a.eval x = .slice RA R.length RC) (hr : RdI w RA R) (h1 : xs.length + R.length ≤ 1000000000) (hB : B ≤ w.heap.size)
    (h : ∀ A1 C1 ys w', ys = xs ++ R → w'.ownsRow B 26 1 (.slice A1 ys.length C1) ys.length (ints ys) → Mut (fun k => ∃ a, A = some a ∧ a.block = k) w w' → (∀ a1, A1 = some a1 → (∃ a, A = some a ∧ a.block = a1.block) ∨ w.heap.size ≤ a1.block) → wpList Try.prog ops Q rest (a.put o.dst (.slice A1 ys.length C1)) w') :
    wpList Try.prog ops Q (o :: rest) a w := by
  refine wpList_plain hgd fun K hK => ?_
  obtain ⟨A1, C1, w', hrun, q1, q2, q3⟩ := run_app_row o.type hown hr RC h1 hB
  unfold Oper.wp execOp
  simp only [ho, resolve, invoke, builtin, Sem.run_bind, Sem.run_pure, Result.andThen_ok, List.map_toArray, List.map_cons, List.map_nil, hs, hx, hrun]
  exact hK _ _ (h A1 C1 _ w' rfl q1 q2 q3)
theorem rd_one (w : World) (n : Int) : RdI (w.alloc (.cells #[.int .i64 n] 26)) (some ⟨w.heap.size, 0, none⟩) [n] := fun j hj => by
  refine ⟨w.heap.size, 0, rfl, by simp, cell_of_heap (heap_alloc_new w _) ?_⟩
  match j, hj with
  | 0, _ => rfl
/-- A number is appended to a list of the call's own. -/
theorem app_one {ops : Array Oper} {rest : List Oper} {o : Oper} {a : Act} {Q : Exit → Act → World → Prop} (hgd : o.guard = none) (s x : Operand)
    (ho : o.op = .call { callee := .builtin .append, args := #[s, x], argTypes := #[35, 35] }) {w : World} (B : Nat) (A : Option Addr) (C : Nat) (xs : List Int) (n : Int)
    (hs : a.eval s = .slice A xs.length C) (hown : w.ownsRow B 26 1 (.slice A xs.length C) xs.length (ints xs)) {p : Nat} (hx : a.eval x = .slice (some ⟨p, 0, none⟩) 1 1) (hp : p = w.heap.size) (h1 : xs.length ≤ 100000000) (hB : B ≤ w.heap.size)
    (h : ∀ A1 C1 ys w', ys = xs ++ [n] → w'.ownsRow B 26 1 (.slice A1 ys.length C1) ys.length (ints ys) → Mut (fun k => ∃ a, A = some a ∧ a.block = k) w w' → (∀ a1, A1 = some a1 → (∃ a, A = some a ∧ a.block = a1.block) ∨ w.heap.size ≤ a1.block) → wpList Try.prog ops Q rest (a.put o.dst (.slice A1 ys.length C1)) w') :
    wpList Try.prog ops Q (o :: rest) a (w.alloc (.cells #[.int .i64 n] 26)) := by
  subst hp
  have ba : Below w.heap.size w (w.alloc (.cells #[.int .i64 n] 26)) := (Below.refl _ _).alloc (Nat.le_refl _) _
  refine app_row hgd s x ho B A C xs hs (own_mut2 hown (Mut.of_below ba) (S := fun _ => False) fun _ _ h => h) (some ⟨w.heap.size, 0, none⟩) 1 [n] hx (rd_one w n) (by simp; omega) (Nat.le_trans hB ba.size) ?_
  intro A1 C1 ys w' q1 q2 q3 q4
  refine h A1 C1 ys w' q1 q2 ((Mut.of_below ba (S := fun k => ∃ a, A = some a ∧ a.block = k)).then q3) fun a1 ha1 => (q4 a1 ha1).imp id fun q => ?_
  have := ba.size
  omega
/-- The last of a list of the call's own is taken away. -/
theorem own_last {w : World} {B C : Nat} {A : Option Addr} {l : List Int} {r : Int} (h : w.ownsRow B 26 1 (.slice A (l ++ [r]).length C) (l ++ [r]).length (ints (l ++ [r]))) :
    ∃ g, A = some ⟨g, 0, none⟩ ∧ g < w.heap.size ∧ l.length + 1 ≤ C ∧ C ≤ maxLen ∧ w.cell? ⟨g, l.length, none⟩ = some (.int .i64 r) ∧ w.ownsRow B 26 1 (.slice A l.length C) l.length (ints l) := by
  rcases h.2 with ⟨h1, h2⟩ | ⟨g, cap, cur, h1, h2, h3, h4, h5, h6, h7⟩
  · simp at h2
  · injection h1 with e1 e2 e3
    subst e3
    rw [List.length_append, List.length_singleton] at h4 h7
    refine ⟨g, e1, lt_of_heap h3, h4, h5, cell_of_heap h3 ?_, ⟨by simp [ints], .inr ⟨g, C, cur, by rw [e1], h2, h3, by omega, h5, h6, ?_⟩⟩⟩
    · have : (cur.toList.take ((l.length + 1) * 1))[l.length]? = some (.int .i64 r) := by rw [h7]; simp [ints]
      rw [List.getElem?_take_of_lt (by omega)] at this
      simpa using this
    · have : (cur.toList.take ((l.length + 1) * 1)).take l.length = ints l := by rw [h7, ints_snoc, List.take_append_of_le_length (by simp [ints]), List.take_of_length_le (by simp [ints])]
      rw [List.take_take] at this
      simpa using this
/-- What is known while a stack of objects is worked off. -/
structure Dfs (H : Hp) (M : List (Int × Bool)) (q : List Int) : Prop where
  snd : ∀ x, inB M x = true → Reach H x
  sq : ∀ x ∈ q, Reach H x
  cl : ∀ x, inB M x = true → ∀ y ∈ refsH H x, inB M y = true ∨ y ∈ q
  held : ∀ r, 0 < holdsH H r → inB M r = true ∨ r ∈ q
theorem Dfs.start (H : Hp) : Dfs H [] ((allH H).filter fun r => decide (0 < holdsH H r)) where
  snd := fun x h => by cases h
  sq := fun x hx => Reach.held (of_decide_eq_true (List.mem_filter.1 hx).2)
  cl := fun x h => by cases h
  held := fun r hr => .inr (List.mem_filter.2 ⟨(mem_all H r).2 (holds_some hr), decide_eq_true hr⟩)
theorem Dfs.skip {H : Hp} {M : List (Int × Bool)} {q : List Int} {r : Int} (h : Dfs H M (q ++ [r])) (hr : inB M r = true) : Dfs H M q where
  snd := h.snd
  sq := fun x hx => h.sq x (List.mem_append_left _ hx)
  cl := fun x hx y hy => (h.cl x hx y hy).elim .inl fun q1 => (List.mem_append.1 q1).elim .inr fun q2 => .inl (by rw [List.mem_singleton.1 q2]; exact hr)
  held := fun x hx => (h.held x hx).elim .inl fun q1 => (List.mem_append.1 q1).elim .inr fun q2 => .inl (by rw [List.mem_singleton.1 q2]; exact hr)
theorem Dfs.visit {H : Hp} {M : List (Int × Bool)} {q : List Int} {r : Int} (h : Dfs H M (q ++ [r])) : Dfs H (Mp.put M r true) (q ++ refsH H r) := by
  have hr : Reach H r := h.sq r (by simp)
  have e : ∀ x, inB (Mp.put M r true) x = true ↔ x = r ∨ inB M x = true := fun x => by rw [inB_put]; simp
  refine ⟨fun x hx => ?_, fun x hx => ?_, fun x hx y hy => ?_, fun x hx => ?_⟩
  · rcases (e x).1 hx with rfl | q1
    · exact hr
    · exact h.snd x q1
  · rcases List.mem_append.1 hx with q1 | q1
    · exact h.sq x (List.mem_append_left _ q1)
    · exact hr.step q1
  · rcases (e x).1 hx with rfl | q1
    · exact .inr (List.mem_append_right _ hy)
    · rcases h.cl x q1 y hy with q2 | q2
      · exact .inl ((e y).2 (.inr q2))
      · rcases List.mem_append.1 q2 with q3 | q3
        · exact .inr (List.mem_append_left _ q3)
        · exact .inl ((e y).2 (.inl (List.mem_singleton.1 q3)))
  · rcases h.held x hx with q2 | q2
    · exact .inl ((e x).2 (.inr q2))
    · rcases List.mem_append.1 q2 with q3 | q3
      · exact .inr (List.mem_append_left _ q3)
      · exact .inl ((e x).2 (.inl (List.mem_singleton.1 q3)))
theorem Dfs.done {H : Hp} {M : List (Int × Bool)} (h : Dfs H M []) (x : Int) : inB M x = true ↔ Reach H x := by
  refine ⟨h.snd x, fun hx => ?_⟩
  induction hx with
  | held h0 => exact (h.held _ h0).resolve_right (by simp)
  | step _ hm ih => exact (h.cl _ ih _ hm).resolve_right (by simp)
/-- How much there is to do at most. -/
def waitS (H : Hp) (M : List (Int × Bool)) : Nat := (((allH H).filter fun r => !inB M r).map fun r => 1 + (refsH H r).length).sum
theorem sum_filter_one {l : List Int} (hn : l.Nodup) {r : Int} (hr : r ∈ l) {p p' : Int → Bool} (hp : p r = true) (h : ∀ x, p' x = (p x && decide (x ≠ r))) (f : Int → Nat) : ((l.filter p').map f).sum + f r = ((l.filter p).map f).sum := by
  induction l with
  | nil => cases hr
  | cons y l ih =>
    rw [List.nodup_cons] at hn
    by_cases e : y = r
    · subst e
      have h1 : p' y = false := by rw [h]; simp
      have h2 : l.filter p' = l.filter p := List.filter_congr fun x hx => by
        rw [h]
        have : x ≠ y := fun e => hn.1 (e ▸ hx)
        simp [this]
      rw [List.filter_cons, List.filter_cons, h1, hp, h2]
      simp
      omega
    · have hr2 : r ∈ l := (List.mem_cons.1 hr).resolve_left (fun e2 => e e2.symm)
      have := ih hn.2 hr2
      rw [List.filter_cons, List.filter_cons, h y]
      have e2 : decide (y ≠ r) = true := decide_eq_true e
      rw [e2, Bool.and_true]
      cases p y <;> simp <;> omega
theorem waitS_put {H : Hp} {N : Nat} (ok : Ok H N) {M : List (Int × Bool)} {r : Int} (hr : Mp.get H.objs r ≠ none) (hn : inB M r = false) : waitS H (Mp.put M r true) + (1 + (refsH H r).length) = waitS H M := by
  unfold waitS
  refine sum_filter_one (all_nodup ok.inv) ((mem_all H r).2 hr) (by rw [hn]; rfl) (fun x => ?_) fun r => 1 + (refsH H r).length
  rw [inB_put]
  by_cases e : x = r <;> simp [e]
theorem sum_le_mul {l : List Int} {f : Int → Nat} {c : Nat} (h : ∀ x ∈ l, f x ≤ c) : (l.map f).sum ≤ l.length * c := by
  induction l with
  | nil => exact Nat.zero_le _
  | cons x l ih =>
    have h1 := h x List.mem_cons_self
    have h2 := ih fun y hy => h y (List.mem_cons_of_mem _ hy)
    rw [List.map_cons, List.sum_cons, List.length_cons, Nat.succ_mul]
    omega
theorem refs_len' {H : Hp} {N : Nat} (ok : Ok H N) (r : Int) : (refsH H r).length ≤ muH H + 1 := by
  unfold refsH
  cases ho : Mp.get H.objs r with
  | none => exact Nat.zero_le _
  | some o =>
    obtain ⟨x, hx, _⟩ := ok.inv.row r o ho
    exact (targets_len H o hx).2
theorem waitS_le {H : Hp} {N : Nat} (ok : Ok H N) (hN : N ≤ 60) (M : List (Int × Bool)) : waitS H M ≤ 60000000 := by
  unfold waitS
  have h1 : ∀ x ∈ (allH H).filter fun r => !inB M r, 1 + (refsH H x).length ≤ 900200 := fun x _ => by
    have := refs_len' ok x
    have := ok.mu
    omega
  have h2 := sum_le_mul h1
  have h3 : ((allH H).filter fun r => !inB M r).length ≤ 60 := Nat.le_trans (List.length_filter_le _ _) (Nat.le_trans (all_len ok) hN)
  have h4 := Nat.mul_le_mul_right 900200 h3
  omega
end Go.Proofs.Ytodfpclekihbhaa

