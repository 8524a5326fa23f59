/- Texts on the heap, merged: V8, V11. -/
import Derived.Test.YtodfpclekihbhaaG31
import Derived.Test.YtodfpclekihbhaaG26
/- HeapWatches in plain Lean: what is seen changes nothing else. -/
namespace Go.Proofs.Ytodfpclekihbhaa

/-- The heap without what was seen. -/
def Hp.er (H : Hp) : Hp := { H with watched := false, seen := [] }
theorem er_see (H : Hp) (r : Int) : (seeH H r).er = H.er := by unfold seeH; split <;> rfl
theorem see_er (H : Hp) (r : Int) : seeH H.er r = H.er := by unfold seeH; split <;> first | rfl | (rename_i h; exact absurd h.1 (by simp [Hp.er]))
theorem er_seeAll (H : Hp) (l : List Int) : (seeAll H l).er = H.er := by
  induction l generalizing H with
  | nil => rfl
  | cons x l ih => exact (ih (seeH H x)).trans (er_see H x)
theorem seeAll_er (H : Hp) (l : List Int) : seeAll H.er l = H.er := by
  induction l with
  | nil => rfl
  | cons x l ih =>
    have e : seeAll H.er (x :: l) = seeAll (seeH H.er x) l := rfl
    rw [e, see_er]
    exact ih
theorem er_refer (H : Hp) (r : Int) : (referH H r).er = referH H.er r := by unfold referH; split <;> rfl
theorem er_free (H : Hp) (r : Int) (o : Ob) : (freeH H r o).1.er = (freeH H.er r o).1 ∧ (freeH H r o).2 = (freeH H.er r o).2 := by
  have e : H.er.rows = H.rows := rfl
  unfold freeH
  rw [e]
  split
  · exact ⟨rfl, rfl⟩
  · split <;> exact ⟨rfl, rfl⟩
theorem er_rel (H : Hp) (st : List Int) : (relH H st).er = relH H.er st := by
  generalize hm : muH H + st.length = m
  induction m using Nat.strongRecOn generalizing H st with
  | ind m ih =>
    cases st with
    | nil => rw [relH_nil, relH_nil]
    | cons r st =>
      by_cases h0 : r = 0
      · subst h0
        rw [relH_zero, relH_zero]
        exact ih _ (by simp at hm; omega) H st rfl
      · cases ho : Mp.get H.objs r with
        | none =>
          have ho2 : Mp.get H.er.objs r = none := ho
          have e1 : relH H (r :: st) = relH H st := by
            rw [relH, if_neg h0]
            split
            · rfl
            · rename_i o h2; rw [ho] at h2; cases h2
          have e2 : relH H.er (r :: st) = relH H.er st := by
            rw [relH, if_neg h0]
            split
            · rfl
            · rename_i o h2; rw [ho2] at h2; cases h2
          rw [e1, e2]
          exact ih _ (by simp at hm; omega) H st rfl
        | some o =>
          have ho2 : Mp.get H.er.objs r = some o := ho
          by_cases hc : o.holds + (o.rc - 1) = 0
          · rw [relH_free st h0 ho hc, relH_free st h0 ho2 hc]
            have hf := er_free (H.upd r Ob.dec) r o
            have e3 : (H.upd r Ob.dec).er = H.er.upd r Ob.dec := rfl
            rw [e3] at hf
            rw [← hf.1, ← hf.2]
            refine ih _ ?_ _ _ rfl
            have h1 : Mp.get (H.upd r Ob.dec).objs r = some o.dec := by rw [get_upd, if_pos rfl, ho]; rfl
            have h2 := mu_free _ r o _ h1
            rw [mu_upd] at h2
            simp at hm ⊢
            omega
          · rw [relH_keep st h0 ho hc, relH_keep st h0 ho2 hc]
            have e3 : (H.upd r Ob.dec).er = H.er.upd r Ob.dec := rfl
            rw [← e3]
            refine ih _ ?_ _ _ rfl
            rw [mu_upd]
            simp at hm
            omega
theorem er_add (H : Hp) (o : Ob) : (addH H o).er = addH H.er o := by
  unfold addH
  rw [er_see]
  exact (see_er { H with objs := Mp.put H.objs ((H.last : Int) + 1) { o with holds := 1 }, last := H.last + 1 } _).symm
def ErT (f : Hp → Hp × Int × Int) : Prop := ∀ H, (f H).1.er = (f H.er).1 ∧ (f H).2 = (f H.er).2
def ErP (f : Hp → Hp × Int) : Prop := ∀ H, (f H).1.er = (f H.er).1 ∧ (f H).2 = (f H.er).2
theorem er_text (c : ByteArray) (w : Bool) (n : Nat) : ErT fun H => textH H c w n := fun H => by
  unfold textH
  split
  · exact ⟨rfl, rfl⟩
  · exact ⟨er_add (newRow H ⟨[], 1, false⟩) _, rfl⟩
theorem er_array (cls : Int) (refs : List Bool) (n : Int) : ErT fun H => arrayH H cls refs n := fun H => by
  unfold arrayH
  repeat' split
  all_goals first | exact ⟨rfl, rfl⟩ | exact ⟨er_add (newRow H _) _, rfl⟩
theorem er_part (r f t : Int) : ErT fun H => partH H r f t := fun H => by
  have e : H.er.objs = H.objs := rfl
  simp only [partH, e]
  repeat' split
  all_goals first | exact ⟨rfl, rfl⟩ | exact ⟨er_add (H.updR _ Rw.inc) _, rfl⟩
theorem er_make (k cls : Int) (refs : List Bool) : ErT fun H => makeH H k cls refs := fun H => by
  unfold makeH
  repeat' split
  all_goals first | exact ⟨rfl, rfl⟩ | exact ⟨er_add (newRow H _) _, rfl⟩
theorem er_fits (H : Hp) (bs : List Bool) (ws : List Wd) : fitsAll H.er bs ws = fitsAll H bs ws := by
  induction bs generalizing ws with
  | nil => cases ws <;> rfl
  | cons b bs ih =>
    cases ws with
    | nil => rfl
    | cons v ws =>
      have e : fitsH H.er b v = fitsH H b v := rfl
      simp only [fitsAll, e, ih]
theorem er_note (l : List Int) (H : Hp) : (l.foldl noteH H).er = l.foldl noteH H.er := by
  induction l generalizing H with
  | nil => rfl
  | cons x l ih =>
    rw [List.foldl_cons, List.foldl_cons, ih]
    congr 1
    unfold noteH
    rw [er_see, er_refer, ← er_refer, see_er]
theorem er_cons (cls : Int) (refs : List Bool) (front : List Wd) (t : Int) : ErT fun H => consH H cls refs front t := fun H => by
  have e : H.er.objs = H.objs := rfl
  have e2 : H.er.last = H.last := rfl
  simp only [consH, er_fits, e, e2]
  repeat' split
  all_goals first | exact ⟨rfl, rfl⟩ | skip
  all_goals
    refine ⟨?_, rfl⟩
    rw [← er_note]
    exact er_add (newRow _ _) _
theorem er_replace (H : Hp) (k : Int) (i : Nat) (v : Wd) : (replaceH H k i v).er = replaceH H.er k i v := by
  unfold replaceH
  rw [er_rel]
  have e1 : refAt H.er k i = refAt H k i := rfl
  rw [e1]
  congr 1
  have e2 : ∀ G : Hp, (setW G k i v).er = setW G.er k i v := fun _ => rfl
  rw [e2]
  congr 1
  rw [er_see, er_see, er_refer, ← er_refer, see_er, see_er]
theorem er_store (r i : Int) (v : Wd) (p : Hp → Option (Int × Nat) × Int) (hp : ∀ H, p H = p H.er) : ErP fun H => storeH H r i v (p H) := fun H => by
  show (storeH H r i v (p H)).1.er = (storeH H.er r i v (p H.er)).1 ∧ (storeH H r i v (p H)).2 = (storeH H.er r i v (p H.er)).2
  rw [← hp H]
  cases hq : p H with
  | mk a b =>
    cases a with
    | none => exact ⟨rfl, rfl⟩
    | some kj =>
      obtain ⟨k, j⟩ := kj
      have e : fitsH H.er (isRef H.er r i) v = fitsH H (isRef H r i) v := rfl
      unfold storeH
      simp only [e]
      split
      · exact ⟨rfl, rfl⟩
      · exact ⟨er_replace H k j v, rfl⟩
theorem er_set (r i : Int) (v : Wd) : ErP fun H => setH H r i v := er_store r i v (fun H => placeO H r i false) fun _ => rfl
theorem er_put (r a i : Int) (v : Wd) : ErP fun H => putH H r a i v := er_store r i v (fun H => placeA H r a i) fun _ => rfl
theorem er_copyW (k : Int) (l : List Wd) : ∀ (H : Hp) (i : Nat), (copyW H k i l).1.er = (copyW H.er k i l).1 ∧ (copyW H k i l).2 = (copyW H.er k i l).2 := by
  induction l with
  | nil => intro H i; exact ⟨rfl, rfl⟩
  | cons x l ih =>
    intro H i
    have e1 : refAt H.er k i = refAt H k i := rfl
    have e2 : ∀ G : Hp, (setW G k i x).er = setW G.er k i x := fun _ => rfl
    have e3 : setW (seeH (seeH (referH H.er x.ref) x.ref) (refAt H k i)) k i x = (setW (seeH (seeH (referH H x.ref) x.ref) (refAt H k i)) k i x).er := by
      rw [e2, er_see, er_see, ← er_refer, see_er, see_er]
    simp only [copyW, e1, e3]
    have h := ih (setW (seeH (seeH (referH H x.ref) x.ref) (refAt H k i)) k i x) (i + 1)
    exact ⟨h.1, by rw [h.2]⟩
theorem er_copy (a b c : Int) : ErP fun H => copyH H a b c := fun H => by
  have e : H.er.objs = H.objs := rfl
  have e2 : ∀ k, H.er.rowOf k = H.rowOf k := fun _ => rfl
  simp only [copyH, e, e2]
  split
  · repeat' split
    all_goals first | exact ⟨rfl, rfl⟩ | skip
    rw [er_rel]
    have h := er_copyW
    refine ⟨?_, rfl⟩
    rw [(h _ _ H _).1, (h _ _ H _).2]
  · exact ⟨rfl, rfl⟩
theorem er_clear (r : Int) : ErP fun H => clearH H r := fun H => by
  have e : H.er.objs = H.objs := rfl
  have e2 : ∀ o, targetsH H.er o = targetsH H o := fun _ => rfl
  simp only [clearH, e, e2]
  split
  · exact ⟨rfl, rfl⟩
  · rename_i o _
    refine ⟨?_, rfl⟩
    rw [er_rel, er_seeAll]
    have e3 : (H.er.updR o.row cutRow).upd r Ob.cut = ((H.updR o.row cutRow).upd r Ob.cut).er := rfl
    rw [e3, seeAll_er]
theorem er_hold (r : Int) : ErP fun H => holdH H r := fun H => by
  have e : H.er.objs = H.objs := rfl
  simp only [holdH, e]
  split
  · exact ⟨rfl, rfl⟩
  · refine ⟨?_, rfl⟩
    rw [er_see]
    exact (see_er (H.upd r Ob.hold) r).symm
theorem er_drop (r : Int) : ErP fun H => dropH H r := fun H => by
  have e : H.er.objs = H.objs := rfl
  simp only [dropH, e]
  repeat' split
  all_goals first | exact ⟨rfl, rfl⟩ | skip
  rename_i o _ _ _
  refine ⟨?_, rfl⟩
  rw [er_rel]
  have hf := er_free (H.upd r Ob.drop) r o
  have e3 : (H.upd r Ob.drop).er = H.er.upd r Ob.drop := rfl
  rw [e3] at hf
  rw [hf.1, hf.2]
/-- Calls that neither watch nor ask what was seen. -/
theorem er_do (H : Hp) (o : OpM) (h11 : o.k ≠ 11) (h12 : o.k ≠ 12) : (doM H o).1.er = (doM H.er o).1 ∧ (doM H o).2 = (doM H.er o).2 := by
  have t3 : ∀ f, ErT f → (three (f H)).1.er = (three (f H.er)).1 ∧ (three (f H)).2 = (three (f H.er)).2 := fun f hf => ⟨(hf H).1, by unfold three; rw [(hf H).2]⟩
  have t2 : ∀ f, ErP f → (two (f H)).1.er = (two (f H.er)).1 ∧ (two (f H)).2 = (two (f H.er)).2 := fun f hf => ⟨(hf H).1, by unfold two; rw [(hf H).2]⟩
  by_cases h0 : o.k = 0
  · have e : ∀ G, doM G o = three (textH G (textOf o.tx).1 (textOf o.tx).2 (strLen (textOf o.tx).1 (textOf o.tx).2)) := fun G => by unfold doM; rw [if_pos h0]
    rw [e, e]
    exact t3 _ (er_text _ _ _)
  by_cases h1 : o.k = 1
  · have e : ∀ G, doM G o = three (arrayH G o.cls o.refs o.a) := fun G => by unfold doM; rw [if_neg h0, if_pos h1]
    rw [e, e]
    exact t3 _ (er_array _ _ _)
  by_cases h2 : o.k = 2
  · have e : ∀ G, doM G o = three (partH G o.r o.a o.b) := fun G => by unfold doM; rw [if_neg h0, if_neg h1, if_pos h2]
    rw [e, e]
    exact t3 _ (er_part _ _ _)
  by_cases h3 : o.k = 3
  · have e : ∀ G, doM G o = three (makeH G o.a o.cls o.refs) := fun G => by unfold doM; rw [if_neg h0, if_neg h1, if_neg h2, if_pos h3]
    rw [e, e]
    exact t3 _ (er_make _ _ _)
  by_cases h4 : o.k = 4
  · have e : ∀ G, doM G o = three (consH G o.cls o.refs o.words o.r) := fun G => by unfold doM; rw [if_neg h0, if_neg h1, if_neg h2, if_neg h3, if_pos h4]
    rw [e, e]
    exact t3 _ (er_cons _ _ _ _)
  by_cases h5 : o.k = 5
  · have e : ∀ G, doM G o = two (setH G o.r o.a (o.words.headD ⟨0, 0⟩)) := fun G => by unfold doM; rw [if_neg h0, if_neg h1, if_neg h2, if_neg h3, if_neg h4, if_pos h5]
    rw [e, e]
    exact t2 _ (er_set _ _ _)
  by_cases h6 : o.k = 6
  · have e : ∀ G, doM G o = two (putH G o.r o.a o.b (o.words.headD ⟨0, 0⟩)) := fun G => by unfold doM; rw [if_neg h0, if_neg h1, if_neg h2, if_neg h3, if_neg h4, if_neg h5, if_pos h6]
    rw [e, e]
    exact t2 _ (er_put _ _ _ _)
  by_cases h7 : o.k = 7
  · have e : ∀ G, doM G o = two (copyH G o.r o.a o.x) := fun G => by unfold doM; rw [if_neg h0, if_neg h1, if_neg h2, if_neg h3, if_neg h4, if_neg h5, if_neg h6, if_pos h7]
    rw [e, e]
    exact t2 _ (er_copy _ _ _)
  by_cases h8 : o.k = 8
  · have e : ∀ G, doM G o = two (clearH G o.r) := fun G => by unfold doM; rw [if_neg h0, if_neg h1, if_neg h2, if_neg h3, if_neg h4, if_neg h5, if_neg h6, if_neg h7, if_pos h8]
    rw [e, e]
    exact t2 _ (er_clear _)
  by_cases h9 : o.k = 9
  · have e : ∀ G, doM G o = two (holdH G o.r) := fun G => by unfold doM; rw [if_neg h0, if_neg h1, if_neg h2, if_neg h3, if_neg h4, if_neg h5, if_neg h6, if_neg h7, if_neg h8, if_pos h9]
    rw [e, e]
    exact t2 _ (er_hold _)
  by_cases h10 : o.k = 10
  · have e : ∀ G, doM G o = two (dropH G o.r) := fun G => by unfold doM; rw [if_neg h0, if_neg h1, if_neg h2, if_neg h3, if_neg h4, if_neg h5, if_neg h6, if_neg h7, if_neg h8, if_neg h9, if_pos h10]
    rw [e, e]
    exact t2 _ (er_drop _)
  have e : ∀ G, doM G o = (G, 0, [], 0) := fun G => by unfold doM; rw [if_neg h0, if_neg h1, if_neg h2, if_neg h3, if_neg h4, if_neg h5, if_neg h6, if_neg h7, if_neg h8, if_neg h9, if_neg h10, if_neg h11, if_neg h12]
  rw [e, e]
  exact ⟨rfl, rfl⟩
/-- Two heaps that differ in what was seen alone. -/
def Like (H G : Hp) : Prop := H.er = G.er
theorem Like.do {H G : Hp} (h : Like H G) (o : OpM) (h11 : o.k ≠ 11) (h12 : o.k ≠ 12) : Like (doM H o).1 (doM G o).1 ∧ (doM H o).2 = (doM G o).2 := by
  obtain ⟨a1, a2⟩ := er_do H o h11 h12
  obtain ⟨b1, b2⟩ := er_do G o h11 h12
  unfold Like at *
  rw [a1, b1, a2, b2, h]
  exact ⟨rfl, rfl⟩
theorem Like.all {H G : Hp} (h : Like H G) : allH H = allH G ∧ (∀ r, countH H r = countH G r) ∧ ∀ r, refsH H r = refsH G r := by
  have h1 : H.objs = G.objs := congrArg (·.objs) h
  have h2 : H.rows = G.rows := congrArg (·.rows) h
  refine ⟨by unfold allH; rw [h1], fun r => by unfold countH; rw [h1], fun r => ?_⟩
  unfold refsH targetsH Hp.rowOf
  rw [h1, h2]
end Go.Proofs.Ytodfpclekihbhaa

/- HeapWatches in plain Lean: what is seen. -/
namespace Go.Proofs.Ytodfpclekihbhaa

/-- The watch stays; without it nothing is seen. -/
def WS (H G : Hp) : Prop := G.watched = H.watched ∧ (H.watched = false → G.seen = H.seen)
theorem WS.refl (H : Hp) : WS H H := ⟨rfl, fun _ => rfl⟩
theorem WS.trans {H G F : Hp} (h : WS H G) (k : WS G F) : WS H F := ⟨k.1.trans h.1, fun e => (k.2 (h.1.trans e)).trans (h.2 e)⟩
theorem WS.of {H G : Hp} (h1 : G.watched = H.watched) (h2 : G.seen = H.seen) : WS H G := ⟨h1, fun _ => h2⟩
theorem WS.see (H : Hp) (r : Int) : WS H (seeH H r) := by
  unfold seeH
  split
  · rename_i h; exact ⟨rfl, fun e => by rw [e] at h; exact absurd h.1 (by simp)⟩
  · exact WS.refl H
theorem WS.seeAll (H : Hp) (l : List Int) : WS H (seeAll H l) := by
  induction l generalizing H with
  | nil => exact WS.refl H
  | cons x l ih => exact (WS.see H x).trans (ih _)
theorem WS.refer (H : Hp) (r : Int) : WS H (referH H r) := by unfold referH; split <;> exact WS.of rfl rfl
theorem WS.free (H : Hp) (r : Int) (o : Ob) : WS H (freeH H r o).1 := WS.of (freeH_seen H r o).2 (freeH_seen H r o).1
theorem WS.rel (H : Hp) (st : List Int) : WS H (relH H st) := by
  generalize hm : muH H + st.length = m
  induction m using Nat.strongRecOn generalizing H st with
  | ind m ih =>
    cases st with
    | nil => rw [relH_nil]; exact WS.refl H
    | cons r st =>
      by_cases h0 : r = 0
      · subst h0
        rw [relH_zero]
        exact ih _ (by simp at hm; omega) H st rfl
      · cases ho : Mp.get H.objs r with
        | none =>
          have e1 : relH H (r :: st) = relH H st := by
            rw [relH, if_neg h0]
            split
            · rfl
            · rename_i o h2; rw [ho] at h2; cases h2
          rw [e1]
          exact ih _ (by simp at hm; omega) H st rfl
        | some o =>
          have e : WS H (H.upd r Ob.dec) := WS.of rfl rfl
          by_cases hc : o.holds + (o.rc - 1) = 0
          · rw [relH_free st h0 ho hc]
            refine (e.trans (WS.free _ r o)).trans (ih _ ?_ _ _ rfl)
            have h1 : Mp.get (H.upd r Ob.dec).objs r = some o.dec := by rw [get_upd, if_pos rfl, ho]; rfl
            have h2 := mu_free _ r o _ h1
            rw [mu_upd] at h2
            simp at hm ⊢
            omega
          · rw [relH_keep st h0 ho hc]
            refine e.trans (ih _ ?_ _ _ rfl)
            rw [mu_upd]
            simp at hm
            omega
theorem WS.add (H : Hp) (o : Ob) : WS H (addH H o) := by
  have e : WS H { H with objs := Mp.put H.objs ((H.last : Int) + 1) { o with holds := 1 }, last := H.last + 1 } := WS.of rfl rfl
  exact e.trans (WS.see _ _)
theorem WS.note (l : List Int) (H : Hp) : WS H (l.foldl noteH H) := by
  induction l generalizing H with
  | nil => exact WS.refl H
  | cons x l ih => exact ((WS.refer H x).trans (WS.see _ x)).trans (ih _)
theorem WS.replace (H : Hp) (k : Int) (i : Nat) (v : Wd) : WS H (replaceH H k i v) := by
  have e : ∀ G : Hp, WS G (setW G k i v) := fun G => WS.of rfl rfl
  exact ((((WS.refer H v.ref).trans (WS.see _ v.ref)).trans (WS.see _ (refAt H k i))).trans (e _)).trans (WS.rel _ _)
theorem WS.copyW (k : Int) (l : List Wd) : ∀ (H : Hp) (i : Nat), WS H (copyW H k i l).1 := by
  induction l with
  | nil => intro H i; exact WS.refl H
  | cons x l ih =>
    intro H i
    have e : ∀ G : Hp, WS G (setW G k i x) := fun G => WS.of rfl rfl
    exact ((((WS.refer H x.ref).trans (WS.see _ x.ref)).trans (WS.see _ (refAt H k i))).trans (e _)).trans (ih _ _)
theorem WS.store (H : Hp) (r i : Int) (v : Wd) (p : Option (Int × Nat) × Int) : WS H (storeH H r i v p).1 := by
  cases p with
  | mk a b =>
    cases a with
    | none => exact WS.refl H
    | some kj =>
      obtain ⟨k, j⟩ := kj
      simp only [storeH]
      split
      · exact WS.refl H
      · exact WS.replace H k j v
theorem WS.do (H : Hp) (o : OpM) (h11 : o.k ≠ 11) (h12 : o.k ≠ 12) : WS H (doM H o).1 := by
  have hn : ∀ x, WS H (newRow H x) := fun _ => WS.of rfl rfl
  unfold doM
  rw [if_neg h11, if_neg h12]
  repeat' split
  · show WS H (textH H _ _ _).1
    unfold textH
    split
    · exact WS.refl H
    · exact (hn _).trans (WS.add _ _)
  · show WS H (arrayH H _ _ _).1
    unfold arrayH
    repeat' split
    all_goals first | exact WS.refl H | exact (hn _).trans (WS.add _ _)
  · show WS H (partH H _ _ _).1
    unfold partH
    repeat' split
    all_goals first | exact WS.refl H | exact (WS.of (G := H.updR _ Rw.inc) rfl rfl : WS H _).trans (WS.add _ _)
  · show WS H (makeH H _ _ _).1
    unfold makeH
    repeat' split
    all_goals first | exact WS.refl H | exact (hn _).trans (WS.add _ _)
  · show WS H (consH H _ _ _ _).1
    unfold consH
    repeat' split
    all_goals first | exact WS.refl H | exact ((WS.note _ H).trans (WS.of rfl rfl)).trans (WS.add (newRow _ _) _)
  · exact WS.store H _ _ _ _
  · exact WS.store H _ _ _ _
  · show WS H (copyH H _ _ _).1
    unfold copyH
    repeat' split
    all_goals first | exact WS.refl H | exact (WS.copyW _ _ H _).trans (WS.rel _ _)
  · show WS H (clearH H _).1
    unfold clearH
    split
    · exact WS.refl H
    · rename_i ob _
      have e1 : WS H ((H.updR ob.row cutRow).upd o.r Ob.cut) := WS.of rfl rfl
      exact (e1.trans (WS.seeAll _ _)).trans (WS.rel _ _)
  · show WS H (holdH H _).1
    unfold holdH
    split
    · exact WS.refl H
    · exact (WS.of rfl rfl : WS H _).trans (WS.see _ _)
  · show WS H (dropH H _).1
    unfold dropH
    have e1 : WS H (H.upd o.r Ob.drop) := WS.of rfl rfl
    repeat' split
    all_goals first | exact WS.refl H | exact (e1.trans (WS.free _ _ _)).trans (WS.rel _ _) | exact e1
  · exact WS.refl H
theorem see_in {H : Hp} {r : Int} (hw : H.watched = true) (hr : r ≠ 0) : InM (seeH H r).seen r := by
  unfold seeH
  rw [if_pos ⟨hw, hr⟩]
  exact InM.put.2 (.inl rfl)
theorem add_seen {G : Hp} (o : Ob) (hw : G.watched = true) : InM (addH G o).seen ((G.last : Int) + 1) := by
  unfold addH
  exact see_in (H := { G with objs := Mp.put G.objs ((G.last : Int) + 1) { o with holds := 1 }, last := G.last + 1 }) hw (by omega)
theorem note_last (l : List Int) (H : Hp) : (l.foldl noteH H).last = H.last := by
  induction l generalizing H with
  | nil => rfl
  | cons x l ih => rw [List.foldl_cons, ih]; unfold noteH; rw [seeH_last, referH_last']
/-- What is made is seen. -/
theorem made_seen (H : Hp) (o : OpM) (hw : H.watched = true) (hm : (doM H o).2.1 ≠ 0) : InM (doM H o).1.seen (doM H o).2.1 := by
  have key : ∀ T : Hp × Int × Int, (T.2.1 = 0 ∨ ∃ G ob, T.1 = addH G ob ∧ T.2.1 = (G.last : Int) + 1 ∧ G.watched = true) → (three T).2.1 ≠ 0 → InM (three T).1.seen (three T).2.1 := fun T hT h1 => by
    rcases hT with e | ⟨G, ob, e1, e2, e3⟩
    · exact absurd e h1
    · show InM T.1.seen T.2.1
      rw [e1, e2]
      exact add_seen ob e3
  by_cases h0 : o.k = 0
  · have e : doM H o = three (textH H (textOf o.tx).1 (textOf o.tx).2 (strLen (textOf o.tx).1 (textOf o.tx).2)) := by unfold doM; rw [if_pos h0]
    rw [e] at hm ⊢
    refine key _ ?_ hm
    unfold textH
    repeat' split
    all_goals first | exact .inl rfl | exact .inr ⟨newRow H _, _, rfl, rfl, hw⟩
  by_cases h1 : o.k = 1
  · have e : doM H o = three (arrayH H o.cls o.refs o.a) := by unfold doM; rw [if_neg h0, if_pos h1]
    rw [e] at hm ⊢
    refine key _ ?_ hm
    unfold arrayH
    repeat' split
    all_goals first | exact .inl rfl | exact .inr ⟨newRow H _, _, rfl, rfl, hw⟩
  by_cases h2 : o.k = 2
  · have e : doM H o = three (partH H o.r o.a o.b) := by unfold doM; rw [if_neg h0, if_neg h1, if_pos h2]
    rw [e] at hm ⊢
    refine key _ ?_ hm
    unfold partH
    repeat' split
    all_goals first | exact .inl rfl | exact .inr ⟨H.updR _ Rw.inc, _, rfl, rfl, hw⟩
  by_cases h3 : o.k = 3
  · have e : doM H o = three (makeH H o.a o.cls o.refs) := by unfold doM; rw [if_neg h0, if_neg h1, if_neg h2, if_pos h3]
    rw [e] at hm ⊢
    refine key _ ?_ hm
    unfold makeH
    repeat' split
    all_goals first | exact .inl rfl | exact .inr ⟨newRow H _, _, rfl, rfl, hw⟩
  by_cases h4 : o.k = 4
  · have e : doM H o = three (consH H o.cls o.refs o.words o.r) := by unfold doM; rw [if_neg h0, if_neg h1, if_neg h2, if_neg h3, if_pos h4]
    rw [e] at hm ⊢
    refine key _ ?_ hm
    unfold consH
    repeat' split
    all_goals first | exact .inl rfl | skip
    all_goals exact .inr ⟨newRow _ _, _, rfl, by show (H.last : Int) + 1 = (((_ : Hp).last : Nat) : Int) + 1; rw [show ∀ (G : Hp) x, (newRow G x).last = G.last from fun _ _ => rfl, note_last], by rw [show ∀ (G : Hp) x, (newRow G x).watched = G.watched from fun _ _ => rfl, (WS.note _ H).1]; exact hw⟩
  exfalso
  refine hm ?_
  unfold doM
  rw [if_neg h0, if_neg h1, if_neg h2, if_neg h3, if_neg h4]
  repeat' split
  all_goals rfl
/-- What is held is seen. -/
theorem held_seen {H : Hp} {N : Nat} (ok : Ok H N) (o : OpM) (hw : H.watched = true) (h9 : o.k = 9) (h0 : (doM H o).2.2.2 = 0) : InM (doM H o).1.seen o.r ∧ Mp.get (doM H o).1.objs o.r ≠ none := by
  have e : doM H o = two (holdH H o.r) := by unfold doM; simp [h9]
  rw [e] at h0 ⊢
  have h0 : (holdH H o.r).2 = 0 := h0
  show InM (holdH H o.r).1.seen o.r ∧ Mp.get (holdH H o.r).1.objs o.r ≠ none
  unfold holdH at h0 ⊢
  split at h0
  · cases h0
  · rename_i hn
    rw [if_neg hn]
    cases hg : Mp.get H.objs o.r with
    | none => exact absurd hg hn
    | some ob =>
      have := (ok.inv.rng _ ob hg).1
      refine ⟨see_in (H := H.upd o.r Ob.hold) hw (by omega), ?_⟩
      rw [seeH_objs, get_upd, if_pos rfl, hg]
      simp
/-- The list of what was seen. -/
theorem seen_list (H : Hp) (hn : (H.seen.map (·.1)).Nodup) : (seenH H).2.Pairwise (· ≤ ·) ∧ (seenH H).2.Nodup ∧ (∀ x ∈ (seenH H).2, Mp.get H.objs x ≠ none) ∧ ∀ x, InM H.seen x → Mp.get H.objs x ≠ none → x ∈ (seenH H).2 := by
  have hs : (keysS H.seen).Pairwise (· ≤ ·) := by
    unfold keysS
    have := List.pairwise_mergeSort (le := fun a b : Int => decide (a ≤ b)) (fun a b c h1 h2 => by simp at *; omega) (fun a b => by simp; omega) (H.seen.map (·.1))
    exact this.imp fun h => by simpa using h
  have hp : (keysS H.seen).Perm (H.seen.map (·.1)) := by unfold keysS; exact List.mergeSort_perm _ _
  refine ⟨hs.filter _, (hp.nodup_iff.2 hn).filter _, fun x hx => ?_, fun x h1 h2 => ?_⟩
  · have := (List.mem_filter.1 hx).2
    intro e
    rw [e] at this
    cases this
  · refine List.mem_filter.2 ⟨hp.mem_iff.2 ?_, ?_⟩
    · exact List.mem_map.2 ⟨_, Mp.mem_of_get h1, rfl⟩
    · cases hg : Mp.get H.objs x with
      | none => exact absurd hg h2
      | some o => rfl
end Go.Proofs.Ytodfpclekihbhaa

