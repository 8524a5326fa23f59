/- Texts on the heap, merged: L7, L8, L9. -/
import Derived.Test.YtodfpclekihbhaaG02
/- HeapEnds in plain Lean: cleared objects refer to nothing; what is dropped as often as it is held is gone. -/
namespace Go.Proofs.Ytodfpclekihbhaa

/-- Rows without references stay so. -/
def RowSub (H G : Hp) : Prop := ∀ k x, Mp.get G.rows k = some x → ∃ x0, Mp.get H.rows k = some x0 ∧ (refsOf x0.words = [] → refsOf x.words = [])
theorem RowSub.refl (H : Hp) : RowSub H H := fun _ x h => ⟨x, h, id⟩
theorem RowSub.of_eq {H G : Hp} (h : G.rows = H.rows) : RowSub H G := fun k x hx => ⟨x, by rw [← h]; exact hx, id⟩
theorem RowSub.trans {H G F : Hp} (h : RowSub H G) (k : RowSub G F) : RowSub H F := fun j x hx => by
  obtain ⟨x1, h1, a1⟩ := k j x hx
  obtain ⟨x0, h0, a0⟩ := h j x1 h1
  exact ⟨x0, h0, fun e => a1 (a0 e)⟩
theorem RowSub.updR (H : Hp) (k : Int) (f : Rw → Rw) (hf : ∀ x, refsOf x.words = [] → refsOf (f x).words = []) : RowSub H (H.updR k f) := fun j x hx => by
  have hx' : Mp.get (mapAt H.rows k f) j = some x := hx
  rw [get_mapAt] at hx'
  by_cases e : j = k
  · rw [if_pos e] at hx'
    cases hz : Mp.get H.rows j with
    | none => rw [hz] at hx'; cases hx'
    | some z =>
      rw [hz] at hx'
      injection hx' with hx'
      subst hx'
      exact ⟨z, rfl, hf z⟩
  · rw [if_neg e] at hx'
    exact ⟨x, hx', id⟩
theorem RowSub.free (H : Hp) (r : Int) (o : Ob) : RowSub H (freeH H r o).1 := by
  unfold freeH
  split
  · exact RowSub.of_eq rfl
  · split
    · exact RowSub.updR H o.row Rw.dec fun _ h => h
    · exact fun k x hx => ⟨x, get_del_some hx, id⟩
theorem RowSub.rel {H : Hp} {st : List Int} (h : Inv H st) : RowSub H (relH H st) := by
  generalize hm : muH H + st.length = m
  induction m using Nat.strongRecOn generalizing H st with
  | ind m ih =>
    cases st with
    | nil => rw [relH_nil]; exact RowSub.refl H
    | cons r st =>
      by_cases h0 : r = 0
      · subst h0
        rw [relH_zero]
        exact ih _ (by simp at hm; omega) h.zero rfl
      · obtain ⟨o, ho⟩ := h.some_of h0
        have hp := h.pos r o ho
        have e : RowSub H (H.upd r Ob.dec) := RowSub.of_eq rfl
        by_cases hc : o.holds + (o.rc - 1) = 0
        · rw [relH_free st h0 ho hc]
          refine (e.trans (RowSub.free _ r o)).trans (ih _ ?_ (h.free ho hc) rfl)
          have h1 : Mp.get (H.upd r Ob.dec).objs r = some o.dec := by rw [get_upd, if_pos rfl, ho]; rfl
          have h2 := mu_free _ r o _ h1
          rw [mu_upd] at h2
          simp at hm ⊢
          omega
        · rw [relH_keep st h0 ho hc]
          refine e.trans (ih _ ?_ (h.dec ho (by omega)) rfl)
          rw [mu_upd]
          simp at hm
          omega
/-- An object refers to nothing. -/
def Flat (H : Hp) (r : Int) : Prop := ∀ o, Mp.get H.objs r = some o → o.tail = 0 ∧ ∀ x, Mp.get H.rows o.row = some x → refsOf x.words = []
theorem Flat.sub {H G : Hp} {r : Int} (h : Flat H r) (s : Sub H G) (t : RowSub H G) : Flat G r := fun o ho => by
  obtain ⟨o0, h0, _, _, a3, _, _, a6, _⟩ := s.obj r o ho
  obtain ⟨b1, b2⟩ := h o0 h0
  refine ⟨a6.elim (fun a6 => a6.trans b1) id, fun x hx => ?_⟩
  rw [a3] at hx
  obtain ⟨x0, h1, h2⟩ := t _ x hx
  exact h2 (b2 x0 h1)
/-- What Clear leaves. -/
theorem clear_flat {H : Hp} {N : Nat} (h : Ok H N) (r : Int) : Sub H (clearH H r).1 ∧ RowSub H (clearH H r).1 ∧ Flat (clearH H r).1 r ∧ ((clearH H r).2 = 0 ∨ (clearH H r).2 = 4) := by
  unfold clearH
  split
  · rename_i hn
    have hfl : Flat H r := fun o ho => by rw [hn] at ho; cases ho
    exact ⟨Sub.refl H, RowSub.refl H, hfl, .inr rfl⟩
  · rename_i o ho
    have hc := h.inv.cut ho
    have hc2 : Inv (seeAll ((H.updR o.row cutRow).upd r Ob.cut) (targetsH H o)) (targetsH H o).reverse := hc.same (seeAll_objs _ _) (seeAll_rows _ _) (seeAll_last _ _)
    have s1 : Sub H (seeAll ((H.updR o.row cutRow).upd r Ob.cut) (targetsH H o)) := ((Sub.updR H o.row cutRow fun x => by simp [cutRow]).trans (Sub.cut _ r)).trans (Sub.seeAll _ _)
    have t1 : RowSub H (H.updR o.row cutRow) := RowSub.updR H o.row cutRow fun x _ => cut_refs x.words
    have t2 : RowSub H (seeAll ((H.updR o.row cutRow).upd r Ob.cut) (targetsH H o)) := t1.trans (RowSub.of_eq (seeAll_rows _ _))
    have f1 : Flat (seeAll ((H.updR o.row cutRow).upd r Ob.cut) (targetsH H o)) r := fun y hy => by
      rw [seeAll_objs, get_upd, if_pos rfl] at hy
      have hy2 : (Mp.get H.objs r).map Ob.cut = some y := hy
      rw [ho] at hy2
      injection hy2 with hy2
      subst hy2
      refine ⟨rfl, fun x hx => ?_⟩
      rw [seeAll_rows] at hx
      have hx2 : Mp.get (mapAt H.rows o.row cutRow) o.row = some x := hx
      rw [get_mapAt, if_pos rfl] at hx2
      cases hz : Mp.get H.rows o.row with
      | none => rw [hz] at hx2; cases hx2
      | some z =>
        rw [hz] at hx2
        injection hx2 with hx2
        subst hx2
        exact cut_refs z.words
    exact ⟨s1.trans (Sub.rel hc2), t2.trans (RowSub.rel hc2), f1.sub (Sub.rel hc2) (RowSub.rel hc2), .inl rfl⟩
/-- What Drop leaves. -/
theorem drop_flat {H : Hp} {N : Nat} (h : Ok H N) (r : Int) (hr : 0 < holdsH H r) : Sub H (dropH H r).1 ∧ RowSub H (dropH H r).1 ∧ holdsH (dropH H r).1 r < holdsH H r ∧ (dropH H r).2 = 0 := by
  cases ho : Mp.get H.objs r with
  | none => unfold holdsH at hr; rw [ho] at hr; exact absurd hr (by decide)
  | some o =>
    have hr2 : holdsH H r = o.holds := by unfold holdsH; rw [ho]; rfl
    have key : ∀ G : Hp, Sub (H.upd r Ob.drop) G → holdsH G r < holdsH H r := fun G s => by
      rw [hr2]
      unfold holdsH
      cases hg : Mp.get G.objs r with
      | none => rw [hr2] at hr; exact hr
      | some y =>
        obtain ⟨y0, h0, _, _, _, _, _, _, a7⟩ := s.obj r y hg
        rw [get_upd, if_pos rfl, ho] at h0
        injection h0 with h0
        subst h0
        have a7 : y.holds ≤ o.holds - 1 := a7
        show y.holds < o.holds
        omega
    have h0 : o.holds ≠ 0 := by omega
    unfold dropH
    rw [ho]
    simp only
    rw [if_neg h0]
    by_cases hc : o.holds - 1 + o.rc = 0
    · rw [if_pos hc]
      have hd := h.inv.drop0 ho h0 hc
      rw [List.append_nil] at hd
      have s2 := (Sub.free (H.upd r Ob.drop) r o).trans (Sub.rel hd)
      have t2 : RowSub H (H.upd r Ob.drop) := RowSub.of_eq rfl
      exact ⟨(Sub.drop H r).trans s2, (t2.trans (RowSub.free _ r o)).trans (RowSub.rel hd), key _ s2, rfl⟩
    · rw [if_neg hc]
      exact ⟨Sub.drop H r, RowSub.of_eq rfl, key _ (Sub.refl _), rfl⟩
theorem mem_all (H : Hp) (r : Int) : r ∈ allH H ↔ Mp.get H.objs r ≠ none := by
  unfold allH keysS
  rw [List.mem_mergeSort]
  constructor
  · intro h e
    obtain ⟨p, hp, rfl⟩ := List.mem_map.1 h
    exact (Mp.get_none_iff H.objs p.1).1 e p hp rfl
  · intro h
    cases hg : Mp.get H.objs r with
    | none => exact absurd hg h
    | some o => exact List.mem_map.2 ⟨(r, o), Mp.mem_of_get hg, rfl⟩
theorem allH_nil {H : Hp} (h : H.objs = []) : allH H = [] := by unfold allH keysS; rw [h]; simp
theorem sum_zero {α : Type} {f : α → Nat} {L : List α} (h : ∀ p ∈ L, f p = 0) : (L.map f).sum = 0 := by
  induction L with
  | nil => rfl
  | cons p L ih =>
    simp only [List.map_cons, List.sum_cons]
    rw [h p (List.mem_cons_self ..), ih fun q hq => h q (List.mem_cons_of_mem _ hq)]
/-- The end: nothing refers to anything, nothing is held. -/
theorem ends_nil {H : Hp} {N : Nat} (h : Ok H N) (hf : ∀ r, Flat H r) (hh : ∀ r, holdsH H r ≤ 0) : allH H = [] := by
  refine allH_nil ?_
  cases hL : H.objs with
  | nil => rfl
  | cons p L =>
    exfalso
    obtain ⟨r, o⟩ := p
    have ho : Mp.get H.objs r = some o := Mp.get_of_mem h.inv.ndO (by rw [hL]; exact List.mem_cons_self ..)
    have h1 := h.inv.pos r o ho
    have h2 := hh r
    unfold holdsH at h2
    rw [ho] at h2
    have h2 : o.holds ≤ 0 := h2
    have h3 := h.inv.cnt r o ho
    have h4 : inH H r = 0 := by
      have a1 : rowOcc r H.rows = 0 := sum_zero fun q hq => by
        have hq2 : Mp.get H.rows q.1 = some q.2 := Mp.get_of_mem h.inv.ndR hq
        obtain ⟨s, y, hy, e⟩ := (fresh_of h.inv).2 q.1 q.2 hq2
        have := (hf s y hy).2 q.2 (by rw [e]; exact hq2)
        rw [this]; rfl
      have a2 : tailOcc r H.objs = 0 := sum_zero fun q hq => by
        have hq2 : Mp.get H.objs q.1 = some q.2 := Mp.get_of_mem h.inv.ndO hq
        have := (hf q.1 q.2 hq2).1
        unfold tailOf
        rw [if_pos this]; rfl
      show rowOcc r H.rows + tailOcc r H.objs = 0
      omega
    rw [h4] at h3
    simp at h3
    omega
end Go.Proofs.Ytodfpclekihbhaa

/- HeapReaches in plain Lean: what is reached, and what refers to what is not reached. -/
namespace Go.Proofs.Ytodfpclekihbhaa

/-- A key of a map. -/
def InM (M : List (Int × Bool)) (x : Int) : Prop := Mp.get M x = some true
def AllT (M : List (Int × Bool)) : Prop := ∀ x b, Mp.get M x = some b → b = true
theorem AllT.nil : AllT [] := fun x b h => by cases h
theorem AllT.put {M : List (Int × Bool)} (h : AllT M) (x : Int) : AllT (Mp.put M x true) := fun y b hy => by
  rw [Mp.get_put] at hy
  by_cases e : y = x
  · rw [if_pos e] at hy; injection hy with hy; exact hy.symm
  · rw [if_neg e] at hy; exact h y b hy
theorem InM.put {M : List (Int × Bool)} {x y : Int} : InM (Mp.put M x true) y ↔ y = x ∨ InM M y := by
  unfold InM
  rw [Mp.get_put]
  by_cases e : y = x
  · rw [if_pos e]; exact ⟨fun _ => .inl e, fun _ => rfl⟩
  · rw [if_neg e]; exact ⟨.inr, fun h => h.resolve_left e⟩
theorem not_inM {M : List (Int × Bool)} (h : AllT M) {x : Int} : ¬ InM M x ↔ Mp.get M x = none := by
  unfold InM
  cases hg : Mp.get M x with
  | none => simp
  | some b => rw [h x b hg]; simp
theorem inM_none {x : Int} : ¬ InM [] x := fun h => by cases h
/-- What is known of the objects that can be reached, while they are sought: all are objects, all that are held are there; what they refer to is there but for those that wait, and but for one. -/
structure Rch (H : Hp) (M : List (Int × Bool)) (q : List Int) (P : Int → Prop) : Prop where
  tr : AllT M
  nd : (M.map (·.1)).Nodup
  ex : ∀ x, InM M x → Mp.get H.objs x ≠ none
  held : ∀ r, 0 < holdsH H r → InM M r
  cl : ∀ x, InM M x → x ∈ q ∨ P x ∨ ∀ y ∈ refsH H x, InM M y
  sub : ∀ x ∈ q, InM M x
  len : q.length ≤ M.length
theorem Rch.le {H : Hp} {M : List (Int × Bool)} (hn : (M.map (·.1)).Nodup) (ht : AllT M) (ex : ∀ x, InM M x → Mp.get H.objs x ≠ none) : M.length ≤ H.objs.length := by
  have h2 := nodup_length_le (m := H.objs.map (·.1)) hn fun x hx => by
    obtain ⟨p, hp, rfl⟩ := List.mem_map.1 hx
    have h1 := Mp.get_of_mem hn hp
    have h3 : InM M p.1 := by unfold InM; rw [h1, ht _ _ h1]
    cases hg : Mp.get H.objs p.1 with
    | none => exact absurd hg (ex _ h3)
    | some o => exact List.mem_map.2 ⟨(p.1, o), Mp.mem_of_get hg, rfl⟩
  simpa using h2
/-- The first of those that wait is taken. -/
theorem Rch.pop {H : Hp} {M : List (Int × Bool)} {r : Int} {q : List Int} (h : Rch H M (r :: q) fun _ => False) : Rch H M q (· = r) where
  tr := h.tr
  nd := h.nd
  ex := h.ex
  held := h.held
  cl := fun x hx => by
    rcases h.cl x hx with h1 | h1 | h1
    · rcases List.mem_cons.1 h1 with h1 | h1
      · exact .inr (.inl h1)
      · exact .inl h1
    · exact h1.elim
    · exact .inr (.inr h1)
  sub := fun x hx => h.sub x (List.mem_cons_of_mem _ hx)
  len := by have := h.len; simp only [List.length_cons] at this; omega
theorem put_len {M : List (Int × Bool)} {x : Int} (h : Mp.get M x = none) : (Mp.put M x true).length = M.length + 1 := by rw [put_fresh h]; simp
/-- A new one is noted. -/
theorem Rch.add {H : Hp} {M : List (Int × Bool)} {q : List Int} {P : Int → Prop} (h : Rch H M q P) {x : Int} (hx : Mp.get M x = none) (hex : Mp.get H.objs x ≠ none) : Rch H (Mp.put M x true) (q ++ [x]) P where
  tr := h.tr.put x
  nd := Mp.nodup_put h.nd x true
  ex := fun y hy => by
    rcases InM.put.1 hy with rfl | hy
    · exact hex
    · exact h.ex y hy
  held := fun r hr => InM.put.2 (.inr (h.held r hr))
  cl := fun y hy => by
    rcases InM.put.1 hy with rfl | hy
    · exact .inl (by simp)
    · rcases h.cl y hy with h1 | h1 | h1
      · exact .inl (List.mem_append_left _ h1)
      · exact .inr (.inl h1)
      · exact .inr (.inr fun z hz => InM.put.2 (.inr (h1 z hz)))
  sub := fun y hy => by
    rcases List.mem_append.1 hy with hy | hy
    · exact InM.put.2 (.inr (h.sub y hy))
    · exact InM.put.2 (.inl (by simpa using hy))
  len := by have := h.len; rw [put_len hx]; simp only [List.length_append, List.length_cons, List.length_nil]; omega
theorem Rch.done {H : Hp} {M : List (Int × Bool)} {q : List Int} {r : Int} (h : Rch H M q (· = r)) (hr : ∀ y ∈ refsH H r, InM M y) : Rch H M q fun _ => False :=
  ⟨h.tr, h.nd, h.ex, h.held, fun x hx => by
    rcases h.cl x hx with h1 | h1 | h1
    · exact .inl h1
    · subst h1; exact .inr (.inr hr)
    · exact .inr (.inr h1), h.sub, h.len⟩
/-- While those that are held are sought. -/
structure Hld (H : Hp) (l : List Int) (M : List (Int × Bool)) (q : List Int) : Prop where
  tr : AllT M
  nd : (M.map (·.1)).Nodup
  ex : ∀ x, InM M x → Mp.get H.objs x ≠ none
  held : ∀ r ∈ l, 0 < holdsH H r → InM M r
  all : ∀ x, InM M x → x ∈ q ∧ x ∈ l
  sub : ∀ x ∈ q, InM M x
  len : q.length ≤ M.length
theorem Hld.nil (H : Hp) : Hld H [] [] [] := ⟨AllT.nil, List.nodup_nil, fun x h => (inM_none h).elim, fun r h => (by cases h), fun x h => (inM_none h).elim, fun x h => (by cases h), Nat.le_refl _⟩
theorem Hld.skip {H : Hp} {l : List Int} {M : List (Int × Bool)} {q : List Int} (h : Hld H l M q) {r : Int} (hr : ¬ 0 < holdsH H r) : Hld H (l ++ [r]) M q :=
  ⟨h.tr, h.nd, h.ex, fun x hx h0 => by
    rcases List.mem_append.1 hx with hx | hx
    · exact h.held x hx h0
    · obtain rfl : x = r := by simpa using hx
      exact absurd h0 hr, fun x hx => ⟨(h.all x hx).1, List.mem_append_left _ (h.all x hx).2⟩, h.sub, h.len⟩
theorem Hld.add {H : Hp} {l : List Int} {M : List (Int × Bool)} {q : List Int} (h : Hld H l M q) {r : Int} (hr : r ∉ l) (hex : Mp.get H.objs r ≠ none) : Hld H (l ++ [r]) (Mp.put M r true) (q ++ [r]) where
  tr := h.tr.put r
  nd := Mp.nodup_put h.nd r true
  ex := fun y hy => by
    rcases InM.put.1 hy with rfl | hy
    · exact hex
    · exact h.ex y hy
  held := fun x hx h0 => by
    rcases List.mem_append.1 hx with hx | hx
    · exact InM.put.2 (.inr (h.held x hx h0))
    · exact InM.put.2 (.inl (by simpa using hx))
  all := fun x hx => by
    rcases InM.put.1 hx with rfl | hx
    · simp
    · exact ⟨List.mem_append_left _ (h.all x hx).1, List.mem_append_left _ (h.all x hx).2⟩
  sub := fun y hy => by
    rcases List.mem_append.1 hy with hy | hy
    · exact InM.put.2 (.inr (h.sub y hy))
    · exact InM.put.2 (.inl (by simpa using hy))
  len := by
    have h1 : Mp.get M r = none := (not_inM h.tr).1 fun h1 => hr (h.all r h1).2
    have := h.len
    rw [put_len h1]; simp only [List.length_append, List.length_cons, List.length_nil]; omega
theorem holds_some {H : Hp} {r : Int} (h : 0 < holdsH H r) : Mp.get H.objs r ≠ none := fun e => by
  unfold holdsH at h
  rw [e] at h
  exact absurd h (by decide)
theorem Hld.rch {H : Hp} {M : List (Int × Bool)} {q : List Int} (h : Hld H (allH H) M q) : Rch H M q fun _ => False :=
  ⟨h.tr, h.nd, h.ex, fun r hr => h.held r ((mem_all H r).2 (holds_some hr)) hr, fun x hx => .inl (h.all x hx).1, h.sub, h.len⟩
theorem all_nodup {H : Hp} (hi : Inv H []) : (allH H).Nodup := by
  unfold allH keysS
  exact (List.mergeSort_perm _ _).nodup_iff.2 hi.ndO
/-- What is not reached is referred to by something that is not reached. -/
theorem from_not {H : Hp} {N : Nat} (ok : Ok H N) {M : List (Int × Bool)} (h : Rch H M [] fun _ => False) {r : Int} (hr : Mp.get H.objs r ≠ none) (hn : ¬ InM M r) : ∃ y, y ∈ allH H ∧ ¬ InM M y ∧ r ∈ refsH H y := by
  cases ho : Mp.get H.objs r with
  | none => exact absurd ho hr
  | some o =>
    have h1 := ok.inv.pos r o ho
    have h2 : ¬ 0 < holdsH H r := fun h2 => hn (h.held r h2)
    have h2 : ¬ 0 < o.holds := by unfold holdsH at h2; rw [ho] at h2; exact h2
    have h3 := ok.inv.cnt r o ho
    rw [List.count_nil] at h3
    have h4 : 1 ≤ inH H r := by omega
    have key : ∃ y p, Mp.get H.objs y = some p ∧ r ∈ targetsH H p := by
      have h5 : 1 ≤ rowOcc r H.rows ∨ 1 ≤ tailOcc r H.objs := by unfold inH at h4; omega
      rcases h5 with h5 | h5
      · have h6 : ∃ p ∈ H.rows, (refsOf p.2.words).count r ≠ 0 := Classical.byContradiction fun hc => by
          have : rowOcc r H.rows = 0 := sum_zero fun p hp => Classical.byContradiction fun hd => hc ⟨p, hp, hd⟩
          omega
        obtain ⟨p, hp, hc⟩ := h6
        have hp2 := Mp.get_of_mem ok.inv.ndR hp
        obtain ⟨s, y, hy, e⟩ := (fresh_of ok.inv).2 p.1 p.2 hp2
        refine ⟨s, y, hy, ?_⟩
        unfold targetsH Hp.rowOf
        rw [e, hp2]
        exact List.mem_append_left _ (List.count_pos_iff.1 (Nat.pos_of_ne_zero hc))
      · have h6 : ∃ p ∈ H.objs, (tailOf p.2).count r ≠ 0 := Classical.byContradiction fun hc => by
          have : tailOcc r H.objs = 0 := sum_zero fun p hp => Classical.byContradiction fun hd => hc ⟨p, hp, hd⟩
          omega
        obtain ⟨p, hp, hc⟩ := h6
        refine ⟨p.1, p.2, Mp.get_of_mem ok.inv.ndO hp, ?_⟩
        unfold targetsH
        exact List.mem_append_right _ (List.count_pos_iff.1 (Nat.pos_of_ne_zero hc))
    obtain ⟨y, p, hy, hm⟩ := key
    have hm2 : r ∈ refsH H y := by unfold refsH; rw [hy]; exact hm
    refine ⟨y, (mem_all H y).2 (by rw [hy]; simp), fun hyM => ?_, hm2⟩
    rcases h.cl y hyM with h1 | h1 | h1
    · cases h1
    · exact h1
    · exact hn (h1 r hm2)
theorem refs_exist {H : Hp} {N : Nat} (ok : Ok H N) {r x : Int} (h : x ∈ refsH H r) : Mp.get H.objs x ≠ none := by
  unfold refsH at h
  cases ho : Mp.get H.objs r with
  | none => rw [ho] at h; cases h
  | some o => rw [ho] at h; exact (ok.inv.targets_in ho h).2
theorem kind_some {H : Hp} {N : Nat} (ok : Ok H N) {r : Int} (h : Mp.get H.objs r ≠ none) : kindH H r ≠ 0 := by
  unfold kindH
  cases ho : Mp.get H.objs r with
  | none => exact absurd ho h
  | some o =>
    have := (ok.st.kind r o ho).1
    show o.kind ≠ 0
    omega
end Go.Proofs.Ytodfpclekihbhaa

/- HeapCounts in plain Lean: references counted one by one. -/
namespace Go.Proofs.Ytodfpclekihbhaa

def gC (C : List (Int × Int)) (x : Int) : Int := (Mp.get C x).getD 0
/-- The number at a key goes up. -/
def upC (C : List (Int × Int)) (x n : Int) : List (Int × Int) := Mp.put C x (gC C x + n)
theorem gC_up (C : List (Int × Int)) (x n y : Int) : gC (upC C x n) y = gC C y + if y = x then n else 0 := by
  unfold upC
  show ((Mp.get (Mp.put C x (gC C x + n)) y)).getD 0 = _
  rw [Mp.get_put]
  by_cases e : y = x
  · rw [if_pos e, if_pos e, e]; rfl
  · rw [if_neg e, if_neg e]; show gC C y = _; omega
def upAll (C : List (Int × Int)) (l : List Int) : List (Int × Int) := l.foldl (fun C x => upC C x 1) C
theorem upAll_snoc (C : List (Int × Int)) (l : List Int) (x : Int) : upAll C (l ++ [x]) = upC (upAll C l) x 1 := by unfold upAll; rw [List.foldl_append]; rfl
theorem gC_all (C : List (Int × Int)) (l : List Int) (y : Int) : gC (upAll C l) y = gC C y + (l.count y : Nat) := by
  induction l generalizing C with
  | nil => simp [upAll]
  | cons x l ih =>
    have e : upAll C (x :: l) = upAll (upC C x 1) l := rfl
    rw [e, ih, gC_up, count_cons']
    by_cases h : y = x
    · rw [if_pos h, if_pos h]; omega
    · rw [if_neg h, if_neg h]; omega
/-- A key of the counts. -/
def InC (C : List (Int × Int)) (x : Int) : Prop := Mp.get C x ≠ none
theorem inC_up {C : List (Int × Int)} {x n y : Int} : InC (upC C x n) y ↔ y = x ∨ InC C y := by
  unfold InC upC
  rw [Mp.get_put]
  by_cases e : y = x
  · rw [if_pos e]; simp [e]
  · rw [if_neg e]; simp [e]
theorem inC_all {C : List (Int × Int)} {l : List Int} {y : Int} : InC (upAll C l) y ↔ y ∈ l ∨ InC C y := by
  induction l generalizing C with
  | nil => simp [upAll]
  | cons x l ih =>
    have e : upAll C (x :: l) = upAll (upC C x 1) l := rfl
    rw [e, ih, inC_up, List.mem_cons]
    constructor
    · rintro (h | h | h)
      · exact .inl (.inr h)
      · exact .inl (.inl h)
      · exact .inr h
    · rintro ((h | h) | h)
      · exact .inr (.inl h)
      · exact .inl h
      · exact .inr (.inr h)
def kindIs2 (H : Hp) (r : Int) : Prop := kindH H r = 2
def rowK (H : Hp) (r : Int) : Int := ((Mp.get H.objs r).map (·.row)).getD 0
def skipA (H : Hp) (S : List (Int × Bool)) (r : Int) : Prop := kindH H r = 2 ∧ InM S (rowK H r)
def cntC (H : Hp) (C : List (Int × Int)) (r : Int) : List (Int × Int) := upC C r (holdsH H r)
/-- Counted are the holds of l, the references of the rows D and the tails of l; S are the stores among D. -/
structure Cnt (H : Hp) (l D : List Int) (C : List (Int × Int)) (S : List (Int × Bool)) : Prop where
  dn : D.Nodup
  dr : ∀ k, k ∈ D ↔ ∃ r ∈ l, ∃ o, Mp.get H.objs r = some o ∧ o.row = k
  tr : AllT S
  sd : ∀ k, InM S k ↔ ∃ r ∈ l, ∃ o, Mp.get H.objs r = some o ∧ o.kind = 2 ∧ o.row = k
  val : ∀ x, gC C x = (if x ∈ l then holdsH H x else 0) + ((D.map fun k => (refsOf (H.rowOf k)).count x).sum + (l.map fun r => (((Mp.get H.objs r).map tailOf).getD []).count x).sum : Nat)
  key : ∀ x, InC C x → Mp.get H.objs x ≠ none
  has : ∀ x ∈ l, InC C x
theorem Cnt.nil (H : Hp) : Cnt H [] [] [] [] := ⟨List.nodup_nil, fun k => by simp, AllT.nil, fun k => ⟨fun h => (inM_none h).elim, fun ⟨r, h, _⟩ => by cases h⟩, fun x => by simp [gC, Mp.get], fun x h => absurd rfl h, fun x h => by cases h⟩
/-- An array whose store has been counted. -/
theorem Cnt.skip {H : Hp} {N : Nat} (ok : Ok H N) {l D : List Int} {C : List (Int × Int)} {S : List (Int × Bool)} (h : Cnt H l D C S) {r : Int} {o : Ob} (ho : Mp.get H.objs r = some o) (hk : o.kind = 2) (hs : InM S o.row) (hr : r ∉ l) : Cnt H (l ++ [r]) D (cntC H C r) S := by
  obtain ⟨x0, hx0, hA, ht⟩ := ok.inv.row r o ho
  have hin : o.row ∈ D := (h.dr o.row).2 (by obtain ⟨r', h1, o', h2, _, h3⟩ := (h.sd o.row).1 hs; exact ⟨r', h1, o', h2, h3⟩)
  refine ⟨h.dn, fun k => ?_, h.tr, fun k => ?_, fun x => ?_, fun x hx => ?_, fun x hx => ?_⟩
  · rw [h.dr]
    constructor
    · rintro ⟨r', h1, h2⟩; exact ⟨r', List.mem_append_left _ h1, h2⟩
    · rintro ⟨r', h1, o', h2, h3⟩
      rcases List.mem_append.1 h1 with h1 | h1
      · exact ⟨r', h1, o', h2, h3⟩
      · obtain rfl : r' = r := by simpa using h1
        rw [ho] at h2; cases h2
        rw [← h3]
        exact (h.dr o.row).1 hin
  · rw [h.sd]
    constructor
    · rintro ⟨r', h1, h2⟩; exact ⟨r', List.mem_append_left _ h1, h2⟩
    · rintro ⟨r', h1, o', h2, h3, h4⟩
      rcases List.mem_append.1 h1 with h1 | h1
      · exact ⟨r', h1, o', h2, h3, h4⟩
      · obtain rfl : r' = r := by simpa using h1
        rw [ho] at h2; cases h2
        rw [← h4]
        exact (h.sd o.row).1 hs
  · unfold cntC
    rw [gC_up, h.val, List.map_append, List.sum_append]
    have e : tailOf o = [] := by unfold tailOf; rw [if_pos (ht hk)]
    simp only [List.map_cons, List.map_nil, List.sum_cons, List.sum_nil, ho, Option.map_some, Option.getD_some, e, List.count_nil, List.mem_append, List.mem_singleton]
    by_cases hx : x = r
    · subst hx
      rw [if_neg hr, if_pos rfl, if_pos (.inr rfl)]; omega
    · rw [if_neg hx]
      by_cases hl : x ∈ l
      · rw [if_pos hl, if_pos (.inl hl)]; omega
      · rw [if_neg hl, if_neg (by rintro (h | h); exact hl h; exact hx h)]; omega
  · rcases inC_up.1 hx with rfl | hx
    · rw [ho]; simp
    · exact h.key x hx
  · rcases List.mem_append.1 hx with hx | hx
    · exact inC_up.2 (.inr (h.has x hx))
    · exact inC_up.2 (.inl (by simpa using hx))
/-- Any other object: its references are counted. -/
theorem Cnt.next {H : Hp} {N : Nat} (ok : Ok H N) {l D : List Int} {C : List (Int × Int)} {S S' : List (Int × Bool)} (h : Cnt H l D C S) {r : Int} {o : Ob} (ho : Mp.get H.objs r = some o) (hs : o.kind = 2 → ¬ InM S o.row) (hr : r ∉ l)
    (hS : (o.kind = 2 ∧ S' = Mp.put S o.row true) ∨ (o.kind ≠ 2 ∧ S' = S)) : Cnt H (l ++ [r]) (D ++ [o.row]) (upAll (cntC H C r) (refsH H r)) S' := by
  obtain ⟨x0, hx0, hA, ht⟩ := ok.inv.row r o ho
  have hnot : o.row ∉ D := fun hd => by
    obtain ⟨r', h1, o', h2, h3⟩ := (h.dr _).1 hd
    obtain ⟨y0, hy0, hB, _⟩ := ok.inv.row r' o' h2
    rw [h3, hx0] at hy0
    injection hy0 with hy0
    subst hy0
    by_cases hk : o.kind = 2
    · exact hs hk ((h.sd _).2 ⟨r', h1, o', h2, hB.1 (hA.2 hk), h3⟩)
    · have hk' : o'.kind ≠ 2 := fun e => hk (hA.1 (hB.2 e))
      have e1 := (ok.st.own r o ho).2.2 hk
      have e2 := (ok.st.own r' o' h2).2.2 hk'
      exact hr (by rw [← e1, ← h3, e2]; exact h1)
  refine ⟨?_, fun k => ?_, ?_, fun k => ?_, fun x => ?_, fun x hx => ?_, fun x hx => ?_⟩
  · exact List.nodup_append.2 ⟨h.dn, by simp, fun a ha b hb e => by
      obtain rfl : b = o.row := by simpa using hb
      exact hnot (e ▸ ha)⟩
  · rw [List.mem_append, h.dr]
    constructor
    · rintro (⟨r', h1, h2⟩ | h1)
      · exact ⟨r', List.mem_append_left _ h1, h2⟩
      · obtain rfl : k = o.row := by simpa using h1
        exact ⟨r, by simp, o, ho, rfl⟩
    · rintro ⟨r', h1, o', h2, h3⟩
      rcases List.mem_append.1 h1 with h1 | h1
      · exact .inl ⟨r', h1, o', h2, h3⟩
      · obtain rfl : r' = r := by simpa using h1
        rw [ho] at h2; cases h2
        exact .inr (by simp [h3])
  · rcases hS with ⟨_, rfl⟩ | ⟨_, rfl⟩
    · exact h.tr.put _
    · exact h.tr
  · have base : (∃ r' ∈ l ++ [r], ∃ o', Mp.get H.objs r' = some o' ∧ o'.kind = 2 ∧ o'.row = k) ↔ InM S k ∨ (o.kind = 2 ∧ o.row = k) := by
      rw [h.sd]
      constructor
      · rintro ⟨r', h1, o', h2, h3, h4⟩
        rcases List.mem_append.1 h1 with h1 | h1
        · exact .inl ⟨r', h1, o', h2, h3, h4⟩
        · obtain rfl : r' = r := by simpa using h1
          rw [ho] at h2; cases h2
          exact .inr ⟨h3, h4⟩
      · rintro (⟨r', h1, h2⟩ | ⟨h1, h2⟩)
        · exact ⟨r', List.mem_append_left _ h1, h2⟩
        · exact ⟨r, by simp, o, ho, h1, h2⟩
    rw [base]
    rcases hS with ⟨h1, rfl⟩ | ⟨h1, rfl⟩
    · rw [InM.put]
      constructor
      · rintro (h2 | h2)
        · exact .inr ⟨h1, h2.symm⟩
        · exact .inl h2
      · rintro (h2 | h2)
        · exact .inr h2
        · exact .inl h2.2.symm
    · exact ⟨.inl, fun h2 => h2.elim id fun h3 => absurd h3.1 h1⟩
  · rw [gC_all]
    unfold cntC
    rw [gC_up, h.val, List.map_append, List.sum_append, List.map_append, List.sum_append]
    have e : (refsH H r).count x = (refsOf (H.rowOf o.row)).count x + (tailOf o).count x := by
      unfold refsH targetsH
      rw [ho]
      simp only
      rw [List.count_append]
    rw [e]
    simp only [List.map_cons, List.map_nil, List.sum_cons, List.sum_nil, ho, Option.map_some, Option.getD_some, List.mem_append, List.mem_singleton]
    by_cases hx : x = r
    · subst hx
      rw [if_neg hr, if_pos rfl, if_pos (.inr rfl)]; omega
    · rw [if_neg hx]
      by_cases hl : x ∈ l
      · rw [if_pos hl, if_pos (.inl hl)]; omega
      · rw [if_neg hl, if_neg (by rintro (h | h); exact hl h; exact hx h)]; omega
  · rcases inC_all.1 hx with hx | hx
    · exact refs_exist ok hx
    · rcases inC_up.1 hx with rfl | hx
      · rw [ho]; simp
      · exact h.key x hx
  · refine inC_all.2 (.inr ?_)
    rcases List.mem_append.1 hx with hx | hx
    · exact inC_up.2 (.inr (h.has x hx))
    · exact inC_up.2 (.inl (by simpa using hx))
theorem perm_sum {α : Type} {l m : List α} (h : l.Perm m) (f : α → Nat) : (l.map f).sum = (m.map f).sum := by
  induction h with
  | nil => rfl
  | cons x _ ih => simp only [List.map_cons, List.sum_cons, ih]
  | swap x y l => simp only [List.map_cons, List.sum_cons]; omega
  | trans _ _ h1 h2 => exact h1.trans h2
theorem perm_of_nodup {l m : List Int} (hl : l.Nodup) (hm : m.Nodup) (h : ∀ x, x ∈ l ↔ x ∈ m) : l.Perm m := (List.perm_ext_iff_of_nodup hl hm).2 h
/-- When all are counted the counts are those of the heap. -/
theorem Cnt.done {H : Hp} {N : Nat} (ok : Ok H N) {D : List Int} {C : List (Int × Int)} {S : List (Int × Bool)} (h : Cnt H (allH H) D C S) : (∀ x n, Mp.get C x = some n → n = countH H x ∧ n ≠ 0 ∧ x ∈ allH H) ∧ ∀ x, x ∈ C.map (·.1) ↔ x ∈ allH H := by
  have hD : D.Perm (H.rows.map (·.1)) := perm_of_nodup h.dn ok.inv.ndR fun k => by
    rw [h.dr]
    constructor
    · rintro ⟨r, _, o, ho, rfl⟩
      obtain ⟨x0, hx0, _⟩ := ok.inv.row r o ho
      exact List.mem_map.2 ⟨_, Mp.mem_of_get hx0, rfl⟩
    · intro hk
      obtain ⟨p, hp, rfl⟩ := List.mem_map.1 hk
      obtain ⟨s, y, hy, e⟩ := (fresh_of ok.inv).2 p.1 p.2 (Mp.get_of_mem ok.inv.ndR hp)
      exact ⟨s, (mem_all H s).2 (by rw [hy]; simp), y, hy, e⟩
  have hA : (allH H).Perm (H.objs.map (·.1)) := by unfold allH keysS; exact List.mergeSort_perm _ _
  have hv : ∀ x, Mp.get H.objs x ≠ none → gC C x = countH H x := fun x hx => by
    rw [h.val, if_pos ((mem_all H x).2 hx), perm_sum hD, perm_sum hA, List.map_map, List.map_map]
    have e1 : (H.rows.map ((fun k => (refsOf (H.rowOf k)).count x) ∘ fun p => p.1)).sum = rowOcc x H.rows := by
      unfold rowOcc
      congr 1
      apply List.map_congr_left
      intro p hp
      simp only [Function.comp]
      unfold Hp.rowOf
      rw [Mp.get_of_mem ok.inv.ndR (x := p.1) (a := p.2) hp]
      rfl
    have e2 : (H.objs.map ((fun r => (((Mp.get H.objs r).map tailOf).getD []).count x) ∘ fun p => p.1)).sum = tailOcc x H.objs := by
      unfold tailOcc
      congr 1
      apply List.map_congr_left
      intro p hp
      simp only [Function.comp]
      rw [Mp.get_of_mem ok.inv.ndO (x := p.1) (a := p.2) hp]
      rfl
    rw [e1, e2]
    cases ho : Mp.get H.objs x with
    | none => exact absurd ho hx
    | some o =>
      have h3 := ok.inv.cnt x o ho
      rw [List.count_nil] at h3
      unfold holdsH countH
      rw [ho]
      show o.holds + _ = o.holds + o.rc
      rw [h3]
      unfold inH
      omega
  refine ⟨fun x n hx => ?_, fun x => ?_⟩
  · have h1 := h.key x (by unfold InC; rw [hx]; simp)
    have h2 := hv x h1
    have h3 : gC C x = n := by unfold gC; rw [hx]; rfl
    refine ⟨by omega, ?_, (mem_all H x).2 h1⟩
    cases ho : Mp.get H.objs x with
    | none => exact absurd ho h1
    | some o =>
      have h4 := ok.inv.pos x o ho
      have h5 : countH H x = o.holds + o.rc := by unfold countH; rw [ho]; rfl
      omega
  · have hk : x ∈ C.map (·.1) ↔ InC C x := by
      unfold InC
      constructor
      · intro hx e
        obtain ⟨p, hp, rfl⟩ := List.mem_map.1 hx
        exact (Mp.get_none_iff C p.1).1 e p hp rfl
      · intro hx
        cases hg : Mp.get C x with
        | none => exact absurd hg hx
        | some n => exact List.mem_map.2 ⟨(x, n), Mp.mem_of_get hg, rfl⟩
    rw [hk]
    exact ⟨fun hx => (mem_all H x).2 (h.key x hx), fun hx => h.has x hx⟩
theorem Cnt.len {H : Hp} {N : Nat} (ok : Ok H N) {D : List Int} {C : List (Int × Int)} {S : List (Int × Bool)} (h : Cnt H (allH H) D C S) (hn : (C.map (·.1)).Nodup) : C.length = (allH H).length := by
  have := (perm_of_nodup hn (all_nodup ok.inv) (h.done ok).2).length_eq
  simpa using this
end Go.Proofs.Ytodfpclekihbhaa

