/- What holds of every heap that calls have made: what does not concern the counts. -/
import Derived.Test.YtodfpclekihbhaaL3
namespace Go.Proofs.Ytodfpclekihbhaa

/-- Objects with words have as many as their shape says. -/
def LenOk (H : Hp) : Prop := ∀ r o x, Mp.get H.objs r = some o → Mp.get H.rows o.row = some x → (o.kind ≠ 2 → o.kind ≠ 1 → o.kind ≠ 5 → x.words.length = o.refs.length) ∧ (o.kind = 2 → o.lo ≤ o.hi ∧ o.hi * o.refs.length ≤ x.words.length ∧ o.hi ≤ 100000) ∧ o.refs.length ≤ 256
theorem words_le_mu {H : Hp} {k : Int} {y : Rw} (h : Mp.get H.rows k = some y) : y.words.length ≤ muH H := by have := words_le h; unfold muH; omega
def HoldsLe (H : Hp) (n : Int) : Prop := ∀ r o, Mp.get H.objs r = some o → o.holds ≤ n
structure St (H : Hp) (N : Nat) : Prop where
  last : H.last ≤ N
  holds : HoldsLe H (N : Int)
  words : wsum H.rows ≤ 15000 * N
  own : ∀ r o, Mp.get H.objs r = some o → 1 ≤ o.row ∧ o.row ≤ H.last ∧ (o.kind ≠ 2 → o.row = r)
  len : LenOk H
  kind : ∀ r o, Mp.get H.objs r = some o → 1 ≤ o.kind ∧ o.kind ≤ 7
  tail : ∀ r o, Mp.get H.objs r = some o → o.tail ≠ 0 → o.kind = 3 ∧ o.tail < r ∧ ∀ t, Mp.get H.objs o.tail = some t → t.kind = 3
structure Sub (H G : Hp) : Prop where
  last : G.last = H.last
  words : wsum G.rows ≤ wsum H.rows
  obj : ∀ r o, Mp.get G.objs r = some o → ∃ o0, Mp.get H.objs r = some o0 ∧ o.kind = o0.kind ∧ o.refs = o0.refs ∧ o.row = o0.row ∧ o.lo = o0.lo ∧ o.hi = o0.hi ∧ (o.tail = o0.tail ∨ o.tail = 0) ∧ o.holds ≤ o0.holds
  row : ∀ k x, Mp.get G.rows k = some x → ∃ x0, Mp.get H.rows k = some x0 ∧ x.words.length = x0.words.length
theorem Sub.refl (H : Hp) : Sub H H := ⟨rfl, Nat.le_refl _, fun r o h => ⟨o, h, rfl, rfl, rfl, rfl, rfl, .inl rfl, Int.le_refl _⟩, fun k x h => ⟨x, h, rfl⟩⟩
theorem Sub.trans {H G F : Hp} (h : Sub H G) (k : Sub G F) : Sub H F := ⟨k.last.trans h.last, Nat.le_trans k.words h.words, fun r o ho => by
    obtain ⟨o1, h1, a1, a2, a3, a4, a5, a6, a7⟩ := k.obj r o ho
    obtain ⟨o0, h0, b1, b2, b3, b4, b5, b6, b7⟩ := h.obj r o1 h1
    refine ⟨o0, h0, a1.trans b1, a2.trans b2, a3.trans b3, a4.trans b4, a5.trans b5, ?_, Int.le_trans a7 b7⟩
    rcases a6 with a6 | a6
    · rcases b6 with b6 | b6
      · exact .inl (a6.trans b6)
      · exact .inr (a6.trans b6)
    · exact .inr a6, fun j x hx => by
    obtain ⟨x1, h1, a1⟩ := k.row j x hx
    obtain ⟨x0, h0, b1⟩ := h.row j x1 h1
    exact ⟨x0, h0, a1.trans b1⟩⟩
theorem St.sub {H G : Hp} {N : Nat} (h : St H N) (k : Sub H G) : St G N where
  last := by rw [k.last]; exact h.last
  holds := fun r o ho => by
    obtain ⟨o0, h0, _, _, _, _, _, _, b⟩ := k.obj r o ho
    exact Int.le_trans b (h.holds r o0 h0)
  words := Nat.le_trans k.words h.words
  own := fun r o ho => by
    obtain ⟨o0, h0, a1, a2, a3, _⟩ := k.obj r o ho
    rw [a1, a3, k.last]; exact h.own r o0 h0
  len := fun r o x ho hx => by
    obtain ⟨o0, h0, a1, a2, a3, a4, a5, _⟩ := k.obj r o ho
    obtain ⟨x0, h1, b1⟩ := k.row _ x hx
    rw [a3] at h1
    rw [a1, a2, a4, a5, b1]
    exact h.len r o0 x0 h0 h1
  kind := fun r o ho => by
    obtain ⟨o0, h0, a1, _⟩ := k.obj r o ho
    rw [a1]; exact h.kind r o0 h0
  tail := fun r o ho ht => by
    obtain ⟨o0, h0, a1, a2, a3, a4, a5, a6, _⟩ := k.obj r o ho
    rcases a6 with a6 | a6
    · rw [a6] at ht
      obtain ⟨b1, b2, b3⟩ := h.tail r o0 h0 ht
      rw [a1, a6]
      refine ⟨b1, b2, fun t hgt => ?_⟩
      obtain ⟨t0, c0, c1, _⟩ := k.obj _ t hgt
      rw [c1]; exact b3 t0 c0
    · exact absurd a6 ht
theorem Sub.see (H : Hp) (r : Int) : Sub H (seeH H r) := ⟨seeH_last H r, by rw [seeH_rows]; exact Nat.le_refl _, fun x o ho => by rw [seeH_objs] at ho; exact (Sub.refl H).obj x o ho, fun k x hx => by rw [seeH_rows] at hx; exact ⟨x, hx, rfl⟩⟩
theorem Sub.upd (H : Hp) (r : Int) (f : Ob → Ob) (hf : ∀ o0, (f o0).kind = o0.kind ∧ (f o0).refs = o0.refs ∧ (f o0).row = o0.row ∧ (f o0).lo = o0.lo ∧ (f o0).hi = o0.hi ∧ ((f o0).tail = o0.tail ∨ (f o0).tail = 0) ∧ (f o0).holds ≤ o0.holds) : Sub H (H.upd r f) :=
  ⟨rfl, Nat.le_refl _, fun x o ho => by
    rw [get_upd] at ho
    by_cases e : x = r
    · rw [if_pos e] at ho
      cases hz : Mp.get H.objs x with
      | none => rw [hz] at ho; cases ho
      | some z =>
        rw [hz] at ho
        injection ho with ho
        subst ho
        exact ⟨z, rfl, hf z⟩
    · rw [if_neg e] at ho
      exact (Sub.refl H).obj x o ho, fun k x hx => ⟨x, hx, rfl⟩⟩
theorem Sub.inc (H : Hp) (r : Int) : Sub H (H.upd r Ob.inc) := Sub.upd H r _ fun _ => ⟨rfl, rfl, rfl, rfl, rfl, .inl rfl, Int.le_refl _⟩
theorem Sub.dec (H : Hp) (r : Int) : Sub H (H.upd r Ob.dec) := Sub.upd H r _ fun _ => ⟨rfl, rfl, rfl, rfl, rfl, .inl rfl, Int.le_refl _⟩
theorem Sub.cut (H : Hp) (r : Int) : Sub H (H.upd r Ob.cut) := Sub.upd H r _ fun _ => ⟨rfl, rfl, rfl, rfl, rfl, .inr rfl, Int.le_refl _⟩
theorem Sub.drop (H : Hp) (r : Int) : Sub H (H.upd r Ob.drop) := Sub.upd H r _ fun o => ⟨rfl, rfl, rfl, rfl, rfl, .inl rfl, by show o.holds - 1 ≤ o.holds; omega⟩
theorem Sub.refer (H : Hp) (r : Int) : Sub H (referH H r) := by
  unfold referH
  split
  · exact Sub.refl H
  · exact Sub.inc H r
theorem Sub.updR (H : Hp) (k : Int) (f : Rw → Rw) (hf : ∀ x, (f x).words.length = x.words.length) : Sub H (H.updR k f) :=
  ⟨rfl, by show wsum (mapAt H.rows k f) ≤ _; rw [wsum_mapAt _ _ _ hf]; exact Nat.le_refl _, fun x o ho => (Sub.refl H).obj x o ho, fun j x hx => by
    have hx' : Mp.get (mapAt H.rows k f) j = some x := hx
    rw [get_mapAt] at hx'
    by_cases e : j = k
    · rw [if_pos e] at hx'
      cases hz : Mp.get H.rows j with
      | none => rw [hz] at hx'; cases hx'
      | some z =>
        rw [hz] at hx'
        injection hx' with hx'
        subst hx'
        exact ⟨z, rfl, hf z⟩
    · rw [if_neg e] at hx'
      exact ⟨x, hx', rfl⟩⟩
theorem Sub.setW (H : Hp) (k : Int) (i : Nat) (v : Wd) : Sub H (setW H k i v) := Sub.updR H k _ fun x => by simp
theorem Sub.seeAll (H : Hp) (l : List Int) : Sub H (seeAll H l) := by
  induction l generalizing H with
  | nil => exact Sub.refl H
  | cons x l ih => exact (Sub.see H x).trans (ih _)
theorem get_del_some {α : Type} {L : List (Int × α)} {r x : Int} {o : α} (h : Mp.get (Mp.del L r) x = some o) : Mp.get L x = some o := by
  rw [Mp.get_del] at h
  by_cases e : x = r
  · rw [if_pos e] at h; cases h
  · rw [if_neg e] at h; exact h
theorem wsum_del_le (L : List (Int × Rw)) (k : Int) : wsum (Mp.del L k) ≤ wsum L := by
  unfold wsum Mp.del
  induction L with
  | nil => exact Nat.le_refl _
  | cons p L ih =>
    simp only [List.filter_cons]
    split
    · simp only [List.map_cons, List.sum_cons]; omega
    · simp only [List.map_cons, List.sum_cons]; omega
theorem Sub.free (H : Hp) (r : Int) (o : Ob) : Sub H (freeH H r o).1 := by
  have ho : ∀ x y, Mp.get (freeH H r o).1.objs x = some y → Mp.get H.objs x = some y := fun x y hy => by
    rw [freeH_objs] at hy
    exact get_del_some hy
  have hrest : (freeH H r o).1.last = H.last ∧ wsum (freeH H r o).1.rows ≤ wsum H.rows ∧ ∀ k x, Mp.get (freeH H r o).1.rows k = some x → ∃ x0, Mp.get H.rows k = some x0 ∧ x.words.length = x0.words.length := by
    unfold freeH
    split
    · exact ⟨rfl, Nat.le_refl _, fun k x hx => ⟨x, hx, rfl⟩⟩
    · split
      · exact ⟨rfl, (Sub.updR H o.row Rw.dec fun _ => rfl).words, (Sub.updR H o.row Rw.dec fun _ => rfl).row⟩
      · exact ⟨rfl, wsum_del_le _ _, fun k x hx => ⟨x, get_del_some hx, rfl⟩⟩
  exact ⟨hrest.1, hrest.2.1, fun x y hy => (Sub.refl H).obj x y (ho x y hy), hrest.2.2⟩
theorem Sub.rel {H : Hp} {st : List Int} (h : Inv H st) : Sub H (relH H st) := by
  generalize hm : muH H + st.length = m
  induction m using Nat.strongRecOn generalizing H st with
  | ind m ih =>
    cases st with
    | nil => rw [relH_nil]; exact Sub.refl H
    | cons r st =>
      by_cases h0 : r = 0
      · subst h0
        rw [relH_zero]
        exact ih _ (by simp at hm; omega) h.zero rfl
      · obtain ⟨o, ho⟩ := h.some_of h0
        have hp := h.pos r o ho
        by_cases hc : o.holds + (o.rc - 1) = 0
        · rw [relH_free st h0 ho hc]
          refine ((Sub.dec H r).trans (Sub.free _ r o)).trans (ih _ ?_ (h.free ho hc) rfl)
          have h1 : Mp.get (H.upd r Ob.dec).objs r = some o.dec := by rw [get_upd, if_pos rfl, ho]; rfl
          have h2 := mu_free _ r o _ h1
          rw [mu_upd] at h2
          simp at hm ⊢
          omega
        · rw [relH_keep st h0 ho hc]
          refine (Sub.dec H r).trans (ih _ ?_ (h.dec ho (by omega)) rfl)
          rw [mu_upd]
          simp at hm
          omega
/-- What was seen has existed. -/
def SeenOk (H : Hp) : Prop := ∀ r b, Mp.get H.seen r = some b → 1 ≤ r ∧ r ≤ H.last
/-- A heap that calls have made. -/
structure Ok (H : Hp) (N : Nat) : Prop where
  inv : Inv H []
  st : St H N
  seen : SeenOk H
theorem St.mono {H : Hp} {N M : Nat} (h : St H N) (k : N ≤ M) : St H M := { h with last := Nat.le_trans h.last k, holds := fun r o ho => Int.le_trans (h.holds r o ho) (by omega), words := Nat.le_trans h.words (Nat.mul_le_mul_left _ k) }
theorem Ok.mono {H : Hp} {N M : Nat} (h : Ok H N) (k : N ≤ M) : Ok H M := ⟨h.inv, h.st.mono k, h.seen⟩
theorem nodup_length_le {α : Type} [DecidableEq α] {l m : List α} (hn : l.Nodup) (h : ∀ x ∈ l, x ∈ m) : l.length ≤ m.length := by
  induction l generalizing m with
  | nil => exact Nat.zero_le _
  | cons x l ih =>
    rw [List.nodup_cons] at hn
    have hx := h x (List.mem_cons_self ..)
    have h1 := ih (m := m.erase x) hn.2 fun y hy => (List.mem_erase_of_ne (fun e : y = x => hn.1 (by rw [← e]; exact hy))).2 (h y (List.mem_cons_of_mem _ hy))
    rw [List.length_erase_of_mem hx] at h1
    have := List.length_pos_of_mem hx
    simp only [List.length_cons]
    omega
theorem length_le_of_keys {α : Type} {L : List (Int × α)} {n : Nat} (hn : (L.map (·.1)).Nodup) (h : ∀ r o, Mp.get L r = some o → 1 ≤ r ∧ r ≤ (n : Int)) : L.length ≤ n := by
  have h1 : ∀ x ∈ L.map (·.1), x ∈ (List.range n).map fun i : Nat => (i : Int) + 1 := fun x hx => by
    obtain ⟨p, hp, rfl⟩ := List.mem_map.1 hx
    have := h p.1 p.2 (Mp.get_of_mem hn hp)
    exact List.mem_map.2 ⟨(p.1 - 1).toNat, List.mem_range.2 (by omega), by omega⟩
  have h2 := nodup_length_le hn h1
  simpa using h2
theorem Ok.objs_le {H : Hp} {N : Nat} (h : Ok H N) : H.objs.length ≤ N := Nat.le_trans (length_le_of_keys h.inv.ndO h.inv.rng) h.st.last
theorem Ok.mu {H : Hp} {N : Nat} (h : Ok H N) : muH H ≤ 15002 * N := by
  have h1 := h.objs_le
  have h2 := h.st.words
  unfold muH
  omega
theorem Ok.row_le {H : Hp} {N : Nat} (h : Ok H N) : ∀ r o, Mp.get H.objs r = some o → o.row ≤ H.last := fun r o ho => (h.st.own r o ho).2.1
end Go.Proofs.Ytodfpclekihbhaa
