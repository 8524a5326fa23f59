/- The calls keep what holds of a heap. -/
import Derived.Test.YtodfpclekihbhaaL5
namespace Go.Proofs.Ytodfpclekihbhaa

theorem SeenOk.see {H : Hp} (h : SeenOk H) {r : Int} (hr : r = 0 ∨ 1 ≤ r ∧ r ≤ H.last) : SeenOk (seeH H r) := by
  unfold seeH
  by_cases hc : H.watched = true ∧ r ≠ 0
  · rw [if_pos hc]
    intro x b hx
    have hx' : Mp.get (Mp.put H.seen r true) x = some b := hx
    rw [Mp.get_put] at hx'
    by_cases e : x = r
    · rw [e]; exact hr.resolve_left hc.2
    · rw [if_neg e] at hx'; exact h x b hx'
  · rw [if_neg hc]; exact h
theorem SeenOk.same {H G : Hp} (h : SeenOk H) (h1 : G.seen = H.seen) (h2 : G.last = H.last) : SeenOk G := by unfold SeenOk; rw [h1, h2]; exact h
theorem freeH_seen (H : Hp) (r : Int) (o : Ob) : (freeH H r o).1.seen = H.seen ∧ (freeH H r o).1.watched = H.watched := by
  unfold freeH
  split
  · exact ⟨rfl, rfl⟩
  · split <;> exact ⟨rfl, rfl⟩
theorem relH_seen {H : Hp} {st : List Int} (h : Inv H st) : (relH H st).seen = H.seen ∧ (relH H st).watched = H.watched := by
  generalize hm : muH H + st.length = m
  induction m using Nat.strongRecOn generalizing H st with
  | ind m ih =>
    cases st with
    | nil => rw [relH_nil]; exact ⟨rfl, rfl⟩
    | cons r st =>
      by_cases h0 : r = 0
      · subst h0
        rw [relH_zero]
        exact ih _ (by simp at hm; omega) h.zero rfl
      · obtain ⟨o, ho⟩ := h.some_of h0
        have hp := h.pos r o ho
        by_cases hc : o.holds + (o.rc - 1) = 0
        · rw [relH_free st h0 ho hc]
          have h1 : Mp.get (H.upd r Ob.dec).objs r = some o.dec := by rw [get_upd, if_pos rfl, ho]; rfl
          have h2 := mu_free _ r o _ h1
          rw [mu_upd] at h2
          have h3 := ih (muH (freeH (H.upd r Ob.dec) r o).1 + ((freeH (H.upd r Ob.dec) r o).2.reverse ++ st).length) (by simp at hm ⊢; omega) (h.free ho hc) rfl
          have h4 := freeH_seen (H.upd r Ob.dec) r o
          exact ⟨h3.1.trans h4.1, h3.2.trans h4.2⟩
        · rw [relH_keep st h0 ho hc]
          exact ih (muH (H.upd r Ob.dec) + st.length) (by rw [mu_upd]; simp at hm; omega) (h.dec ho (by omega)) rfl
/-- Behind release. -/
theorem Ok.rel {H G : Hp} {N : Nat} {st : List Int} (h : Inv G st) (hs : St H N) (k : Sub H G) (hse : SeenOk G) : Ok (relH G st) N :=
  ⟨h.rel, hs.sub (k.trans (Sub.rel h)), hse.same (relH_seen h).1 (Sub.rel h).last⟩
theorem Inv.ref_in {H : Hp} {st : List Int} (h : Inv H st) {r : Int} (hr : r = 0 ∨ Mp.get H.objs r ≠ none) : r = 0 ∨ 1 ≤ r ∧ r ≤ H.last := by
  rcases hr with h0 | h0
  · exact .inl h0
  · cases ho : Mp.get H.objs r with
    | none => exact absurd ho h0
    | some o => exact .inr (h.rng r o ho)
theorem Inv.inH_in {H : Hp} {st : List Int} (h : Inv H st) {r : Int} (hr : 1 ≤ inH H r) : r = 0 ∨ Mp.get H.objs r ≠ none := by
  by_cases h0 : r = 0
  · exact .inl h0
  · refine .inr fun hn => ?_
    have := h.ref r h0 hn
    omega
theorem occ_row {H : Hp} {k : Int} {y : Rw} (hy : Mp.get H.rows k = some y) {x : Int} (hx : x ∈ refsOf y.words) : 1 ≤ inH H x := by
  have h1 : (refsOf y.words).count x ≤ rowOcc x H.rows := sum_le_of_mem (fun p : Int × Rw => (refsOf p.2.words).count x) (Mp.mem_of_get hy)
  have h2 := List.count_pos_iff.2 hx
  unfold inH
  omega
theorem occ_tail {H : Hp} {r : Int} {o : Ob} (ho : Mp.get H.objs r = some o) {x : Int} (hx : x ∈ tailOf o) : 1 ≤ inH H x := by
  have h1 : (tailOf o).count x ≤ tailOcc x H.objs := sum_le_of_mem (fun p : Int × Ob => (tailOf p.2).count x) (Mp.mem_of_get ho)
  have h2 := List.count_pos_iff.2 hx
  unfold inH
  omega
theorem Inv.refAt_in {H : Hp} {st : List Int} (h : Inv H st) (k : Int) (i : Nat) : refAt H k i = 0 ∨ Mp.get H.objs (refAt H k i) ≠ none := by
  unfold refAt Hp.rowOf
  cases hy : Mp.get H.rows k with
  | none => exact .inl rfl
  | some y =>
    simp only [Option.map_some, Option.getD_some]
    cases hw : y.words[i]? with
    | none => exact .inl rfl
    | some wd =>
      simp only [Option.map_some, Option.getD_some]
      by_cases h0 : wd.ref = 0
      · exact .inl h0
      · refine h.inH_in (occ_row hy ?_)
        unfold refsOf
        rw [List.mem_filter]
        exact ⟨List.mem_map.2 ⟨wd, List.mem_of_getElem? hw, rfl⟩, by simpa using h0⟩
theorem Inv.targets_in {H : Hp} {st : List Int} (h : Inv H st) {r : Int} {o : Ob} (ho : Mp.get H.objs r = some o) {x : Int} (hx : x ∈ targetsH H o) : x ≠ 0 ∧ Mp.get H.objs x ≠ none := by
  obtain ⟨y, hy, _⟩ := h.row r o ho
  have e : targetsH H o = refsOf y.words ++ tailOf o := by unfold targetsH Hp.rowOf; rw [hy]; rfl
  rw [e] at hx
  have h0 : x ≠ 0 := by
    rcases List.mem_append.1 hx with h1 | h1
    · unfold refsOf at h1
      simpa using (List.mem_filter.1 h1).2
    · unfold tailOf at h1
      split at h1
      · cases h1
      · rw [List.mem_singleton] at h1; rw [h1]; assumption
  refine ⟨h0, ?_⟩
  have : 1 ≤ inH H x := by
    rcases List.mem_append.1 hx with h1 | h1
    · exact occ_row hy h1
    · exact occ_tail ho h1
  exact (h.inH_in this).resolve_left h0
theorem fits_zero {H : Hp} {b : Bool} {w : Wd} (h : fitsH H b w = 0) : w.ref = 0 ∨ Mp.get H.objs w.ref ≠ none := by
  unfold fitsH at h
  by_cases h0 : w.ref = 0
  · exact .inl h0
  · refine .inr fun hn => ?_
    split at h
    · cases h
    · rw [if_pos ⟨h0, hn⟩] at h; cases h
theorem referH_seen (H : Hp) (r : Int) : (referH H r).seen = H.seen := by unfold referH; split <;> rfl
theorem referH_last' (H : Hp) (r : Int) : (referH H r).last = H.last := by unfold referH; split <;> rfl
theorem refAt_of {H G : Hp} (h : G.rows = H.rows) (k : Int) (i : Nat) : refAt G k i = refAt H k i := by unfold refAt Hp.rowOf; rw [h]
theorem Ok.replace {H : Hp} {N : Nat} (h : Ok H N) (k : Int) (i : Nat) (w : Wd) {y : Rw} (hy : Mp.get H.rows k = some y) (hi : i < y.words.length) (hr : w.ref = 0 ∨ Mp.get H.objs w.ref ≠ none) : Ok (replaceH H k i w) N := by
  unfold replaceH
  have h1 := h.inv.referH hr
  have hy4 : Mp.get (seeH (seeH (referH H w.ref) w.ref) (refAt H k i)).rows k = some y := by
    rw [seeH_rows, seeH_rows]
    unfold referH
    split <;> exact hy
  have h2 := Inv.setW (w := w) ((h1.see w.ref).see (refAt H k i)) hy4 hi
  have e : refAt (seeH (seeH (referH H w.ref) w.ref) (refAt H k i)) k i = refAt H k i := by
    have : (seeH (seeH (referH H w.ref) w.ref) (refAt H k i)).rows = H.rows := by
      rw [seeH_rows, seeH_rows]
      unfold referH
      split <;> rfl
    exact refAt_of this k i
  rw [e] at h2
  refine Ok.rel h2 h.st ((((Sub.refer H w.ref).trans (Sub.see _ _)).trans (Sub.see _ _)).trans (Sub.setW _ _ _ _)) ?_
  have s1 : SeenOk (referH H w.ref) := h.seen.same (referH_seen H _) (referH_last' H _)
  have s2 := s1.see (r := w.ref) (by rw [referH_last']; exact h.inv.ref_in hr)
  exact s2.see (r := refAt H k i) (by rw [seeH_last, referH_last']; exact h.inv.ref_in (h.inv.refAt_in k i))
theorem Ok.store {H : Hp} {N : Nat} (h : Ok H N) (r i : Int) (w : Wd) (p : Option (Int × Nat) × Int) (hp : ∀ k j, p.1 = some (k, j) → ∃ y, Mp.get H.rows k = some y ∧ j < y.words.length) : Ok (storeH H r i w p).1 N := by
  obtain ⟨q, e⟩ := p
  cases q with
  | none => exact h
  | some kj =>
    obtain ⟨k, j⟩ := kj
    unfold storeH
    simp only
    by_cases hf : fitsH H (isRef H r i) w ≠ 0
    · rw [if_pos hf]; exact h
    · rw [if_neg hf]
      obtain ⟨y, hy, hj⟩ := hp k j rfl
      exact h.replace k j w hy hj (fits_zero (Classical.not_not.1 hf))
theorem St.addNew {H : Hp} {N : Nat} (h : St H N) (hrng : ∀ r o, Mp.get H.objs r = some o → 1 ≤ r ∧ r ≤ (H.last : Int)) {o : Ob} {x : Rw} (hrow : o.row = H.last + 1) (hw : x.words.length ≤ 15000) (hf : Mp.get H.rows ((H.last : Int) + 1) = none)
    (hl : (o.kind ≠ 2 → o.kind ≠ 1 → o.kind ≠ 5 → x.words.length = o.refs.length) ∧ (o.kind = 2 → o.lo ≤ o.hi ∧ o.hi * o.refs.length ≤ x.words.length ∧ o.hi ≤ 100000) ∧ o.refs.length ≤ 256) (hk : 1 ≤ o.kind ∧ o.kind ≤ 7)
    (ht : o.tail ≠ 0 → o.kind = 3 ∧ o.tail ≤ H.last ∧ ∀ t, Mp.get H.objs o.tail = some t → t.kind = 3) : St (addH (newRow H x) o) (N + 1) := by
  have e1 : (addH (newRow H x) o).objs = Mp.put H.objs ((H.last : Int) + 1) { o with holds := 1 } := addH_objs _ _
  have e2 : (addH (newRow H x) o).rows = Mp.put H.rows ((H.last : Int) + 1) x := addH_rows _ _
  have e3 : (addH (newRow H x) o).last = H.last + 1 := addH_last _ _
  have hg : ∀ r y, Mp.get (addH (newRow H x) o).objs r = some y → (r = (H.last : Int) + 1 ∧ y = { o with holds := 1 }) ∨ (r ≠ (H.last : Int) + 1 ∧ Mp.get H.objs r = some y) := fun r y hy => by
    rw [e1, Mp.get_put] at hy
    by_cases e : r = (H.last : Int) + 1
    · rw [if_pos e] at hy; injection hy with hy; exact .inl ⟨e, hy.symm⟩
    · rw [if_neg e] at hy; exact .inr ⟨e, hy⟩
  refine ⟨by rw [e3]; have := h.last; omega, ?_, ?_, ?_, ?_, ?_, ?_⟩
  · intro r y hy
    rcases hg r y hy with ⟨_, rfl⟩ | ⟨_, h1⟩
    · show (1 : Int) ≤ _; omega
    · have := h.holds r y h1; omega
  · rw [e2, put_fresh hf]
    have := h.words
    unfold wsum at this ⊢
    rw [List.map_append, List.sum_append]
    simp only [List.map_cons, List.map_nil, List.sum_cons, List.sum_nil]
    omega
  · intro r y hy
    rw [e3]
    rcases hg r y hy with ⟨h1, rfl⟩ | ⟨_, h1⟩
    · show 1 ≤ o.row ∧ o.row ≤ _ ∧ (o.kind ≠ 2 → o.row = r)
      rw [hrow]
      exact ⟨by omega, by omega, fun _ => h1.symm⟩
    · have := h.own r y h1
      exact ⟨this.1, by omega, this.2.2⟩
  · intro r y z hy hz
    rw [e2, Mp.get_put] at hz
    rcases hg r y hy with ⟨h1, rfl⟩ | ⟨_, h1⟩
    · rw [if_pos hrow] at hz
      injection hz with hz
      subst hz
      exact hl
    · have := (h.own r y h1).2.1
      rw [if_neg (by omega)] at hz
      exact h.len r y z h1 hz
  · intro r y hy
    rcases hg r y hy with ⟨_, rfl⟩ | ⟨_, h1⟩
    · exact hk
    · exact h.kind r y h1
  · intro r y hy hty
    rcases hg r y hy with ⟨h1, rfl⟩ | ⟨_, h1⟩
    · obtain ⟨a, b, c⟩ := ht hty
      refine ⟨a, ?_, fun t hgt => ?_⟩
      · show o.tail < r; omega
      · rcases hg _ t hgt with ⟨d1, _⟩ | ⟨_, d2⟩
        · have : o.tail = (H.last : Int) + 1 := d1
          omega
        · exact c t d2
    · obtain ⟨a, b, c⟩ := h.tail r y h1 hty
      refine ⟨a, b, fun t hgt => ?_⟩
      rcases hg _ t hgt with ⟨d1, _⟩ | ⟨_, d2⟩
      · have := hrng r y h1
        omega
      · exact c t d2
/-- An object with a row of its own has been added. -/
theorem Ok.addNew {G : Hp} {N : Nat} {st : List Int} (hi : Inv G st) (hs : St G N) (hse : SeenOk G) {o : Ob} {x : Rw} (hk : ∀ r o, Mp.get G.objs r = some o → o.row ≤ G.last) (hrc : o.rc = 0) (hh : o.holds = 0) (hrow : o.row = G.last + 1) (hx : x.arr = 1) (hA : x.isA = true ↔ o.kind = 2) (ht : o.kind = 2 → o.tail = 0)
    (hc : ∀ y, y ≠ 0 → (refsOf x.words).count y + (tailOf o).count y = st.count y) (hw : x.words.length ≤ 15000)
    (hl : (o.kind ≠ 2 → o.kind ≠ 1 → o.kind ≠ 5 → x.words.length = o.refs.length) ∧ (o.kind = 2 → o.lo ≤ o.hi ∧ o.hi * o.refs.length ≤ x.words.length ∧ o.hi ≤ 100000) ∧ o.refs.length ≤ 256) (hkd : 1 ≤ o.kind ∧ o.kind ≤ 7)
    (htl : o.tail ≠ 0 → o.kind = 3 ∧ o.tail ≤ G.last ∧ ∀ t, Mp.get G.objs o.tail = some t → t.kind = 3) : Ok (addH (newRow G x) o) (N + 1) := by
  refine ⟨hi.addNew hk hrc hh hrow hx hA ht hc, hs.addNew hi.rng hrow hw (not_row_fresh hi hk) hl hkd htl, ?_⟩
  unfold addH
  refine SeenOk.see (H := { newRow G x with objs := Mp.put (newRow G x).objs (((newRow G x).last : Int) + 1) { o with holds := 1 }, last := (newRow G x).last + 1 }) ?_ ?_
  · intro r b hr
    have := hse r b hr
    exact ⟨this.1, by show r ≤ ((G.last + 1 : Nat) : Int); omega⟩
  · right
    constructor
    · show 1 ≤ (G.last : Int) + 1; omega
    · show (G.last : Int) + 1 ≤ ((G.last + 1 : Nat) : Int); omega
theorem refs_zeros (n : Nat) : refsOf (List.replicate n ⟨0, 0⟩) = [] := by
  unfold refsOf
  rw [List.filter_eq_nil_iff]
  intro x hx
  obtain ⟨y, hy, rfl⟩ := List.mem_map.1 hx
  rw [(List.mem_replicate.1 hy).2]
  simp
theorem Ok.make {H : Hp} {N : Nat} (h : Ok H N) (kind cls : Int) (refs : List Bool) : Ok (makeH H kind cls refs).1 (N + 1) := by
  unfold makeH
  split
  · exact h.mono (Nat.le_succ _)
  · rename_i hk
    split
    · exact h.mono (Nat.le_succ _)
    · rename_i hl
      have hz : refsOf (if kind = 5 then [] else List.replicate refs.length ⟨0, 0⟩) = [] := by
        split
        · rfl
        · exact refs_zeros _
      refine Ok.addNew h.inv h.st h.seen h.row_le rfl rfl rfl rfl ?_ ?_ ?_ ?_ ⟨?_, ?_, by show refs.length ≤ 256; omega⟩ ?_ ?_
      · show false = true ↔ kind = 2
        constructor
        · intro e; cases e
        · intro e; omega
      · intro _; rfl
      · intro y _
        show (refsOf (if kind = 5 then [] else List.replicate refs.length ⟨0, 0⟩)).count y + 0 = _
        rw [hz]; rfl
      · show (if kind = 5 then [] else List.replicate refs.length (⟨0, 0⟩ : Wd)).length ≤ 15000
        split
        · exact Nat.zero_le _
        · rw [List.length_replicate]; omega
      · intro _ _ h5
        have h5 : kind ≠ 5 := h5
        show (if kind = 5 then [] else List.replicate refs.length (⟨0, 0⟩ : Wd)).length = refs.length
        rw [if_neg h5, List.length_replicate]
      · intro h2
        have h2 : kind = 2 := h2
        omega
      · show 1 ≤ kind ∧ kind ≤ 7; omega
      · intro e; exact absurd rfl e
theorem Ok.text {H : Hp} {N : Nat} (h : Ok H N) (c : ByteArray) (wide : Bool) (len : Nat) : Ok (textH H c wide len).1 (N + 1) := by
  unfold textH
  split
  · exact h.mono (Nat.le_succ _)
  · refine Ok.addNew h.inv h.st h.seen h.row_le rfl rfl rfl rfl ?_ (fun _ => rfl) (fun y _ => rfl) (Nat.zero_le _) ⟨fun _ e => absurd rfl e, fun e => ?_, Nat.zero_le _⟩ ⟨(by show (1 : Int) ≤ 1; decide), (by show (1 : Int) ≤ 7; decide)⟩ fun e => absurd rfl e
    · constructor
      · intro e; cases e
      · intro e
        have : (1 : Int) = 2 := e
        omega
    · have : (1 : Int) = 2 := e
      omega
theorem Ok.array {H : Hp} {N : Nat} (h : Ok H N) (cls : Int) (refs : List Bool) (n : Int) (hn : refs.length ≤ 256 → 0 ≤ n → n ≤ 65536 → n * refs.length ≤ 1048576 → n.toNat * refs.length ≤ 15000) : Ok (arrayH H cls refs n).1 (N + 1) := by
  unfold arrayH
  split
  · exact h.mono (Nat.le_succ _)
  · split
    · exact h.mono (Nat.le_succ _)
    · split
      · exact h.mono (Nat.le_succ _)
      · rename_i h1 h2 h3
        have hb := hn (by omega) (by omega) (by omega) (by omega)
        refine Ok.addNew h.inv h.st h.seen h.row_le rfl rfl rfl rfl ⟨fun _ => rfl, fun _ => rfl⟩ (fun _ => rfl) (fun y _ => ?_) ?_ ⟨fun e => absurd rfl e, fun _ => ⟨Nat.zero_le _, ?_, ?_⟩, by show refs.length ≤ 256; omega⟩ ⟨(by show (1 : Int) ≤ 2; decide), (by show (2 : Int) ≤ 7; decide)⟩ fun e => absurd rfl e
        · show (refsOf (List.replicate (n.toNat * refs.length) ⟨0, 0⟩)).count y + 0 = _
          rw [refs_zeros]; rfl
        · show (List.replicate (n.toNat * refs.length) (⟨0, 0⟩ : Wd)).length ≤ 15000
          rw [List.length_replicate]; exact hb
        · show n.toNat * refs.length ≤ (List.replicate (n.toNat * refs.length) (⟨0, 0⟩ : Wd)).length
          rw [List.length_replicate]; exact Nat.le_refl _
        · show n.toNat ≤ 100000; omega
theorem Ok.part {H : Hp} {N : Nat} (h : Ok H N) (r f t : Int) : Ok (partH H r f t).1 (N + 1) := by
  unfold partH
  split
  · exact h.mono (Nat.le_succ _)
  · rename_i o ho
    split
    · exact h.mono (Nat.le_succ _)
    · rename_i hk
      have hk : o.kind = 2 := Classical.not_not.1 hk
      split
      · exact h.mono (Nat.le_succ _)
      · rename_i hr
        obtain ⟨x, hx, _⟩ := h.inv.row r o ho
        obtain ⟨hl1, hl2, hl3⟩ := (h.st.len r o x ho hx).2.1 hk
        have e1 : (addH (H.updR o.row Rw.inc) (partOb o f t)).objs = Mp.put H.objs ((H.last : Int) + 1) { partOb o f t with holds := 1 } := addH_objs _ _
        have e2 : (addH (H.updR o.row Rw.inc) (partOb o f t)).rows = mapAt H.rows o.row Rw.inc := addH_rows _ _
        have e3 : (addH (H.updR o.row Rw.inc) (partOb o f t)).last = H.last + 1 := addH_last _ _
        have hg : ∀ r y, Mp.get (addH (H.updR o.row Rw.inc) (partOb o f t)).objs r = some y → (r = (H.last : Int) + 1 ∧ y = { partOb o f t with holds := 1 }) ∨ (r ≠ (H.last : Int) + 1 ∧ Mp.get H.objs r = some y) := fun r y hy => by
          rw [e1, Mp.get_put] at hy
          by_cases e : r = (H.last : Int) + 1
          · rw [if_pos e] at hy; injection hy with hy; exact .inl ⟨e, hy.symm⟩
          · rw [if_neg e] at hy; exact .inr ⟨e, hy⟩
        have hrw : ∀ k z, Mp.get (mapAt H.rows o.row Rw.inc) k = some z → ∃ z0, Mp.get H.rows k = some z0 ∧ z.words = z0.words := fun k z hz => by
          rw [get_mapAt] at hz
          by_cases e : k = o.row
          · rw [if_pos e] at hz
            cases hq : Mp.get H.rows k with
            | none => rw [hq] at hz; cases hz
            | some q =>
              rw [hq] at hz
              injection hz with hz
              subst hz
              exact ⟨q, rfl, rfl⟩
          · rw [if_neg e] at hz; exact ⟨z, hz, rfl⟩
        refine ⟨h.inv.part ho hk f t, ⟨by rw [e3]; have := h.st.last; omega, ?_, ?_, ?_, ?_, ?_, ?_⟩, ?_⟩
        · intro r y hy
          rcases hg r y hy with ⟨_, rfl⟩ | ⟨_, h1⟩
          · show (1 : Int) ≤ _; omega
          · have := h.st.holds r y h1; omega
        · rw [e2, wsum_mapAt _ _ Rw.inc (fun _ => rfl)]
          have := h.st.words
          omega
        · intro r y hy
          rw [e3]
          rcases hg r y hy with ⟨h1, rfl⟩ | ⟨_, h1⟩
          · have := h.st.own _ o ho
            exact ⟨this.1, by show o.row ≤ _; omega, fun e => absurd rfl e⟩
          · have := h.st.own r y h1
            exact ⟨this.1, by omega, this.2.2⟩
        · intro r y z hy hz
          rw [e2] at hz
          obtain ⟨z0, hz0, hzw⟩ := hrw _ _ hz
          rcases hg r y hy with ⟨h1, rfl⟩ | ⟨_, h1⟩
          · have hz1 : Mp.get H.rows o.row = some z0 := hz0
            rw [hx] at hz1
            injection hz1 with hz1
            subst hz1
            refine ⟨fun e => absurd rfl e, fun _ => ⟨?_, ?_, ?_⟩, (h.st.len _ o x ho hx).2.2⟩
            · show o.lo + f.toNat ≤ o.lo + t.toNat; omega
            · show (o.lo + t.toNat) * o.refs.length ≤ z.words.length
              rw [hzw]
              exact Nat.le_trans (Nat.mul_le_mul_right _ (by omega)) hl2
            · show o.lo + t.toNat ≤ 100000; omega
          · have := h.st.len r y z0 h1 hz0
            rw [← hzw] at this
            exact this
        · intro r y hy
          rcases hg r y hy with ⟨_, rfl⟩ | ⟨_, h1⟩
          · exact ⟨by show (1 : Int) ≤ 2; decide, by show (2 : Int) ≤ 7; decide⟩
          · exact h.st.kind r y h1
        · intro r y hy hty
          rcases hg r y hy with ⟨h1, rfl⟩ | ⟨_, h1⟩
          · exact absurd rfl hty
          · obtain ⟨a, b, c⟩ := h.st.tail r y h1 hty
            refine ⟨a, b, fun t hgt => ?_⟩
            rcases hg _ t hgt with ⟨d1, _⟩ | ⟨_, d2⟩
            · have := h.inv.rng r y h1
              omega
            · exact c t d2
        · unfold addH
          refine SeenOk.see (H := { H.updR o.row Rw.inc with objs := Mp.put (H.updR o.row Rw.inc).objs (((H.updR o.row Rw.inc).last : Int) + 1) { partOb o f t with holds := 1 }, last := (H.updR o.row Rw.inc).last + 1 }) ?_ ?_
          · intro r b hr
            have := h.seen r b hr
            exact ⟨this.1, by show r ≤ ((H.last + 1 : Nat) : Int); omega⟩
          · right
            constructor
            · show 1 ≤ (H.last : Int) + 1; omega
            · show (H.last : Int) + 1 ≤ ((H.last + 1 : Nat) : Int); omega
theorem placeO_row {H : Hp} {r i : Int} {l : Bool} {k : Int} {j : Nat} (he : (placeO H r i l).1 = some (k, j)) : ∃ y, Mp.get H.rows k = some y ∧ j < y.words.length := by
  unfold placeO at he
  cases ho : Mp.get H.objs r with
  | none => rw [ho] at he; cases he
  | some o =>
    rw [ho] at he
    simp only at he
    split at he
    · cases he
    · split at he
      · cases he
      · rename_i h2
        simp only [Option.some.injEq, Prod.mk.injEq] at he
        obtain ⟨rfl, rfl⟩ := he
        unfold Hp.rowOf at h2
        cases hy : Mp.get H.rows o.row with
        | none => rw [hy] at h2; simp at h2; omega
        | some y => rw [hy] at h2; simp only [Option.map_some, Option.getD_some] at h2; exact ⟨y, rfl, by omega⟩
theorem el_lt {lo a hi n i m : Nat} (h1 : a < hi - lo) (h2 : i < n) (h3 : hi * n ≤ m) : (lo + a) * n + i < m := by
  have : (lo + a + 1) * n ≤ hi * n := Nat.mul_le_mul_right n (by omega)
  rw [Nat.add_mul, Nat.one_mul] at this
  omega
theorem placeA_row {H : Hp} {N : Nat} (h : Ok H N) {r el i : Int} {k : Int} {j : Nat} (he : (placeA H r el i).1 = some (k, j)) : ∃ y, Mp.get H.rows k = some y ∧ j < y.words.length := by
  unfold placeA at he
  cases ho : Mp.get H.objs r with
  | none => rw [ho] at he; cases he
  | some o =>
    rw [ho] at he
    simp only at he
    split at he
    · cases he
    · rename_i hk
      split at he
      · cases he
      · rename_i h2
        simp only [Option.some.injEq, Prod.mk.injEq] at he
        obtain ⟨rfl, rfl⟩ := he
        obtain ⟨x, hx, _⟩ := h.inv.row r o ho
        obtain ⟨hl1, hl2, hl3⟩ := (h.st.len r o x ho hx).2.1 (Classical.not_not.1 hk)
        exact ⟨x, hx, el_lt (by omega) (by omega) hl2⟩
theorem Ok.set {H : Hp} {N : Nat} (h : Ok H N) (r i : Int) (w : Wd) : Ok (setH H r i w).1 N := h.store r i w _ fun _ _ he => placeO_row he
theorem Ok.put {H : Hp} {N : Nat} (h : Ok H N) (r el i : Int) (w : Wd) : Ok (putH H r el i w).1 N := h.store r i w _ fun _ _ he => placeA_row h he
theorem seeAll_seen {H : Hp} (h : SeenOk H) (l : List Int) (hl : ∀ x ∈ l, x = 0 ∨ 1 ≤ x ∧ x ≤ H.last) : SeenOk (seeAll H l) := by
  induction l generalizing H with
  | nil => exact h
  | cons x l ih =>
    exact ih (h.see (hl x (List.mem_cons_self ..))) fun y hy => by rw [seeH_last]; exact hl y (List.mem_cons_of_mem _ hy)
theorem Ok.clear {H : Hp} {N : Nat} (h : Ok H N) (r : Int) : Ok (clearH H r).1 N := by
  unfold clearH
  split
  · exact h
  · rename_i o ho
    have hc := h.inv.cut ho
    refine Ok.rel (H := H) (hc.same (seeAll_objs _ _) (seeAll_rows _ _) (seeAll_last _ _)) h.st (((Sub.updR H o.row cutRow fun x => by simp [cutRow]).trans (Sub.cut _ r)).trans (Sub.seeAll _ _)) ?_
    refine seeAll_seen (H := (H.updR o.row cutRow).upd r Ob.cut) h.seen _ fun x hx => ?_
    exact h.inv.ref_in (.inr (h.inv.targets_in ho hx).2)
theorem Ok.drop {H : Hp} {N : Nat} (h : Ok H N) (r : Int) : Ok (dropH H r).1 N := by
  unfold dropH
  split
  · exact h
  · rename_i o ho
    split
    · exact h
    · rename_i h0
      split
      · rename_i hc
        have hd := h.inv.drop0 ho h0 hc
        rw [List.append_nil] at hd
        exact Ok.rel (H := H) hd h.st ((Sub.drop H r).trans (Sub.free _ r o)) (h.seen.same (freeH_seen _ r o).1 (Sub.free (H.upd r Ob.drop) r o).last)
      · rename_i hc
        exact ⟨h.inv.drop ho h0 hc, h.st.sub (Sub.drop H r), h.seen⟩
theorem Ok.hold {H : Hp} {N : Nat} (h : Ok H N) (r : Int) : Ok (holdH H r).1 (N + 1) := by
  unfold holdH
  split
  · exact h.mono (Nat.le_succ _)
  · rename_i hn
    cases ho : Mp.get H.objs r with
    | none => exact absurd ho hn
    | some o =>
      have hs : St (H.upd r Ob.hold) (N + 1) := by
        have key : ∀ x y, Mp.get (H.upd r Ob.hold).objs x = some y → ∃ z, Mp.get H.objs x = some z ∧ y.kind = z.kind ∧ y.refs = z.refs ∧ y.row = z.row ∧ y.lo = z.lo ∧ y.hi = z.hi ∧ y.tail = z.tail ∧ y.holds ≤ z.holds + 1 := fun x y hy => by
          rw [get_upd] at hy
          by_cases e : x = r
          · rw [if_pos e] at hy
            cases hz : Mp.get H.objs x with
            | none => rw [hz] at hy; cases hy
            | some z =>
              rw [hz] at hy
              injection hy with hy
              subst hy
              exact ⟨z, rfl, rfl, rfl, rfl, rfl, rfl, rfl, Int.le_refl _⟩
          · rw [if_neg e] at hy
            exact ⟨y, hy, rfl, rfl, rfl, rfl, rfl, rfl, by omega⟩
        refine ⟨Nat.le_succ_of_le h.st.last, ?_, by have := h.st.words; show wsum H.rows ≤ _; omega, ?_, ?_, ?_, ?_⟩
        · intro x y hy
          obtain ⟨z, hz, _, _, _, _, _, _, hh⟩ := key x y hy
          have := h.st.holds x z hz
          omega
        · intro x y hy
          obtain ⟨z, hz, a1, a2, a3, _⟩ := key x y hy
          rw [a1, a3]; exact h.st.own x z hz
        · intro x y q hy hq
          obtain ⟨z, hz, a1, a2, a3, a4, a5, _⟩ := key x y hy
          rw [a3] at hq
          rw [a1, a2, a4, a5]; exact h.st.len x z q hz hq
        · intro x y hy
          obtain ⟨z, hz, a1, _⟩ := key x y hy
          rw [a1]; exact h.st.kind x z hz
        · intro x y hy ht
          obtain ⟨z, hz, a1, a2, a3, a4, a5, a6, _⟩ := key x y hy
          rw [a6] at ht
          obtain ⟨b1, b2, b3⟩ := h.st.tail x z hz ht
          rw [a1, a6]
          refine ⟨b1, b2, fun t hgt => ?_⟩
          obtain ⟨t0, c0, c1, _⟩ := key _ t hgt
          rw [c1]; exact b3 t0 c0
      exact ⟨(h.inv.hold ho).see r, hs.sub (Sub.see _ _), SeenOk.see (H := H.upd r Ob.hold) h.seen (h.inv.ref_in (.inr (by rw [ho]; simp)))⟩
theorem Ok.watch {H : Hp} {N : Nat} (h : Ok H N) (on : Bool) : Ok (watchH H on) N := ⟨h.inv.same rfl rfl rfl, ⟨h.st.last, h.st.holds, h.st.words, h.st.own, h.st.len, h.st.kind, h.st.tail⟩, fun r b hr => by cases hr⟩
theorem Ok.seenOp {H : Hp} {N : Nat} (h : Ok H N) : Ok (seenH H).1 N := ⟨h.inv.same rfl rfl rfl, ⟨h.st.last, h.st.holds, h.st.words, h.st.own, h.st.len, h.st.kind, h.st.tail⟩, fun r b hr => by cases hr⟩
theorem Ok.empty : Ok emptyH 0 := ⟨⟨List.nodup_nil, List.nodup_nil, fun r o h => (by cases h), fun r o h => (by cases h), fun r o h => (by cases h), fun r _ _ => rfl, fun r o h => (by cases h), fun k x h => (by cases h)⟩, ⟨Nat.le_refl _, fun r o h => (by cases h), Nat.zero_le _, fun r o h => (by cases h), fun r o x h => (by cases h), fun r o h => (by cases h), fun r o h => (by cases h)⟩, fun r b h => (by cases h)⟩
end Go.Proofs.Ytodfpclekihbhaa
