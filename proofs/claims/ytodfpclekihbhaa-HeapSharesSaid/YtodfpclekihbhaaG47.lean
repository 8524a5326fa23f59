/- Texts on the heap, merged: S1, S2, S3, S4a. -/
import Derived.Test.YtodfpclekihbhaaG21
import Derived.Test.YtodfpclekihbhaaG07
import Derived.Deep.AppendLies
import Derived.Laws.CopyOwn
import Derived.Test.YtodfpclekihbhaaG08
import Derived.Deep.RegionLaw
/- An array of numbers and its parts, in plain Lean. -/
namespace Go.Proofs.Ytodfpclekihbhaa

def nmW (x : Int) : Wd := ⟨x, 0⟩
/-- A heap of one array of numbers and its parts. -/
structure Sh (H : Hp) (R : List Int) (rs : List (Nat × Nat)) : Prop where
  last : H.last = rs.length
  nw : H.watched = false
  row : H.rowOf 1 = R.map nmW
  ob : ∀ j (h : j < rs.length), ∃ o, Mp.get H.objs ((j : Int) + 1) = some o ∧ o.kind = 2 ∧ o.refs = [false] ∧ o.row = 1 ∧ o.lo = (rs[j]'h).1 ∧ o.hi = (rs[j]'h).2
  le : ∀ j (h : j < rs.length), (rs[j]'h).1 ≤ (rs[j]'h).2 ∧ (rs[j]'h).2 ≤ R.length
variable {H : Hp} {R : List Int} {rs : List (Nat × Nat)}
theorem rowOf_updR (H : Hp) (k : Int) (f : Rw → Rw) (j : Int) : (H.updR k f).rowOf j = if j = k then ((Mp.get H.rows j).map fun x => (f x).words).getD [] else H.rowOf j := by
  show ((Mp.get (mapAt H.rows k f) j).map (·.words)).getD [] = _
  rw [get_mapAt]
  by_cases h : j = k
  · rw [if_pos h, if_pos h, Option.map_map]; rfl
  · rw [if_neg h, if_neg h]; rfl
theorem rowOf_setW (H : Hp) (k : Int) (i : Nat) (w : Wd) : (setW H k i w).rowOf k = (H.rowOf k).set i w := by
  unfold setW
  rw [rowOf_updR, if_pos rfl]
  unfold Hp.rowOf
  cases Mp.get H.rows k <;> rfl
/-- A list is laid over a part of one. -/
def putL {α : Type} (R : List α) (i : Nat) (l : List α) : List α := R.take i ++ l ++ R.drop (i + l.length)
theorem putL_nil {α : Type} (R : List α) (i : Nat) : putL R i [] = R := by simp [putL]
theorem putL_cons {α : Type} {R : List α} {i : Nat} {x : α} {l : List α} (h : i + (x :: l).length ≤ R.length) : putL (R.set i x) (i + 1) l = putL R i (x :: l) := by
  have hi : i < R.length := by simp only [List.length_cons] at h; omega
  unfold putL
  have e1 : (R.set i x).take (i + 1) = R.take i ++ [x] := by
    rw [List.set_eq_take_append_cons_drop, if_pos hi, List.take_append, List.length_take, Nat.min_eq_left (by omega), List.take_of_length_le (by rw [List.length_take]; omega), show i + 1 - i = 1 by omega]
    rfl
  have e2 : (R.set i x).drop (i + 1 + l.length) = R.drop (i + (x :: l).length) := by
    rw [List.drop_set, if_pos (by omega), List.length_cons]
    congr 1
    omega
  rw [e1, e2]
  simp
theorem len_putL {α : Type} {R l : List α} {i : Nat} (h : i + l.length ≤ R.length) : (putL R i l).length = R.length := by
  unfold putL
  simp only [List.length_append, List.length_take, List.length_drop]
  omega
theorem refAt_num {k : Int} (h : H.rowOf k = R.map nmW) (i : Nat) : refAt H k i = 0 := by
  unfold refAt
  rw [h, List.getElem?_map]
  cases R[i]? <;> rfl
theorem see0 (H : Hp) : seeH H 0 = H := by simp [seeH]
theorem refer0 (H : Hp) : referH H 0 = H := by simp [referH]
theorem rel_zeros (H : Hp) : ∀ n, relH H (List.replicate n 0) = H
  | 0 => relH_nil H
  | n + 1 => by rw [List.replicate_succ, relH_zero]; exact rel_zeros H n
theorem copyW_num (k : Int) : ∀ (l : List Int) (i : Nat) (H : Hp) (R : List Int), H.rowOf k = R.map nmW → i + l.length ≤ R.length →
    (copyW H k i (l.map nmW)).1.rowOf k = (putL R i l).map nmW ∧ (copyW H k i (l.map nmW)).1.objs = H.objs ∧ (copyW H k i (l.map nmW)).1.last = H.last ∧ (copyW H k i (l.map nmW)).1.watched = H.watched ∧ (copyW H k i (l.map nmW)).2 = List.replicate l.length 0
  | [], i, H, R, h, _ => ⟨by rw [putL_nil]; exact h, rfl, rfl, rfl, rfl⟩
  | x :: l, i, H, R, h, hl => by
    rw [List.map_cons]
    unfold copyW
    have e : setW (seeH (seeH (referH H (nmW x).ref) (nmW x).ref) (refAt H k i)) k i (nmW x) = setW H k i (nmW x) := by
      rw [refAt_num h, show (nmW x).ref = 0 from rfl, refer0, see0, see0]
    rw [e, refAt_num h]
    have h1 : (setW H k i (nmW x)).rowOf k = (R.set i x).map nmW := by rw [rowOf_setW, h, List.map_set]
    obtain ⟨q1, q2, q3, q4, q5⟩ := copyW_num k l (i + 1) (setW H k i (nmW x)) (R.set i x) h1 (by simp only [List.length_set, List.length_cons] at hl ⊢; omega)
    rw [putL_cons hl] at q1
    exact ⟨q1, q2, q3, q4, by rw [q5]; rfl⟩
theorem Sh.array (n : Nat) (hn : n ≤ 30) : arrayH emptyH 0 [false] n = ((arrayH emptyH 0 [false] n).1, 1, 0) ∧ Sh (arrayH emptyH 0 [false] n).1 (List.replicate n 0) [(0, n)] := by
  have e : arrayH emptyH 0 [false] n = (addH (newRow emptyH ⟨List.replicate ((n : Int).toNat * 1) ⟨0, 0⟩, 1, true⟩) ⟨2, 0, [false], emptyB, false, 0, 1, 0, (n : Int).toNat, 0, 0⟩, 1, 0) := by
    unfold arrayH
    rw [if_neg (by decide), if_neg (by omega), if_neg (by simp only [List.length_cons, List.length_nil]; omega)]
    rfl
  rw [e]
  refine ⟨rfl, rfl, rfl, ?_, fun j hj => ?_, fun j hj => ?_⟩
  · show List.replicate ((n : Int).toNat * 1) (⟨0, 0⟩ : Wd) = _
    rw [List.map_replicate, Int.toNat_natCast, Nat.mul_one]; rfl
  · obtain rfl : j = 0 := by simp at hj; exact hj
    exact ⟨_, rfl, rfl, rfl, rfl, rfl, by simp⟩
  · obtain rfl : j = 0 := by simp at hj; exact hj
    simp
theorem Sh.same {G : Hp} (h : Sh H R rs) {R' : List Int} (h1 : G.last = H.last) (h2 : G.watched = H.watched) (h3 : G.rowOf 1 = R'.map nmW) (h4 : G.objs = H.objs) (h5 : R'.length = R.length) : Sh G R' rs :=
  ⟨h1.trans h.last, h2.trans h.nw, h3, fun j hj => by rw [h4]; exact h.ob j hj, fun j hj => by rw [h5]; exact h.le j hj⟩
theorem Sh.part_no (h : Sh H R rs) {j : Nat} (hj : j < rs.length) {f t : Int} (hb : f < 0 ∨ t < f ∨ (((rs[j]'hj).2 - (rs[j]'hj).1 : Nat) : Int) < t) : partH H ((j : Int) + 1) f t = (H, 0, 11) := by
  obtain ⟨o, ho, hk, hr, hro, hlo, hhi⟩ := h.ob j hj
  have := h.le j hj
  unfold partH
  rw [ho]
  simp only
  rw [if_neg (by rw [hk]; simp), if_pos (by rw [hlo, hhi]; omega)]
theorem Sh.part (h : Sh H R rs) {j : Nat} (hj : j < rs.length) {f t : Nat} (h1 : f ≤ t) (h2 : t ≤ (rs[j]'hj).2 - (rs[j]'hj).1) : partH H ((j : Int) + 1) f t = ((partH H ((j : Int) + 1) f t).1, (rs.length : Int) + 1, 0) ∧ Sh (partH H ((j : Int) + 1) f t).1 R (rs ++ [((rs[j]'hj).1 + f, (rs[j]'hj).1 + t)]) := by
  obtain ⟨o, ho, hk, hr, hro, hlo, hhi⟩ := h.ob j hj
  have hle := h.le j hj
  have e : partH H ((j : Int) + 1) f t = (addH (H.updR 1 Rw.inc) (partOb o f t), (rs.length : Int) + 1, 0) := by
    unfold partH
    rw [ho]
    simp only
    rw [if_neg (by rw [hk]; simp), if_neg (by rw [hlo, hhi]; omega), hro, h.last]
  rw [e]
  have hadd : addH (H.updR 1 Rw.inc) (partOb o f t) = { H.updR 1 Rw.inc with objs := Mp.put H.objs ((rs.length : Int) + 1) { partOb o f t with holds := 1 }, last := rs.length + 1 } := by
    unfold addH
    rw [show (H.updR 1 Rw.inc).last = rs.length from h.last]
    unfold seeH
    rw [if_neg (by rintro ⟨q, _⟩; exact absurd (show H.watched = true from q) (by rw [h.nw]; decide))]
    rfl
  refine ⟨rfl, ?_⟩
  show Sh (addH (H.updR 1 Rw.inc) (partOb o f t)) R _
  rw [hadd]
  refine ⟨by simp, h.nw, ?_, fun i hi => ?_, fun i hi => ?_⟩
  · show (H.updR 1 Rw.inc).rowOf 1 = _
    rw [rowOf_updR, if_pos rfl, ← h.row]; rfl
  · show ∃ o', Mp.get (Mp.put H.objs ((rs.length : Int) + 1) _) ((i : Int) + 1) = some o' ∧ _
    rw [Mp.get_put]
    by_cases hil : i < rs.length
    · rw [if_neg (by omega), List.getElem_append_left hil]; exact h.ob i hil
    · obtain rfl : i = rs.length := by simp at hi; omega
      rw [if_pos rfl, List.getElem_append_right (Nat.le_refl _)]
      exact ⟨_, rfl, rfl, hr, hro, by show o.lo + (f : Int).toNat = _; rw [hlo]; simp, by show o.lo + (t : Int).toNat = _; rw [hlo]; simp⟩
  · by_cases hil : i < rs.length
    · rw [List.getElem_append_left hil]; exact h.le i hil
    · obtain rfl : i = rs.length := by simp at hi; omega
      rw [List.getElem_append_right (Nat.le_refl _)]
      simp
      omega
theorem Sh.put_no (h : Sh H R rs) {j : Nat} (hj : j < rs.length) {el v : Int} (hb : el < 0 ∨ (((rs[j]'hj).2 - (rs[j]'hj).1 : Nat) : Int) ≤ el) : putH H ((j : Int) + 1) el 0 ⟨v, 0⟩ = (H, 11) := by
  obtain ⟨o, ho, hk, hr, hro, hlo, hhi⟩ := h.ob j hj
  have := h.le j hj
  unfold putH placeA
  rw [ho]
  simp only
  rw [if_neg (by rw [hk]; simp), if_pos (by rw [hlo, hhi]; omega)]
  rfl
theorem Sh.place (h : Sh H R rs) {j : Nat} (hj : j < rs.length) {el : Nat} (hb : el < (rs[j]'hj).2 - (rs[j]'hj).1) : placeA H ((j : Int) + 1) el 0 = (some (1, (rs[j]'hj).1 + el), 0) := by
  obtain ⟨o, ho, hk, hr, hro, hlo, hhi⟩ := h.ob j hj
  have := h.le j hj
  unfold placeA
  rw [ho]
  simp only
  rw [if_neg (by rw [hk]; simp), if_neg (by rw [hlo, hhi, hr]; simp only [List.length_cons, List.length_nil]; omega), hro, hlo, hr]
  simp
theorem Sh.put (h : Sh H R rs) {j : Nat} (hj : j < rs.length) {el : Nat} {v : Int} (hb : el < (rs[j]'hj).2 - (rs[j]'hj).1) : putH H ((j : Int) + 1) el 0 ⟨v, 0⟩ = ((putH H ((j : Int) + 1) el 0 ⟨v, 0⟩).1, 0) ∧ Sh (putH H ((j : Int) + 1) el 0 ⟨v, 0⟩).1 (R.set ((rs[j]'hj).1 + el) v) rs := by
  obtain ⟨o, ho, hk, hr, hro, hlo, hhi⟩ := h.ob j hj
  have hle := h.le j hj
  have hf : fitsH H (isRef H ((j : Int) + 1) 0) ⟨v, 0⟩ = 0 := by
    unfold isRef
    rw [ho, Option.map_some, Option.getD_some, hr]
    rfl
  have e : putH H ((j : Int) + 1) el 0 ⟨v, 0⟩ = (setW H 1 ((rs[j]'hj).1 + el) ⟨v, 0⟩, 0) := by
    unfold putH
    rw [h.place hj hb]
    unfold storeH
    simp only
    rw [if_neg (by rw [hf]; simp)]
    unfold replaceH
    simp only
    rw [refAt_num h.row, refer0, see0, see0]
    exact congrArg (·, (0 : Int)) (rel_zeros _ 1)
  rw [e]
  exact ⟨rfl, h.same rfl rfl (by show (setW H 1 _ _).rowOf 1 = _; rw [rowOf_setW, h.row, List.map_set]; rfl) rfl (by simp)⟩
theorem Sh.at_ (h : Sh H R rs) {j : Nat} (hj : j < rs.length) {el : Nat} (hb : el < (rs[j]'hj).2 - (rs[j]'hj).1) : ∃ hi : (rs[j]'hj).1 + el < R.length, atH H ((j : Int) + 1) el 0 = (⟨R[(rs[j]'hj).1 + el]'hi, 0⟩, 0) := by
  have hle := h.le j hj
  have hi : (rs[j]'hj).1 + el < R.length := by omega
  refine ⟨hi, ?_⟩
  unfold atH
  rw [h.place hj hb]
  unfold wordAt
  simp only
  rw [h.row, List.getElem?_map, List.getElem?_eq_getElem hi]
  rfl
theorem Sh.copy_no (h : Sh H R rs) {j k : Nat} (hj : j < rs.length) (hk : k < rs.length) {at_ : Int} (hb : at_ < 0 ∨ (((rs[j]'hj).2 - (rs[j]'hj).1 : Nat) : Int) - (((rs[k]'hk).2 - (rs[k]'hk).1 : Nat) : Int) < at_) : copyH H ((j : Int) + 1) at_ ((k : Int) + 1) = (H, 11) := by
  obtain ⟨o, ho, hkd, hr, hro, hlo, hhi⟩ := h.ob j hj
  obtain ⟨o2, ho2, hkd2, hr2, hro2, hlo2, hhi2⟩ := h.ob k hk
  have h1 := h.le j hj
  have h2 := h.le k hk
  unfold copyH
  rw [ho, ho2]
  simp only
  rw [if_neg (by rw [hkd, hkd2]; simp), if_neg (by rw [hr, hr2]; simp), if_pos (by rw [hlo, hhi, hlo2, hhi2]; omega)]
theorem Sh.copy (h : Sh H R rs) {j k : Nat} (hj : j < rs.length) (hk : k < rs.length) {at_ : Nat} (hb : at_ + ((rs[k]'hk).2 - (rs[k]'hk).1) ≤ (rs[j]'hj).2 - (rs[j]'hj).1) : copyH H ((j : Int) + 1) at_ ((k : Int) + 1) = ((copyH H ((j : Int) + 1) at_ ((k : Int) + 1)).1, 0) ∧ Sh (copyH H ((j : Int) + 1) at_ ((k : Int) + 1)).1 (putL R ((rs[j]'hj).1 + at_) ((R.drop (rs[k]'hk).1).take ((rs[k]'hk).2 - (rs[k]'hk).1))) rs := by
  obtain ⟨o, ho, hkd, hr, hro, hlo, hhi⟩ := h.ob j hj
  obtain ⟨o2, ho2, hkd2, hr2, hro2, hlo2, hhi2⟩ := h.ob k hk
  have h1 := h.le j hj
  have h2 := h.le k hk
  obtain ⟨l, hl⟩ : ∃ l, l = (R.drop (rs[k]'hk).1).take ((rs[k]'hk).2 - (rs[k]'hk).1) := ⟨_, rfl⟩
  have hll : l.length = (rs[k]'hk).2 - (rs[k]'hk).1 := by rw [hl, List.length_take, List.length_drop]; omega
  have hw : ((H.rowOf o2.row).drop (o2.lo * o.refs.length)).take ((o2.hi - o2.lo) * o.refs.length) = l.map nmW := by
    rw [hro2, h.row, hlo2, hhi2, hr, hl]
    simp only [List.length_cons, List.length_nil, Nat.mul_one, Nat.zero_add, ← List.map_drop, ← List.map_take]
  obtain ⟨q1, q2, q3, q4, q5⟩ := copyW_num 1 l ((rs[j]'hj).1 + at_) H R h.row (by omega)
  have e : copyH H ((j : Int) + 1) at_ ((k : Int) + 1) = ((copyW H 1 ((rs[j]'hj).1 + at_) (l.map nmW)).1, 0) := by
    unfold copyH
    rw [ho, ho2]
    simp only
    rw [if_neg (by rw [hkd, hkd2]; simp), if_neg (by rw [hr, hr2]; simp), if_neg (by rw [hlo, hhi, hlo2, hhi2]; omega), hw, hro, hlo, hr]
    simp only [List.length_cons, List.length_nil, Nat.zero_add, Nat.mul_one, Int.toNat_natCast]
    rw [q5, List.reverse_replicate, rel_zeros]
  rw [e, ← hl]
  exact ⟨rfl, h.same q3 q4 q1 q2 (len_putL (by omega))⟩
end Go.Proofs.Ytodfpclekihbhaa

/- Len, At of an array. -/
namespace Go.Proofs.Ytodfpclekihbhaa
open Go.RowKit Go.Shelf

variable {w0 w : World} {hb : Nat} {A : HA} {H : Hp} {S K : Nat → Prop} {N : Nat}
set_option maxHeartbeats 1000000 in
theorem len_arr (h : HpAt w hb A H S) {r : Int} {o : Ob} (ho : Mp.get H.objs r = some o) (hk : o.kind = 2) (hlh : o.lo ≤ o.hi) (hhi : o.hi ≤ 100000000) : Calls Try.prog 17 #[.pointer (some ⟨hb, 0, none⟩), .int .i64 r] w fun e w' => e = .returned (.tuple #[.int .i64 ((o.hi - o.lo : Nat) : Int), .int .i64 0]) ∧ Below w.heap.size w w' := by
  have HF := Lib.hid (find_some h ho)
  obtain ⟨d0, d1, d2, d3, d4, d5, d6, d7, d8, d9, _⟩ := h.ocells ho
  rw [hk] at d0
  obtain ⟨D, hD⟩ : ∃ D : Nat, D = o.hi - o.lo := ⟨_, rfl⟩
  have s1 : IntKind.i64.wrap ((o.hi : Int) - (o.lo : Int)) = (D : Int) := by rw [IntWalk.i64_in _ (by omega)]; omega
  rw [← hD]
  clear h ho hk hlh hhi hD
  go_enter Try.func17, Try.ntmps17
  go_wp2_with (go_at_call 57; refine HF.out.mono ?_; rintro e w1 ⟨rfl, rfl⟩)
  go_region
  all_goals go_wp2
  all_goals go_ret2
  all_goals exact ⟨rfl, (Below.refl _ _).dn _⟩
set_option maxHeartbeats 1000000 in
theorem at_arr (h : HpAt w hb A H S) (hi : Inv H []) (hlen : LenOk H) (hmu : muH H ≤ 90000000) {r : Int} {o : Ob} (ho : Mp.get H.objs r = some o) (hk : o.kind = 2) (hr : o.refs = [false]) (el : Nat) (hl : el < o.hi - o.lo) : ∃ d : Wd, (H.rowOf o.row)[o.lo + el]? = some d ∧ Calls Try.prog 18 #[.pointer (some ⟨hb, 0, none⟩), .int .i64 r, .int .i64 (el : Int), .int .i64 0] w fun e w' => e = .returned (.tuple #[.agg #[.int .i64 d.num, .int .i64 d.ref], .int .i64 0]) ∧ Below w.heap.size w w' := by
  obtain ⟨x, hx, hxA, _⟩ := hi.row r o ho
  obtain ⟨hl1, hl2, hl3⟩ := (hlen r o x ho hx).2.1 hk
  have hrl : o.refs.length = 1 := by rw [hr]; rfl
  obtain ⟨q, hq⟩ : ∃ q, q = o.lo + el := ⟨_, rfl⟩
  have e : (o.lo + el) * o.refs.length + 0 = q := by rw [hrl]; omega
  have hj2 := el_lt (i := 0) hl (show 0 < o.refs.length by omega) hl2
  have hj : q < x.words.length := by rw [← e]; exact hj2
  obtain ⟨g, hA, hg, hC, _, c0, c1⟩ := (h.row _ x hx).cell _ hj
  have hrow : H.rowOf o.row = x.words := by unfold Hp.rowOf; rw [hx]; rfl
  refine ⟨x.words[q]'hj, by rw [hrow, ← hq]; exact List.getElem?_eq_getElem hj, ?_⟩
  generalize x.words[q]'hj = d at *
  have hB : Below w.heap.size w (w.alloc (.cells #[.int .i64 0, .int .i64 0] 42)) := (Below.refl _ _).alloc (Nat.le_refl _) _
  have HB := Lib.hid hB
  have HW := Lib.hid (el_ok (h.below hB) ho hk hx (hxA.2 hk) (by have := words_le_mu hx; omega) el 0 hl1 (by omega) (by omega) hl (by omega) hj2 hA hC)
  rw [e] at HW
  have HK0 := Lib.hid (heap_alloc_new w (.cells #[.int .i64 0, .int .i64 0] 42))
  obtain ⟨q2, hq2⟩ : ∃ q2, q2 = q * 2 := ⟨_, rfl⟩
  rw [← hq2] at c0 c1 HW
  have C0 := Lib.hid c0
  have C1 := Lib.hid c1
  have HG := Lib.hid hg
  clear hB hi hlen hmu hx hxA hl1 hl2 hl3 hrl hj hj2 hrow h ho hk hr hl hA hC hq hq2 e c0 c1 hg
  go_enter Try.func18, Try.ntmps18
  go_wp2_with (go_at_call 64; refine HW.out.mono ?_; rintro e w1 ⟨rfl, hb1⟩
               have HB1 := Lib.hid (HB.out.trans (hb1.mono HB.out.size))
               have hk := (hb1.block _ (lt_of_heap HK0.out)).trans HK0.out
               have e0 := cell_of_heap (v := .int .i64 0) hk (j := 0) rfl
               have e1 := cell_of_heap (v := .int .i64 0) hk (j := 1) rfl
               have f0 := frozen_of_heap hk 0
               have f1 := frozen_of_heap hk 1
               have hz := lt_of_heap hk
               have c0 := cell_later HB1.out C0.out
               have c1 := cell_later HB1.out C1.out
               have hgg := HG.out
               clear hb1 hk)
  exact bodyPost_ret (v := .tuple #[.agg #[.int .i64 d.num, .int .i64 d.ref], .int .i64 0]) (by simp [results, Try.results18, go_sem, e0, e1]) rfl ⟨rfl, (HB1.out.setCell (Nat.le_refl _) _).setCell (Nat.le_refl _) _⟩
variable {R : List Int} {rs : List (Nat × Nat)}
theorem Sh.len_calls (hs : Sh H R rs) (c : Car w0 hb K H w) (hR : R.length ≤ 1000) {j : Nat} (hj : j < rs.length) : Calls Try.prog 17 #[.pointer (some ⟨hb, 0, none⟩), .int .i64 ((j : Int) + 1)] w fun e w' => e = .returned (.tuple #[.int .i64 (((rs[j]'hj).2 - (rs[j]'hj).1 : Nat) : Int), .int .i64 0]) ∧ Below w.heap.size w w' := by
  obtain ⟨o, ho, hk, hr, hro, hlo, hhi⟩ := hs.ob j hj
  have := hs.le j hj
  rw [← hlo, ← hhi] at *
  exact c.quiet fun _ _ hp => len_arr hp ho hk (by omega) (by omega)
theorem Sh.at_calls (hs : Sh H R rs) (c : Car w0 hb K H w) (ok : Ok H N) (hN : N ≤ 1000) {j : Nat} (hj : j < rs.length) {el : Nat} (hl : el < (rs[j]'hj).2 - (rs[j]'hj).1) (hi : (rs[j]'hj).1 + el < R.length) : Calls Try.prog 18 #[.pointer (some ⟨hb, 0, none⟩), .int .i64 ((j : Int) + 1), .int .i64 (el : Int), .int .i64 0] w fun e w' => e = .returned (.tuple #[.agg #[.int .i64 (R[(rs[j]'hj).1 + el]'hi), .int .i64 0], .int .i64 0]) ∧ Below w.heap.size w w' := by
  obtain ⟨o, ho, hk, hr, hro, hlo, hhi⟩ := hs.ob j hj
  refine c.quiet fun _ _ hp => ?_
  obtain ⟨d, hd, hc⟩ := at_arr hp ok.inv ok.st.len (by have := ok.mu4 hN; omega) ho hk hr el (by omega)
  rw [hro, hs.row, hlo, List.getElem?_map, List.getElem?_eq_getElem hi] at hd
  injection hd with hd
  subst hd
  exact hc
end Go.Proofs.Ytodfpclekihbhaa

/- The memory beside an array of numbers and its parts. -/
namespace Go.Proofs.Ytodfpclekihbhaa
open Go.RowKit Go.Shelf

/-- A part of the plain list. -/
def PV (Pb : Nat) (v : Value) (r : Nat × Nat) : Prop := ∃ A C, v = .slice A (r.2 - r.1) C ∧ r.2 - r.1 ≤ C ∧ (0 < C → A = some ⟨Pb, r.1, none⟩) ∧ A ≠ none
structure SM (w : World) (Pb : Nat) (R : List Int) (A9 : Option Addr) (C9 : Nat) (l9 : List Int) (A8 : Option Addr) (C8 : Nat) (vs : List Value) : Prop where
  pb : w.heap[Pb]? = some (.cells (R.map (Value.int .i64)).toArray 2 (0, 0))
  ra : w.ownsRow 0 26 1 (.slice A9 l9.length C9) l9.length (ints l9)
  pl : w.ownsRow 0 33 1 (.slice A8 vs.length C8) vs.length vs
def SK (Pb : Nat) (A9 A8 : Option Addr) : Nat → Prop := fun k => k = Pb ∨ (∃ a, A9 = some a ∧ a.block = k) ∨ ∃ a, A8 = some a ∧ a.block = k
structure SA (X : Nat → Prop) (w0 w : World) (hb : Nat) (H : Hp) (N : Nat) (Pb : Nat) (R : List Int) (A9 : Option Addr) (C9 : Nat) (l9 : List Int) (A8 : Option Addr) (C8 : Nat) (vs : List Value) : Prop where
  car : Car w0 hb (fun k => SK Pb A9 A8 k ∨ X k) H w
  ok : Ok H N
  sm : SM w Pb R A9 C9 l9 A8 C8 vs
  kk : ∀ k, SK Pb A9 A8 k → w0.heap.size ≤ k
variable {w0 w w' : World} {hb : Nat} {H : Hp} {N Pb C9 C8 : Nat} {R l9 : List Int} {A9 A8 : Option Addr} {vs : List Value} {X : Nat → Prop}
theorem SM.mut {T : Nat → Prop} (h : SM w Pb R A9 C9 l9 A8 C8 vs) (hm : Mut T w w') (hT : ∀ k, SK Pb A9 A8 k → ¬ T k) : SM w' Pb R A9 C9 l9 A8 C8 vs :=
  ⟨(hm.block _ (lt_of_heap h.pb) (hT _ (.inl rfl))).trans h.pb, own_mut2 h.ra hm fun a ha => hT _ (.inr (.inl ⟨a, ha, rfl⟩)), own_mut2 h.pl hm fun a ha => hT _ (.inr (.inr ⟨a, ha, rfl⟩))⟩
theorem SM.lt (h : SM w Pb R A9 C9 l9 A8 C8 vs) {k : Nat} (hk : SK Pb A9 A8 k) : k < w.heap.size := by
  rcases hk with rfl | ⟨a, ha, rfl⟩ | ⟨a, ha, rfl⟩
  · exact lt_of_heap h.pb
  · exact (own_blk h.ra a ha).2
  · exact (own_blk h.pl a ha).2
theorem SM.ne9 (h : SM w Pb R A9 C9 l9 A8 C8 vs) : ∀ a, A9 = some a → a.block ≠ Pb ∧ ∀ b, A8 = some b → a.block ≠ b.block := fun a ha => by
  obtain ⟨_, cs, hcs⟩ := own_head h.ra a ha
  refine ⟨ne_ty hcs h.pb (by decide), fun b hb => ?_⟩
  obtain ⟨_, ds, hds⟩ := own_head h.pl b hb
  exact ne_ty hcs hds (by decide)
theorem SM.ne8 (h : SM w Pb R A9 C9 l9 A8 C8 vs) : ∀ a, A8 = some a → a.block ≠ Pb := fun a ha => by
  obtain ⟨_, cs, hcs⟩ := own_head h.pl a ha
  exact ne_ty hcs h.pb (by decide)
theorem SA.below (h : SA X w0 w hb H N Pb R A9 C9 l9 A8 C8 vs) (hb' : Below w.heap.size w w') : SA X w0 w' hb H N Pb R A9 C9 l9 A8 C8 vs :=
  ⟨h.car.below hb', h.ok, h.sm.mut (T := fun _ => False) (Mut.of_below hb') fun _ _ h => h, h.kk⟩
theorem SA.next {H' : Hp} {N' : Nat} (h : SA X w0 w hb H N Pb R A9 C9 l9 A8 C8 vs) (hc : CPost w0 w hb (fun k => SK Pb A9 A8 k ∨ X k) H' w') (ok : Ok H' N') : SA X w0 w' hb H' N' Pb R A9 C9 l9 A8 C8 vs :=
  ⟨hc.1, ok, h.sm.mut hc.2 fun k hk e => e.2 (.inl hk), h.kk⟩
theorem Car.growS {K T : Nat → Prop} (c : Car w0 hb K H w) (h : Mut T w w') (hT : ∀ k, T k → w0.heap.size ≤ k ∧ K k) : Car w0 hb (fun k => K k ∨ (w.heap.size ≤ k ∧ k < w'.heap.size)) H w' := by
  obtain ⟨⟨A, S, hp, hS⟩, b, hk⟩ := c
  refine ⟨⟨A, S, hp.mut h fun k h1 h2 => (hS k h1).2 (hT k h2).2, fun x hx => ⟨(hS x hx).1, ?_⟩⟩, b.trans (h.to_below b.size fun k h1 => (hT k h1).1), ?_⟩
  · rintro (e | e)
    · exact (hS x hx).2 e
    · have := hp.Slt _ hx; omega
  · rintro x (e | e)
    · exact Nat.lt_of_lt_of_le (hk x e) h.size
    · exact e.2
/-- A number is put behind the arrays. -/
theorem SA.push9 (h : SA X w0 w hb H N Pb R A9 C9 l9 A8 C8 vs) {r : Int} {g C : Nat} (hown : w'.ownsRow 0 26 1 (.slice (some ⟨g, 0, none⟩) (l9.length + 1) C) (l9.length + 1) (ints l9 ++ [.int .i64 r])) (hg : w.grownBy w' (Value.slice A9 l9.length C9).ownBlock) (hn : (Value.slice A9 l9.length C9).ownBlock = some g ∨ g = w.heap.size) (hlt : g < w'.heap.size) :
    SA X w0 w' hb H N Pb R (some ⟨g, 0, none⟩) C (l9 ++ [r]) A8 C8 vs := by
  have hm : Mut (fun k => ∃ a, A9 = some a ∧ a.block = k) w w' := Mut.of_grown hg fun k hk => .inl (ownB hk)
  have hgk : (∃ a, A9 = some a ∧ a.block = g) ∨ w.heap.size ≤ g := by
    rcases hn with e | e
    · exact .inl (ownB e)
    · exact .inr (Nat.le_of_eq e.symm)
  have e : ints l9 ++ [.int .i64 r] = ints (l9 ++ [r]) := by simp [ints]
  rw [e] at hown
  have hown' : w'.ownsRow 0 26 1 (.slice (some ⟨g, 0, none⟩) (l9 ++ [r]).length C) (l9 ++ [r]).length (ints (l9 ++ [r])) := by simpa using hown
  refine ⟨(h.car.growS hm fun k hk => ⟨h.kk k (.inr (.inl hk)), .inl (.inr (.inl hk))⟩).forget fun k hk => ?_, h.ok, ⟨(hm.block _ (lt_of_heap h.sm.pb) fun ⟨a, ha, e⟩ => (h.sm.ne9 a ha).1 e).trans h.sm.pb, hown', own_mut2 h.sm.pl hm fun b hb ⟨a, ha, e⟩ => (h.sm.ne9 a ha).2 b hb e⟩, fun k hk => ?_⟩
  · rcases hk with (hk | ⟨a, ha, e⟩ | hk) | hk
    · exact .inl (.inl (.inl hk))
    · injection ha with ha
      subst ha
      obtain rfl : g = k := e
      rcases hgk with h1 | h1
      · exact .inl (.inl (.inr (.inl h1)))
      · exact .inr ⟨h1, hlt⟩
    · exact .inl (.inl (.inr (.inr hk)))
    · exact .inl (.inr hk)
  · rcases hk with hk | ⟨a, ha, e⟩ | hk
    · exact h.kk k (.inl hk)
    · injection ha with ha
      subst ha
      obtain rfl : g = k := e
      rcases hgk with h1 | h1
      · exact h.kk _ (.inr (.inl h1))
      · exact Nat.le_trans h.car.bel.size h1
    · exact h.kk k (.inr (.inr hk))
/-- A part is put behind the plain ones. -/
theorem SA.push8 (h : SA X w0 w hb H N Pb R A9 C9 l9 A8 C8 vs) {v : Value} {g C : Nat} (hown : w'.ownsRow 0 33 1 (.slice (some ⟨g, 0, none⟩) (vs.length + 1) C) (vs.length + 1) (vs ++ [v])) (hg : w.grownBy w' (Value.slice A8 vs.length C8).ownBlock) (hn : (Value.slice A8 vs.length C8).ownBlock = some g ∨ g = w.heap.size) (hlt : g < w'.heap.size) :
    SA X w0 w' hb H N Pb R A9 C9 l9 (some ⟨g, 0, none⟩) C (vs ++ [v]) := by
  have hm : Mut (fun k => ∃ a, A8 = some a ∧ a.block = k) w w' := Mut.of_grown hg fun k hk => .inl (ownB hk)
  have hgk : (∃ a, A8 = some a ∧ a.block = g) ∨ w.heap.size ≤ g := by
    rcases hn with e | e
    · exact .inl (ownB e)
    · exact .inr (Nat.le_of_eq e.symm)
  refine ⟨(h.car.growS hm fun k hk => ⟨h.kk k (.inr (.inr hk)), .inl (.inr (.inr hk))⟩).forget fun k hk => ?_, h.ok, ⟨(hm.block _ (lt_of_heap h.sm.pb) fun ⟨a, ha, e⟩ => h.sm.ne8 a ha e).trans h.sm.pb, own_mut2 h.sm.ra hm fun a ha ⟨b, hb, e⟩ => (h.sm.ne9 a ha).2 b hb e.symm, by simpa using hown⟩, fun k hk => ?_⟩
  · rcases hk with (hk | hk | ⟨a, ha, e⟩) | hk
    · exact .inl (.inl (.inl hk))
    · exact .inl (.inl (.inr (.inl hk)))
    · injection ha with ha
      subst ha
      obtain rfl : g = k := e
      rcases hgk with h1 | h1
      · exact .inl (.inl (.inr (.inr h1)))
      · exact .inr ⟨h1, hlt⟩
    · exact .inl (.inr hk)
  · rcases hk with hk | hk | ⟨a, ha, e⟩
    · exact h.kk k (.inl hk)
    · exact h.kk k (.inr (.inl hk))
    · injection ha with ha
      subst ha
      obtain rfl : g = k := e
      rcases hgk with h1 | h1
      · exact h.kk _ (.inr (.inr h1))
      · exact Nat.le_trans h.car.bel.size h1
/-- The plain list's block turns. -/
theorem SA.plain {R' : List Int} (h : SA X w0 w hb H N Pb R A9 C9 l9 A8 C8 vs) (hm : Mut (· = Pb) w w') (hp : w'.heap[Pb]? = some (.cells (R'.map (Value.int .i64)).toArray 2 (0, 0))) : SA X w0 w' hb H N Pb R' A9 C9 l9 A8 C8 vs :=
  ⟨h.car.turn hm fun k hk => by rw [hk]; exact ⟨h.kk _ (.inl rfl), .inl (.inl rfl)⟩, h.ok, ⟨hp, own_mut2 h.sm.ra hm fun a ha e => (h.sm.ne9 a ha).1 e, own_mut2 h.sm.pl hm fun a ha e => h.sm.ne8 a ha e⟩, h.kk⟩
theorem SA.drop (h : SA X w0 w hb H N Pb R A9 C9 l9 A8 C8 vs) : SA (fun _ => False) w0 w hb H N Pb R A9 C9 l9 A8 C8 vs :=
  ⟨h.car.forget fun k hk => hk.elim .inl fun e => e.elim, h.ok, h.sm, h.kk⟩
theorem Car.keepT {K P : Nat → Prop} (c : Car w0 hb K H w) (h : Below w.heap.size w w') (hP : ∀ k, P k → w.heap.size ≤ k ∧ k < w'.heap.size) : Car w0 hb (fun k => K k ∨ P k) H w' := by
  obtain ⟨⟨A, S, hp, hS⟩, b, hk⟩ := c
  refine ⟨⟨A, S, hp.below h, fun x hx => ⟨(hS x hx).1, ?_⟩⟩, b.trans (h.mono b.size), ?_⟩
  · rintro (e | e)
    · exact (hS x hx).2 e
    · have := hp.Slt _ hx; have := (hP x e).1; omega
  · rintro x (e | e)
    · exact Nat.lt_of_lt_of_le (hk x e) h.size
    · exact (hP x e).2
/-- A box is made, and kept. -/
theorem SA.box (h : SA (fun _ => False) w0 w hb H N Pb R A9 C9 l9 A8 C8 vs) (o : Obj) : SA (· = w.heap.size) w0 (w.alloc o) hb H N Pb R A9 C9 l9 A8 C8 vs :=
  ⟨(h.car.keepT (P := (· = w.heap.size)) ((Below.refl _ _).alloc (Nat.le_refl _) o) fun k hk => by rw [hk]; exact ⟨Nat.le_refl _, by simp⟩).forget fun k hk => hk.elim (fun e => .inl (.inl e)) .inr, h.ok, h.sm.mut (T := fun _ => False) (Mut.of_below ((Below.refl _ _).alloc (Nat.le_refl _) o)) fun _ _ h => h, h.kk⟩
/-- A box is in none of these. -/
theorem SM.box (h : SM w Pb R A9 C9 l9 A8 C8 vs) {b : Nat} {cs : Array Value} {fr : Nat × Nat} (hb : w.heap[b]? = some (.cells cs 37 fr)) : ¬ SK Pb A9 A8 b := by
  rintro (e | ⟨a, ha, e⟩ | ⟨a, ha, e⟩)
  · exact ne_ty hb h.pb (by decide) e
  · obtain ⟨_, ds, hds⟩ := own_head h.ra a ha
    exact ne_ty hds hb (by decide) e
  · obtain ⟨_, ds, hds⟩ := own_head h.pl a ha
    exact ne_ty hds hb (by decide) e
/-- A part of a part. -/
theorem PV.part {lo hi f t : Nat} {A : Option Addr} {C : Nat} (h2 : hi - lo ≤ C) (h3 : 0 < C → A = some ⟨Pb, lo, none⟩) (h4 : A ≠ none) (hft : f ≤ t) (ht : t ≤ hi - lo) : PV Pb (sliced A f t t 1) (lo + f, lo + t) := by
  refine ⟨_, t - f, rfl |>.trans (by unfold sliced; congr 1; show t - f = lo + t - (lo + f); omega), by show lo + t - (lo + f) ≤ t - f; omega, fun h => ?_, ?_⟩
  · rw [if_neg (by omega), h3 (by omega)]
    simp [Addr.add]
  · by_cases e : t = f
    · rw [if_pos e]; exact h4
    · rw [if_neg e, h3 (by omega)]; simp
end Go.Proofs.Ytodfpclekihbhaa

/- HeapShares: what the law reads; the beginning. -/
namespace Go.Proofs.Ytodfpclekihbhaa
open Go.RowKit Go.Shelf

structure CutM where
  f : Int
  t : Int
  at_ : Int
  num : Int
  copy : Bool
def CutC (w : World) (g o : Nat) (m : CutM) : Prop := g < w.heap.size ∧ w.cell? ⟨g, o, none⟩ = some (.int .i64 m.f) ∧ w.cell? ⟨g, o + 1, none⟩ = some (.int .i64 m.t) ∧ w.cell? ⟨g, o + 2, none⟩ = some (.int .i64 m.at_) ∧ w.cell? ⟨g, o + 3, none⟩ = some (.int .i64 m.num) ∧ w.cell? ⟨g, o + 4, none⟩ = some (.bool m.copy)
def CutsAt (w : World) (A : Option Addr) (l : List CutM) : Prop := ∀ j (h : j < l.length), ∃ g o, A = some ⟨g, o, none⟩ ∧ CutC w g (o + j * 5) (l[j]'h)
theorem CutsAt.below {w w' : World} {A : Option Addr} {l : List CutM} (h : CutsAt w A l) (hb : Below w.heap.size w w') : CutsAt w' A l := fun j hj => by
  obtain ⟨g, o, h1, h2, h3, h4, h5, h6, h7⟩ := h j hj
  exact ⟨g, o, h1, Nat.lt_of_lt_of_le h2 hb.size, cell_later hb h3, cell_later hb h4, cell_later hb h5, cell_later hb h6, cell_later hb h7⟩
def numsL (m : Nat) : List Int := (List.range m).map fun (j : Nat) => (j : Int) + 1
theorem Try.infoI64 : (Try.prog.info? 2).map (fun i => (i.zero, i.size, i.bytes)) = some (some (.int .i64 0), 1, 8) := by kernel_rfl
theorem Try.infoI64s : (Try.prog.info? 33).map (fun i => (i.zero, i.size, i.bytes)) = some (some (.slice none 0 0), 1, 24) := by kernel_rfl
theorem made_ints (m : Nat) : madeCells #[.int .i64 0] (m * 1) = Array.replicate m (Value.int .i64 0) := by
  unfold madeCells
  apply Array.ext
  · simp
  · intro i h1 h2
    simp [Nat.mod_one]
theorem run_mk64 (w : World) (m : Nat) (hm : m ≤ 1000) : (Instr.makeSlice 33 (.int .u8 (m : Int)) (.int .u8 (m : Int))).run Try.prog w = .ok (.slice (some ⟨w.heap.size, 0, none⟩) m m) (w.alloc (.cells (Array.replicate m (Value.int .i64 0)) 2)) := by
  obtain ⟨i0, hi, hz0, hz1, hz2⟩ := info_parts Try.infoI64
  have := run_make (P := Try.prog) w 33 2 i0 _ Try.underlying33 hi hz0 .u8 .u8 (m : Int) (m : Int) (by omega) (Int.le_refl _) (by rw [hz2]; omega) (by omega)
  rw [hz1, Int.toNat_natCast] at this
  rw [← made_ints]
  exact this
/-- The beginning. -/
theorem SA.start {w0 w : World} {hb : Nat} {H : Hp} {N n : Nat} (c : Car w0 hb (fun _ => False) H w) (ok : Ok H N) : SA (fun _ => False) w0 (((w.alloc (.cells (Array.replicate n (Value.int .i64 0)) 2)).alloc (.cells #[.slice (some ⟨w.heap.size, 0, none⟩) n n] 33)).alloc (.cells #[.int .i64 1] 26)) hb H N w.heap.size (List.replicate n 0) (some ⟨w.heap.size + 1 + 1, 0, none⟩) 1 (numsL 1) (some ⟨w.heap.size + 1, 0, none⟩) 1 [.slice (some ⟨w.heap.size, 0, none⟩) n n] := by
  obtain ⟨h0, h1⟩ := heap2 w (.cells (Array.replicate n (Value.int .i64 0)) 2) (.cells #[.slice (some ⟨w.heap.size, 0, none⟩) n n] 33)
  have b2 : Below (w.heap.size + 2) ((w.alloc (.cells (Array.replicate n (Value.int .i64 0)) 2)).alloc (.cells #[.slice (some ⟨w.heap.size, 0, none⟩) n n] 33)) (((w.alloc (.cells (Array.replicate n (Value.int .i64 0)) 2)).alloc (.cells #[.slice (some ⟨w.heap.size, 0, none⟩) n n] 33)).alloc (.cells #[.int .i64 1] 26)) := (Below.refl _ _).alloc (by simp) _
  have h2 := heap_alloc_new ((w.alloc (.cells (Array.replicate n (Value.int .i64 0)) 2)).alloc (.cells #[.slice (some ⟨w.heap.size, 0, none⟩) n n] 33)) (.cells #[.int .i64 1] 26)
  have hsz : ((w.alloc (.cells (Array.replicate n (Value.int .i64 0)) 2)).alloc (.cells #[.slice (some ⟨w.heap.size, 0, none⟩) n n] 33)).heap.size = w.heap.size + 2 := by simp
  rw [hsz] at h2
  have bw : Below w.heap.size w (((w.alloc (.cells (Array.replicate n (Value.int .i64 0)) 2)).alloc (.cells #[.slice (some ⟨w.heap.size, 0, none⟩) n n] 33)).alloc (.cells #[.int .i64 1] 26)) := (((Below.refl _ _).alloc (Nat.le_refl _) _).alloc (by simp) _).alloc (by simp; omega) _
  have hs3 : (((w.alloc (.cells (Array.replicate n (Value.int .i64 0)) 2)).alloc (.cells #[.slice (some ⟨w.heap.size, 0, none⟩) n n] 33)).alloc (.cells #[.int .i64 1] 26)).heap.size = w.heap.size + 3 := by simp
  have g0 := (b2.block w.heap.size (by omega)).trans h0
  have g1 := (b2.block (w.heap.size + 1) (by omega)).trans h1
  generalize (((w.alloc (.cells (Array.replicate n (Value.int .i64 0)) 2)).alloc (.cells #[.slice (some ⟨w.heap.size, 0, none⟩) n n] 33)).alloc (.cells #[.int .i64 1] 26)) = W at *
  have hk : ∀ k, SK w.heap.size (some ⟨w.heap.size + 1 + 1, 0, none⟩) (some ⟨w.heap.size + 1, 0, none⟩) k → w.heap.size ≤ k ∧ k < w.heap.size + 3 := fun k hk => by
    rcases hk with rfl | ⟨a, ha, rfl⟩ | ⟨a, ha, rfl⟩
    · omega
    · injection ha with ha; subst ha; exact ⟨by show w.heap.size ≤ w.heap.size + 2; omega, by show w.heap.size + 2 < _; omega⟩
    · injection ha with ha; subst ha; exact ⟨by show w.heap.size ≤ w.heap.size + 1; omega, by show w.heap.size + 1 < _; omega⟩
  refine ⟨(c.keepT (P := SK w.heap.size (some ⟨w.heap.size + 1 + 1, 0, none⟩) (some ⟨w.heap.size + 1, 0, none⟩)) bw fun k h => by rw [hs3]; exact hk k h).forget fun k h => h.elim .inr fun e => e.elim, ok, ⟨by rw [g0]; simp, ?_, ?_⟩, fun k h => Nat.le_trans c.bel.size (hk k h).1⟩
  · exact ⟨rfl, .inr ⟨w.heap.size + 2, 1, _, rfl, Nat.zero_le _, h2, Nat.le_refl _, by decide, rfl, rfl⟩⟩
  · exact ⟨rfl, .inr ⟨w.heap.size + 1, 1, _, rfl, Nat.zero_le _, g1, Nat.le_refl _, by decide, rfl, rfl⟩⟩
theorem add_at0 (b j : Nat) : (⟨b, 0, none⟩ : Addr).add j = ⟨b, j, none⟩ := by
  unfold Addr.add
  split
  · rename_i h; subst h; rfl
  · simp
theorem numsL_len (m : Nat) : (numsL m).length = m := by simp [numsL]
theorem numsL_succ (m : Nat) : numsL (m + 1) = numsL m ++ [(m : Int) + 1] := by simp [numsL, List.range_succ]
/-- What lies where, at a part. -/
theorem SM.open {w : World} {Pb C9 C8 m : Nat} {R : List Int} {A9 A8 : Option Addr} {vs : List Value} (h : SM w Pb R A9 C9 (numsL m) A8 C8 vs) (hv : vs.length = m) (hm : 0 < m) : ∃ g9 g8, A9 = some ⟨g9, 0, none⟩ ∧ A8 = some ⟨g8, 0, none⟩ ∧ ∀ k (hk : k < m), w.cell? ⟨g9, k, none⟩ = some (.int .i64 ((k : Int) + 1)) ∧ w.cell? ⟨g8, k, none⟩ = some (vs[k]'(by omega)) := by
  have h9 := h.ra
  have h8 := h.pl
  rw [numsL_len] at h9
  rw [hv] at h8
  have e9 : ∃ g9, A9 = some ⟨g9, 0, none⟩ := by
    rcases h9.2 with ⟨_, h0⟩ | ⟨g, cap, cur, h1, _⟩
    · omega
    · injection h1 with e; exact ⟨g, e⟩
  have e8 : ∃ g8, A8 = some ⟨g8, 0, none⟩ := by
    rcases h8.2 with ⟨_, h0⟩ | ⟨g, cap, cur, h1, _⟩
    · omega
    · injection h1 with e; exact ⟨g, e⟩
  obtain ⟨g9, rfl⟩ := e9
  obtain ⟨g8, rfl⟩ := e8
  refine ⟨g9, g8, rfl, rfl, fun k hk => ⟨?_, ?_⟩⟩
  · have := h9.cells (g := g9) rfl k (.int .i64 ((k : Int) + 1)) (by unfold ints numsL; simp [hk])
    rwa [add_at0] at this
  · have := h8.cells (g := g8) rfl k (vs[k]'(by omega)) (List.getElem?_eq_getElem _)
    rwa [add_at0] at this
end Go.Proofs.Ytodfpclekihbhaa

