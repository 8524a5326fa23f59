/- Set and Put, whole. -/
import Derived.Test.YtodfpclekihbhaaW16
namespace Go.Proofs.Ytodfpclekihbhaa
open Go.RowKit Go.Shelf

variable {w : World} {hb : Nat} {A : HA} {H : Hp} {S : Nat → Prop}
/-- What a call that changes a heap leaves. -/
def ChPost (w : World) (hb : Nat) (A : HA) (S : Nat → Prop) (R : Hp × Int) (e : Ending) (w' : World) : Prop := e = .returned (.int .i64 R.2) ∧ HpAt w' hb A R.1 S ∧ Mut S w w'
theorem ChPost.err (h : HpAt w hb A H S) (n : Int) : ∀ e w', (e = .returned (.int .i64 n) ∧ Below w.heap.size w w') → ChPost w hb A S (H, n) e w' := fun _ _ ⟨h1, h2⟩ => ⟨h1, h.below h2, Mut.of_below h2⟩
theorem word_err (h : HpAt w hb A H S) (r i : Int) (l : Bool) (he : (placeO H r i l).1 = none) (W : World) (hW : Below w.heap.size w W) : Calls Try.prog 73 #[.pointer (some ⟨hb, 0, none⟩), .int .i64 r, .int .i64 i, .bool l] W (WdErr W (placeO H r i l).2) := by
  have h1 := h.below hW
  unfold placeO at he ⊢
  cases ho : Mp.get H.objs r with
  | none => exact word_none h1 ho i l
  | some o =>
    rw [ho] at he
    simp only at he ⊢
    by_cases hk : ¬ (o.kind = 4 ∨ o.kind = 6 ∨ o.kind = 7 ∨ o.kind = 3 ∧ l = true)
    · rw [if_pos hk]
      by_cases h3 : o.kind = 3
      · have : l = false := by
          cases l with
          | false => rfl
          | true => exact absurd (.inr (.inr (.inr ⟨h3, rfl⟩))) hk
        subst this
        exact word_list h1 ho i h3
      · exact word_kind h1 ho i l ⟨fun e => hk (.inl e), fun e => hk (.inr (.inl e)), fun e => hk (.inr (.inr (.inl e))), h3⟩
    · rw [if_neg hk] at he ⊢
      have hk' : o.kind = 4 ∨ o.kind = 6 ∨ o.kind = 7 ∨ o.kind = 3 ∧ l = true := Classical.not_not.1 hk
      by_cases hr : i < 0 ∨ ((H.rowOf o.row).length : Int) ≤ i
      · rw [if_pos hr]
        by_cases hn : i < 0
        · rcases hk' with e | e | e | ⟨e, rfl⟩
          · exact word_neg4 h1 ho i l e hn
          · exact word_neg6 h1 ho i l e hn
          · exact word_neg7 h1 ho i l e hn
          · exact word_neg3 h1 ho i e hn
        · obtain ⟨j, rfl⟩ : ∃ j : Nat, i = (j : Int) := ⟨i.toNat, by omega⟩
          have hj : (H.rowOf o.row).length ≤ j := by omega
          rcases hk' with e | e | e | ⟨e, rfl⟩
          · exact word_far4 h1 ho j l e hj
          · exact word_far6 h1 ho j l e hj
          · exact word_far7 h1 ho j l e hj
          · exact word_far3 h1 ho j e hj
      · rw [if_neg hr] at he
        cases he
theorem placeO_err {H : Hp} {r i : Int} {l : Bool} (he : (placeO H r i l).1 = none) : (placeO H r i l).2 ≠ 0 ∧ placeO H r i l = (none, (placeO H r i l).2) := by
  refine ⟨?_, by rw [← he]⟩
  unfold placeO at he ⊢
  cases ho : Mp.get H.objs r with
  | none => simp
  | some o =>
    rw [ho] at he
    simp only at he ⊢
    split
    · simp
    · split
      · simp
      · rename_i h1 h2
        rw [if_neg h1, if_neg h2] at he
        cases he
theorem placeO_some {H : Hp} {r i : Int} {l : Bool} {k : Int} {j : Nat} (he : (placeO H r i l).1 = some (k, j)) : placeO H r i l = (some (k, j), 0) ∧ i = (j : Int) ∧ ∃ o, Mp.get H.objs r = some o ∧ o.row = k ∧ (o.kind = 4 ∨ o.kind = 6 ∨ o.kind = 7 ∨ o.kind = 3 ∧ l = true) ∧ j < (H.rowOf k).length := by
  unfold placeO at he ⊢
  cases ho : Mp.get H.objs r with
  | none => rw [ho] at he; cases he
  | some o =>
    rw [ho] at he
    simp only at he ⊢
    by_cases h1 : ¬ (o.kind = 4 ∨ o.kind = 6 ∨ o.kind = 7 ∨ o.kind = 3 ∧ l = true)
    · rw [if_pos h1] at he; cases he
    · rw [if_neg h1] at he ⊢
      by_cases h2 : i < 0 ∨ ((H.rowOf o.row).length : Int) ≤ i
      · rw [if_pos h2] at he; cases he
      · rw [if_neg h2] at he ⊢
        simp only [Option.some.injEq, Prod.mk.injEq] at he
        obtain ⟨rfl, rfl⟩ := he
        exact ⟨rfl, by omega, o, rfl, rfl, Classical.not_not.1 h1, by omega⟩
theorem rowOf_some {H : Hp} {k : Int} {j : Nat} (h : j < (H.rowOf k).length) : ∃ y, Mp.get H.rows k = some y ∧ H.rowOf k = y.words := by
  unfold Hp.rowOf at h ⊢
  cases hy : Mp.get H.rows k with
  | none => rw [hy] at h; exact absurd h (Nat.not_lt_zero _)
  | some y => exact ⟨y, rfl, rfl⟩
theorem word_ok (h : HpAt w hb A H S) {r : Int} {o : Ob} (ho : Mp.get H.objs r = some o) (j : Nat) (l : Bool) (hk : o.kind = 4 ∨ o.kind = 6 ∨ o.kind = 7 ∨ o.kind = 3 ∧ l = true) (hj : j < (H.rowOf o.row).length) {g : Nat} (hA : A.wA o.row = some ⟨g, 0, none⟩) (hC : (H.rowOf o.row).length ≤ A.wC o.row) :
    Calls Try.prog 73 #[.pointer (some ⟨hb, 0, none⟩), .int .i64 r, .int .i64 (j : Int), .bool l] w fun e w' => e = .returned (.tuple #[.pointer (some ⟨A.ob r, 0, none⟩), .pointer (some ⟨g, j * 2, none⟩), .int .i64 0]) ∧ Below w.heap.size w w' := by
  rcases hk with e | e | e | ⟨e, rfl⟩
  · exact word_ok4 h ho j l e hj hA hC
  · exact word_ok6 h ho j l e hj hA hC
  · exact word_ok7 h ho j l e hj hA hC
  · exact word_ok3 h ho j e hj hA hC
theorem set_calls (h : HpAt w hb A H S) (hi : Inv H []) (hmu : muH H ≤ 90000000) (hbd : HoldsLe H 1000000000) (hlen : LenOk H) (r i num ref : Int) :
    Calls Try.prog 32 #[.pointer (some ⟨hb, 0, none⟩), .int .i64 r, .int .i64 i, .agg #[.int .i64 num, .int .i64 ref]] w (ChPost w hb A S (setH H r i ⟨num, ref⟩)) := by
  cases hp : (placeO H r i false).1 with
  | none =>
    obtain ⟨h1, h2⟩ := placeO_err hp
    have e : setH H r i ⟨num, ref⟩ = (H, (placeO H r i false).2) := by unfold setH; rw [h2]; rfl
    rw [e]
    exact (set_err _ r i num ref _ h1 (word_err h r i false hp)).mono (ChPost.err h _)
  | some kj =>
    obtain ⟨k, j⟩ := kj
    obtain ⟨h2, rfl, o, ho, rfl, hk, hj⟩ := placeO_some hp
    obtain ⟨y, hy, hye⟩ := rowOf_some hj
    have hj' := hj
    rw [hye] at hj'
    obtain ⟨g, hA, _, hC, _⟩ := (h.row _ y hy).cell j hj'
    have hk2 : o.kind = 4 ∨ o.kind = 6 ∨ o.kind = 7 := by
      rcases hk with e | e | e | ⟨_, e⟩
      · exact .inl e
      · exact .inr (.inl e)
      · exact .inr (.inr e)
      · cases e
    have hl := (hlen r o y ho hy).1 (by omega) (by omega) (by omega)
    have e : setH H r (j : Int) ⟨num, ref⟩ = storeH H r (j : Int) ⟨num, ref⟩ (some (o.row, j), 0) := by unfold setH; rw [h2]
    rw [e]
    exact set_ok h hi hmu hbd ho (by omega) num ref hy hA j hj' fun W hW => word_ok (h.below hW) ho j false hk hj hA (by rw [hye]; exact hC)
theorem placeA_err {H : Hp} {r el i : Int} (he : (placeA H r el i).1 = none) : (placeA H r el i).2 ≠ 0 ∧ placeA H r el i = (none, (placeA H r el i).2) := by
  refine ⟨?_, by rw [← he]⟩
  unfold placeA at he ⊢
  cases ho : Mp.get H.objs r with
  | none => simp
  | some o =>
    rw [ho] at he
    simp only at he ⊢
    split
    · simp
    · split
      · simp
      · rename_i h1 h2
        rw [if_neg h1, if_neg h2] at he
        cases he
theorem placeA_some {H : Hp} {r el i : Int} {k : Int} {j : Nat} (he : (placeA H r el i).1 = some (k, j)) : placeA H r el i = (some (k, j), 0) ∧ ∃ (o : Ob) (a b : Nat), el = (a : Int) ∧ i = (b : Int) ∧ Mp.get H.objs r = some o ∧ o.row = k ∧ o.kind = 2 ∧ a < o.hi - o.lo ∧ b < o.refs.length ∧ j = (o.lo + a) * o.refs.length + b := by
  unfold placeA at he ⊢
  cases ho : Mp.get H.objs r with
  | none => rw [ho] at he; cases he
  | some o =>
    rw [ho] at he
    simp only at he ⊢
    by_cases h1 : o.kind ≠ 2
    · rw [if_pos h1] at he; cases he
    · rw [if_neg h1] at he ⊢
      by_cases h2 : el < 0 ∨ (o.hi : Int) - o.lo ≤ el ∨ i < 0 ∨ (o.refs.length : Int) ≤ i
      · rw [if_pos h2] at he; cases he
      · rw [if_neg h2] at he ⊢
        simp only [Option.some.injEq, Prod.mk.injEq] at he
        obtain ⟨rfl, rfl⟩ := he
        exact ⟨rfl, o, el.toNat, i.toNat, by omega, by omega, rfl, rfl, Classical.not_not.1 h1, by omega, by omega, rfl⟩
theorem el_err (h : HpAt w hb A H S) (hlen : LenOk H) (hi : Inv H []) (r el i : Int) (he : (placeA H r el i).1 = none) (W : World) (hW : Below w.heap.size w W) : Calls Try.prog 64 #[.pointer (some ⟨hb, 0, none⟩), .int .i64 r, .int .i64 el, .int .i64 i] W (WdErr W (placeA H r el i).2) := by
  have h1 := h.below hW
  unfold placeA at he ⊢
  cases ho : Mp.get H.objs r with
  | none => exact el_none h1 ho el i
  | some o =>
    rw [ho] at he
    simp only at he ⊢
    by_cases hk : o.kind ≠ 2
    · rw [if_pos hk]; exact el_kind h1 ho el i hk
    · rw [if_neg hk] at he ⊢
      have hk2 : o.kind = 2 := Classical.not_not.1 hk
      obtain ⟨x, hx, _⟩ := hi.row r o ho
      obtain ⟨hl1, hl2, hl3⟩ := (hlen r o x ho hx).2.1 hk2
      by_cases hr : el < 0 ∨ (o.hi : Int) - o.lo ≤ el ∨ i < 0 ∨ (o.refs.length : Int) ≤ i
      · rw [if_pos hr]
        by_cases c1 : el < 0
        · exact el_neg h1 ho hk2 el i c1
        · obtain ⟨a, rfl⟩ : ∃ a : Nat, el = (a : Int) := ⟨el.toNat, by omega⟩
          by_cases c2 : o.hi - o.lo ≤ a
          · exact el_far h1 ho hk2 a i hl1 (by omega) c2
          · by_cases c3 : i < 0
            · exact el_ineg h1 ho hk2 a i hl1 (by omega) (by omega) c3
            · obtain ⟨b, rfl⟩ : ∃ b : Nat, i = (b : Int) := ⟨i.toNat, by omega⟩
              exact el_ifar h1 ho hk2 a b hl1 (by omega) (by omega) (by omega)
      · rw [if_neg hr] at he
        cases he
theorem put_calls (h : HpAt w hb A H S) (hi : Inv H []) (hmu : muH H ≤ 90000000) (hbd : HoldsLe H 1000000000) (hlen : LenOk H) (r el i num ref : Int) :
    Calls Try.prog 16 #[.pointer (some ⟨hb, 0, none⟩), .int .i64 r, .int .i64 el, .int .i64 i, .agg #[.int .i64 num, .int .i64 ref]] w (ChPost w hb A S (putH H r el i ⟨num, ref⟩)) := by
  cases hp : (placeA H r el i).1 with
  | none =>
    obtain ⟨h1, h2⟩ := placeA_err hp
    have e : putH H r el i ⟨num, ref⟩ = (H, (placeA H r el i).2) := by unfold putH; rw [h2]; rfl
    rw [e]
    exact (put_err _ r el i num ref _ h1 (el_err h hlen hi r el i hp)).mono (ChPost.err h _)
  | some kj =>
    obtain ⟨k, j⟩ := kj
    obtain ⟨h2, o, a, b, rfl, rfl, ho, rfl, hk, ha, hbl, rfl⟩ := placeA_some hp
    obtain ⟨x, hx, hxA, _⟩ := hi.row r o ho
    obtain ⟨hl1, hl2, hl3⟩ := (hlen r o x ho hx).2.1 hk
    have hj := el_lt ha hbl hl2
    obtain ⟨g, hA, _, hC, _⟩ := (h.row _ x hx).cell _ hj
    have e : putH H r (a : Int) (b : Int) ⟨num, ref⟩ = storeH H r (b : Int) ⟨num, ref⟩ (some (o.row, (o.lo + a) * o.refs.length + b), 0) := by unfold putH; rw [h2]
    rw [e]
    exact put_ok h hi hmu hbd (a : Int) ho hbl num ref hx hA _ hj fun W hW => el_ok (h.below hW) ho hk hx (hxA.2 hk) (by have := words_le_mu hx; omega) a b hl1 (by omega) (by have := (hlen r o x ho hx).2.2; omega) ha hbl hj hA hC
end Go.Proofs.Ytodfpclekihbhaa
