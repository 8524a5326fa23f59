/- A row and an object with it are added. -/
import Derived.Test.YtodfpclekihbhaaW9
namespace Go.Proofs.Ytodfpclekihbhaa
open Go.RowKit Go.Shelf

variable {w : World} {hb : Nat} {A : HA} {H : Hp} {S : Nat → Prop}
def HA.addR (A : HA) (k : Int) (wa : Option Addr) (wc st : Nat) : HA := { A with wA := fun x => if x = k then wa else A.wA x, wC := fun x => if x = k then wc else A.wC x, st := fun x => if x = k then st else A.st x }
theorem addR_self (A : HA) (k : Int) (wa : Option Addr) (wc st : Nat) : (A.addR k wa wc st).wA k = wa ∧ (A.addR k wa wc st).wC k = wc ∧ (A.addR k wa wc st).st k = st := ⟨if_pos rfl, if_pos rfl, if_pos rfl⟩
theorem addR_other (A : HA) (k : Int) (wa : Option Addr) (wc st : Nat) {x : Int} (h : x ≠ k) : (A.addR k wa wc st).wA x = A.wA x ∧ (A.addR k wa wc st).wC x = A.wC x ∧ (A.addR k wa wc st).st x = A.st x := ⟨if_neg h, if_neg h, if_neg h⟩
/-- A row that no object has yet. -/
theorem HpAt.addRow (h : HpAt w hb A H S) {k : Int} (hk : Mp.get H.rows k = none) (hk2 : ∀ r o, Mp.get H.objs r = some o → o.row ≠ k) (x : Rw) (hx : x.isA = false) (wa : Option Addr) (wc st : Nat) (hw : WordsAt w wa wc x.words) (hS : ∀ a, wa = some a → ¬ S a.block) :
    HpAt w hb (A.addR k wa wc st) { H with rows := Mp.put H.rows k x } (fun j => S j ∨ LB wa j) := by
  have hg : ∀ j y, Mp.get (Mp.put H.rows k x) j = some y → (j = k ∧ y = x) ∨ (j ≠ k ∧ Mp.get H.rows j = some y) := fun j y hy => by
    rw [Mp.get_put] at hy
    by_cases e : j = k
    · rw [if_pos e] at hy; injection hy with hy; exact .inl ⟨e, hy.symm⟩
    · rw [if_neg e] at hy; exact .inr ⟨e, hy⟩
  obtain ⟨s1, s2, s3⟩ := addR_self A k wa wc st
  have hrow : ∀ r o, Mp.get H.objs r = some o → ({ H with rows := Mp.put H.rows k x } : Hp).rowOf o.row = H.rowOf o.row := fun r o ho => by
    show ((Mp.get (Mp.put H.rows k x) o.row).map (·.words)).getD [] = _
    rw [Mp.get_put, if_neg (hk2 r o ho)]; rfl
  have hC : ∀ r o n, Mp.get H.objs r = some o → obC (A.addR k wa wc st) r o n = obC A r o n := fun r o n ho => by
    obtain ⟨t1, t2, t3⟩ := addR_other A k wa wc st (hk2 r o ho)
    unfold obC HA.wF HA.pF
    rw [t1, t2, t3]
    rfl
  refine { blk := h.blk, omap := h.omap, smap := h.smap, snil := h.snil, obj := ?_, row := ?_, sto := ?_, shp := h.shp, oinj := h.oinj, winj := ?_, sinj := ?_, mne := h.mne, Sh := .inl h.Sh, Sm := .inl h.Sm, Ss := fun b e => .inl (h.Ss b e), So := fun r o ho => .inl (h.So r o ho), Sw := ?_, St := ?_, Sp := fun r o a ho he ha => ⟨.inl (h.Sp r o a ho he ha).1, (h.Sp r o a ho he ha).2⟩, Slt := ?_ }
  · intro r o ho
    have ho' : Mp.get H.objs r = some o := ho
    rw [hrow r o ho', hC r o _ ho']
    exact h.obj r o ho'
  · intro j y hy
    rcases hg j y hy with ⟨rfl, rfl⟩ | ⟨h1, h2⟩
    · rw [s1, s2]; exact hw
    · obtain ⟨t1, t2, t3⟩ := addR_other A k wa wc st h1
      rw [t1, t2]; exact h.row j y h2
  · intro j y hy hyi
    rcases hg j y hy with ⟨rfl, rfl⟩ | ⟨h1, h2⟩
    · rw [hx] at hyi; cases hyi
    · obtain ⟨t1, t2, t3⟩ := addR_other A k wa wc st h1
      unfold stC
      rw [t1, t2, t3]; exact h.sto j y h2 hyi
  · intro j j' y y' a b hy hy' ha hb' e
    rcases hg j y hy with ⟨rfl, rfl⟩ | ⟨h1, h2⟩
    · rcases hg j' y' hy' with ⟨rfl, rfl⟩ | ⟨h3, h4⟩
      · rfl
      · rw [s1] at ha
        rw [(addR_other A j wa wc st h3).1] at hb'
        exact absurd (e ▸ h.Sw j' y' b h4 hb') (hS a ha)
    · rcases hg j' y' hy' with ⟨rfl, rfl⟩ | ⟨h3, h4⟩
      · rw [s1] at hb'
        rw [(addR_other A j' wa wc st h1).1] at ha
        exact absurd (e ▸ h.Sw j y a h2 ha) (hS b hb')
      · rw [(addR_other A k wa wc st h1).1] at ha
        rw [(addR_other A k wa wc st h3).1] at hb'
        exact h.winj _ _ _ _ a b h2 h4 ha hb' e
  · intro j j' y y' hy hy' hi1 hi2 e
    rcases hg j y hy with ⟨rfl, rfl⟩ | ⟨h1, h2⟩
    · rw [hx] at hi1; cases hi1
    · rcases hg j' y' hy' with ⟨rfl, rfl⟩ | ⟨h3, h4⟩
      · rw [hx] at hi2; cases hi2
      · rw [(addR_other A k wa wc st h1).2.2, (addR_other A k wa wc st h3).2.2] at e
        exact h.sinj _ _ _ _ h2 h4 hi1 hi2 e
  · intro j y a hy ha
    rcases hg j y hy with ⟨rfl, rfl⟩ | ⟨h1, h2⟩
    · rw [s1] at ha; exact .inr ⟨a, ha, rfl⟩
    · rw [(addR_other A k wa wc st h1).1] at ha; exact .inl (h.Sw j y a h2 ha)
  · intro j y hy hyi
    rcases hg j y hy with ⟨rfl, rfl⟩ | ⟨h1, h2⟩
    · rw [hx] at hyi; cases hyi
    · rw [(addR_other A k wa wc st h1).2.2]; exact .inl (h.St j y h2 hyi)
  · rintro j (hj | ⟨a, ha, rfl⟩)
    · exact h.Slt j hj
    · obtain ⟨cs, hcs, _⟩ := row_blk hw a ha
      exact lt_of_heap hcs
def Rw.toA (x : Rw) : Rw := { x with isA := true }
/-- A row has become that of a store. -/
theorem HpAt.toA (h : HpAt w hb A H S) {k : Int} {x : Rw} (hx : Mp.get H.rows k = some x) (hst : w.heap[A.st k]? = some (.cells (stC A k x) 99 (0, 0))) (hS : ¬ S (A.st k)) : HpAt w hb A (H.updR k Rw.toA) (fun j => S j ∨ j = A.st k) := by
  have hg : ∀ j y, Mp.get (H.updR k Rw.toA).rows j = some y → ∃ y0, Mp.get H.rows j = some y0 ∧ (j = k → y = y0.toA) ∧ (j ≠ k → y = y0) ∧ y.words = y0.words ∧ y.arr = y0.arr := fun j y hy => by
    have : Mp.get (mapAt H.rows k Rw.toA) j = some y := hy
    rw [get_mapAt] at this
    by_cases e : j = k
    · subst e
      rw [if_pos rfl, hx] at this
      injection this with this
      subst this
      exact ⟨x, hx, fun _ => rfl, fun h => absurd rfl h, rfl, rfl⟩
    · rw [if_neg e] at this
      exact ⟨y, this, fun h => absurd h e, fun _ => rfl, rfl, rfl⟩
  have hrow : ∀ j, (H.updR k Rw.toA).rowOf j = H.rowOf j := fun j => by
    show ((Mp.get (mapAt H.rows k Rw.toA) j).map (·.words)).getD [] = ((Mp.get H.rows j).map (·.words)).getD []
    rw [get_mapAt]
    split
    · cases Mp.get H.rows j <;> rfl
    · rfl
  have hstC : ∀ j y y0, y.words = y0.words → y.arr = y0.arr → stC A j y = stC A j y0 := fun j y y0 h1 h2 => by unfold stC; rw [h1, h2]
  refine { blk := h.blk, omap := h.omap, smap := h.smap, snil := h.snil, obj := ?_, row := ?_, sto := ?_, shp := h.shp, oinj := h.oinj, winj := ?_, sinj := ?_, mne := h.mne, Sh := .inl h.Sh, Sm := .inl h.Sm, Ss := fun b e => .inl (h.Ss b e), So := fun r o ho => .inl (h.So r o ho), Sw := ?_, St := ?_, Sp := fun r o a ho he ha => ⟨.inl (h.Sp r o a ho he ha).1, (h.Sp r o a ho he ha).2⟩, Slt := ?_ }
  · intro r o ho
    rw [hrow]; exact h.obj r o ho
  · intro j y hy
    obtain ⟨y0, h1, _, _, h4, _⟩ := hg j y hy
    rw [h4]; exact h.row j y0 h1
  · intro j y hy hyi
    obtain ⟨y0, h1, h2, h3, h4, h5⟩ := hg j y hy
    rw [hstC j y y0 h4 h5]
    by_cases e : j = k
    · subst e
      rw [hx] at h1
      injection h1 with h1
      subst h1
      exact hst
    · rw [h3 e] at hyi
      exact h.sto j y0 h1 hyi
  · intro j j' y y' a b hy hy' ha hb' e
    obtain ⟨y0, h1, _⟩ := hg j y hy
    obtain ⟨y1, h2, _⟩ := hg j' y' hy'
    exact h.winj _ _ _ _ a b h1 h2 ha hb' e
  · intro j j' y y' hy hy' hi1 hi2 e
    obtain ⟨y0, h1, _, h3, _⟩ := hg j y hy
    obtain ⟨y1, h2, _, h4, _⟩ := hg j' y' hy'
    by_cases e1 : j = k
    · by_cases e2 : j' = k
      · rw [e1, e2]
      · rw [h4 e2] at hi2
        exact absurd (by rw [← e1, e]; exact h.St j' y1 h2 hi2) hS
    · rw [h3 e1] at hi1
      by_cases e2 : j' = k
      · exact absurd (by rw [← e2, ← e]; exact h.St j y0 h1 hi1) hS
      · rw [h4 e2] at hi2
        exact h.sinj _ _ _ _ h1 h2 hi1 hi2 e
  · intro j y a hy ha
    obtain ⟨y0, h1, _⟩ := hg j y hy
    exact .inl (h.Sw j y0 a h1 ha)
  · intro j y hy hyi
    obtain ⟨y0, h1, _, h3, _⟩ := hg j y hy
    by_cases e1 : j = k
    · rw [e1]; exact .inr rfl
    · rw [h3 e1] at hyi; exact .inl (h.St j y0 h1 hyi)
  · rintro j (hj | rfl)
    · exact h.Slt j hj
    · exact lt_of_heap hst
/-- The cells of an object that has just been made. -/
def newC (o : Ob) (wa sa : Option Addr) (wc sc st n : Nat) : Array Value :=
  #[.int .i64 o.kind, .int .i64 o.cls, .slice sa o.refs.length sc, if o.kind = 2 then .slice none 0 0 else .slice wa n wc, .string o.chars, .bool o.wide, .int .i64 o.tail, .pointer (if o.kind = 2 then some ⟨st, 0, none⟩ else none), .int .i64 (o.lo : Int), .int .i64 (o.hi : Int), .int .i64 0, .int .i64 0]
/-- add, for an object with a row of its own. -/
theorem addNew_calls {W : World} (h : HpAt w hb A H S) (hi : Inv H []) (hk : ∀ r o, Mp.get H.objs r = some o → o.row ≤ H.last) (hn : H.last ≤ 1000000) (hb0 : Below w.heap.size w W) (o : Ob) (x : Rw) (ho : o.row = H.last + 1) (hrc : o.rc = 0) (hx : x.isA = false)
    (nb : Nat) (hnb : w.heap.size ≤ nb) (wa : Option Addr) (wc st : Nat) (sa : Option Addr) (sc : Nat) (hW : WordsAt W wa wc x.words) (hwa : ∀ a, wa = some a → w.heap.size ≤ a.block)
    (hB : W.heap[nb]? = some (.cells (newC o wa sa wc sc st x.words.length) 104 (0, 0))) (hs : ShpAt W sa o.refs) (hsa : ∀ k, shpB sa o.refs k → S k ∨ w.heap.size ≤ k) :
    Calls Try.prog 55 #[.pointer (some ⟨hb, 0, none⟩), .pointer (some ⟨nb, 0, none⟩)] W fun e w' => e = .returned (.int .i64 ((H.last : Int) + 1)) ∧
      HpAt w' hb ((A.addR ((H.last : Int) + 1) wa wc st).addO ((H.last : Int) + 1) nb sa sc) (addH (newRow H x) o) (fun k => (S k ∨ LB wa k) ∨ k = nb ∨ shpB sa o.refs k) ∧ Mut S w w' ∧ (∀ k, ((S k ∨ LB wa k) ∨ k = nb ∨ shpB sa o.refs k) → S k ∨ w.heap.size ≤ k) ∧ Mut (fun k => S k ∨ LB wa k ∨ k = nb) W w' := by
  have hlt : ∀ k, S k → k < w.heap.size := h.Slt
  have hk1 : ∀ r o, Mp.get H.objs r = some o → o.row ≠ (H.last : Int) + 1 := fun r o ho => by have := hk r o ho; omega
  have hr := not_row_fresh hi hk
  have hp := (h.below hb0).addRow hr hk1 x hx wa wc st hW fun a ha hSa => by
    have := hlt _ hSa
    have := hwa a ha
    omega
  obtain ⟨s1, s2, s3⟩ := addR_self A ((H.last : Int) + 1) wa wc st
  have ef := (fresh_of hi).1
  have hwne : ∀ a, wa = some a → a.block ≠ nb := fun a ha => by
    obtain ⟨cs, hcs, _⟩ := row_blk hW a ha
    exact ne_ty hcs hB (by decide)
  refine (add_calls hp ef o nb sa sc ?_ (x := x) ?_ hn ?_ hs).mono ?_
  · rintro (h1 | ⟨a, ha, e⟩)
    · have := hlt _ h1; omega
    · exact hwne a ha e
  · show Mp.get (Mp.put H.rows ((H.last : Int) + 1) x) o.row = some x
    rw [Mp.get_put, if_pos ho]
  · rw [hB]
    congr 2
    show newC o wa sa wc sc st x.words.length = obC0 ((A.addR ((H.last : Int) + 1) wa wc st).addO ((H.last : Int) + 1) nb sa sc) ((H.last : Int) + 1) o x.words.length
    unfold newC obC0 obC HA.wF HA.pF HA.addO
    simp only [ho, if_true, hrc, s1, s2, s3]
  · rintro e w' ⟨h1, h2, h3⟩
    have hT : ∀ k, ((S k ∨ LB wa k) ∨ k = nb) → S k ∨ w.heap.size ≤ k := by
      rintro k ((h4 | ⟨a, ha, rfl⟩) | rfl)
      · exact .inl h4
      · exact .inr (hwa a ha)
      · exact .inr hnb
    refine ⟨h1, h2, ?_, ?_, h3.mono fun k hk => .inl (by rcases hk with (h4 | h4) | h4; exact .inl h4; exact .inr (.inl h4); exact .inr (.inr h4))⟩
    · exact (Mut.of_below hb0).trans h3 hT
    · rintro k (h4 | rfl | h4)
      · exact hT k (.inl h4)
      · exact .inr hnb
      · exact hsa k h4
theorem wcs_zeros (n : Nat) : wcs (List.replicate n ⟨0, 0⟩) = (madeCells #[.int .i64 0, .int .i64 0] (n * 2)).toList := by
  apply List.ext_getElem?
  intro j
  by_cases hj : j < n * 2
  · have h1 : (madeCells #[.int .i64 0, .int .i64 0] (n * 2)).toList[j]? = some (.int .i64 0) := by
      simp only [madeCells, Array.toList_map, Array.toList_range, List.getElem?_map, List.getElem?_range hj, Option.map_some]
      congr 1
      have : j % 2 = 0 ∨ j % 2 = 1 := by omega
      rcases this with e | e <;> simp [e]
    rw [h1]
    have h2 : j / 2 < (List.replicate n (⟨0, 0⟩ : Wd)).length := by simp; omega
    rcases Nat.mod_two_eq_zero_or_one j with e | e
    · have := wcs_get0 (List.replicate n ⟨0, 0⟩) (j / 2) h2
      rw [show j / 2 * 2 = j by omega] at this
      rw [this]; simp
    · have := wcs_get1 (List.replicate n ⟨0, 0⟩) (j / 2) h2
      rw [show j / 2 * 2 + 1 = j by omega] at this
      rw [this]; simp
  · rw [List.getElem?_eq_none (by rw [len_wcs]; simp; omega), List.getElem?_eq_none (by simp [madeCells]; omega)]
theorem run_mkW (w : World) (m : Nat) (hm : m ≤ 100000000) : (Instr.makeSlice 97 (.int .i64 (m : Int)) (.int .i64 (m : Int))).run Try.prog w = .ok (.slice (some ⟨w.heap.size, 0, none⟩) m m) (w.alloc (.cells (madeCells #[.int .i64 0, .int .i64 0] (m * 2)) 42)) := by
  obtain ⟨i0, hi, hz0, hz1, hz2⟩ := info_parts Try.infoWord
  have := run_make (P := Try.prog) w 97 42 i0 _ Try.underlying97 hi hz0 .i64 .i64 (m : Int) (m : Int) (by omega) (Int.le_refl _) (by rw [hz2]; omega) (by omega)
  rw [hz1, Int.toNat_natCast] at this
  exact this
theorem WordsAt.made {W : World} {g : Nat} (n : Nat) (hn : n ≤ 100000000) (h : W.heap[g]? = some (.cells (madeCells #[.int .i64 0, .int .i64 0] (n * 2)) 42 (0, 0))) : WordsAt W (some ⟨g, 0, none⟩) n (List.replicate n ⟨0, 0⟩) := by
  unfold WordsAt
  rw [List.length_replicate]
  refine ⟨by rw [len_wcs]; simp, .inr ⟨g, n, _, rfl, Nat.zero_le _, h, Nat.le_refl _, by unfold maxLen; omega, by rw [size_madeCells], ?_⟩⟩
  rw [wcs_zeros, List.take_of_length_le (by simp [madeCells])]
theorem WordsAt.none (W : World) : WordsAt W Option.none 0 [] := World.ownsRow_nil _ _ _ _
end Go.Proofs.Ytodfpclekihbhaa
