/- Texts on the heap, merged: W10, W11, W12, W13, W14, W15. -/
import Derived.Test.YtodfpclekihbhaaG04
import Derived.Deep.QuietTactic
import Derived.Test.YtodfpclekihbhaaG02
/- A row and an object with it are added. -/
namespace Go.Proofs.Ytodfpclekihbhaa
open Go.RowKit Go.Shelf

variable {w : World} {hb : Nat} {A : HA} {H : Hp} {S : Nat → Prop}
def HA.addR (A : HA) (k : Int) (wa : Option Addr) (wc st : Nat) : HA := { A with wA := fun x => if x = k then wa else A.wA x, wC := fun x => if x = k then wc else A.wC x, st := fun x => if x = k then st else A.st x }
theorem addR_self (A : HA) (k : Int) (wa : Option Addr) (wc st : Nat) : (A.addR k wa wc st).wA k = wa ∧ (A.addR k wa wc st).wC k = wc ∧ (A.addR k wa wc st).st k = st := ⟨if_pos rfl, if_pos rfl, if_pos rfl⟩
theorem addR_other (A : HA) (k : Int) (wa : Option Addr) (wc st : Nat) {x : Int} (h : x ≠ k) : (A.addR k wa wc st).wA x = A.wA x ∧ (A.addR k wa wc st).wC x = A.wC x ∧ (A.addR k wa wc st).st x = A.st x := ⟨if_neg h, if_neg h, if_neg h⟩
/-- A row that no object has yet. -/
theorem HpAt.addRow (h : HpAt w hb A H S) {k : Int} (hk : Mp.get H.rows k = none) (hk2 : ∀ r o, Mp.get H.objs r = some o → o.row ≠ k) (x : Rw) (hx : x.isA = false) (wa : Option Addr) (wc st : Nat) (hw : WordsAt w wa wc x.words) (hS : ∀ a, wa = some a → ¬ S a.block) :
    HpAt w hb (A.addR k wa wc st) { H with rows := Mp.put H.rows k x } (fun j => S j ∨ LB wa j) := by
  have hg : ∀ j y, Mp.get (Mp.put H.rows k x) j = some y → (j = k ∧ y = x) ∨ (j ≠ k ∧ Mp.get H.rows j = some y) := fun j y hy => by
    rw [Mp.get_put] at hy
    by_cases e : j = k
    · rw [if_pos e] at hy; injection hy with hy; exact .inl ⟨e, hy.symm⟩
    · rw [if_neg e] at hy; exact .inr ⟨e, hy⟩
  obtain ⟨s1, s2, s3⟩ := addR_self A k wa wc st
  have hrow : ∀ r o, Mp.get H.objs r = some o → ({ H with rows := Mp.put H.rows k x } : Hp).rowOf o.row = H.rowOf o.row := fun r o ho => by
    show ((Mp.get (Mp.put H.rows k x) o.row).map (·.words)).getD [] = _
    rw [Mp.get_put, if_neg (hk2 r o ho)]; rfl
  have hC : ∀ r o n, Mp.get H.objs r = some o → obC (A.addR k wa wc st) r o n = obC A r o n := fun r o n ho => by
    obtain ⟨t1, t2, t3⟩ := addR_other A k wa wc st (hk2 r o ho)
    unfold obC HA.wF HA.pF
    rw [t1, t2, t3]
    rfl
  refine { blk := h.blk, omap := h.omap, smap := h.smap, snil := h.snil, obj := ?_, row := ?_, sto := ?_, shp := h.shp, oinj := h.oinj, winj := ?_, sinj := ?_, mne := h.mne, Sh := .inl h.Sh, Sm := .inl h.Sm, Ss := fun b e => .inl (h.Ss b e), So := fun r o ho => .inl (h.So r o ho), Sw := ?_, St := ?_, Sp := fun r o a ho he ha => ⟨.inl (h.Sp r o a ho he ha).1, (h.Sp r o a ho he ha).2⟩, Slt := ?_ }
  · intro r o ho
    have ho' : Mp.get H.objs r = some o := ho
    rw [hrow r o ho', hC r o _ ho']
    exact h.obj r o ho'
  · intro j y hy
    rcases hg j y hy with ⟨rfl, rfl⟩ | ⟨h1, h2⟩
    · rw [s1, s2]; exact hw
    · obtain ⟨t1, t2, t3⟩ := addR_other A k wa wc st h1
      rw [t1, t2]; exact h.row j y h2
  · intro j y hy hyi
    rcases hg j y hy with ⟨rfl, rfl⟩ | ⟨h1, h2⟩
    · rw [hx] at hyi; cases hyi
    · obtain ⟨t1, t2, t3⟩ := addR_other A k wa wc st h1
      unfold stC
      rw [t1, t2, t3]; exact h.sto j y h2 hyi
  · intro j j' y y' a b hy hy' ha hb' e
    rcases hg j y hy with ⟨rfl, rfl⟩ | ⟨h1, h2⟩
    · rcases hg j' y' hy' with ⟨rfl, rfl⟩ | ⟨h3, h4⟩
      · rfl
      · rw [s1] at ha
        rw [(addR_other A j wa wc st h3).1] at hb'
        exact absurd (e ▸ h.Sw j' y' b h4 hb') (hS a ha)
    · rcases hg j' y' hy' with ⟨rfl, rfl⟩ | ⟨h3, h4⟩
      · rw [s1] at hb'
        rw [(addR_other A j' wa wc st h1).1] at ha
        exact absurd (e ▸ h.Sw j y a h2 ha) (hS b hb')
      · rw [(addR_other A k wa wc st h1).1] at ha
        rw [(addR_other A k wa wc st h3).1] at hb'
        exact h.winj _ _ _ _ a b h2 h4 ha hb' e
  · intro j j' y y' hy hy' hi1 hi2 e
    rcases hg j y hy with ⟨rfl, rfl⟩ | ⟨h1, h2⟩
    · rw [hx] at hi1; cases hi1
    · rcases hg j' y' hy' with ⟨rfl, rfl⟩ | ⟨h3, h4⟩
      · rw [hx] at hi2; cases hi2
      · rw [(addR_other A k wa wc st h1).2.2, (addR_other A k wa wc st h3).2.2] at e
        exact h.sinj _ _ _ _ h2 h4 hi1 hi2 e
  · intro j y a hy ha
    rcases hg j y hy with ⟨rfl, rfl⟩ | ⟨h1, h2⟩
    · rw [s1] at ha; exact .inr ⟨a, ha, rfl⟩
    · rw [(addR_other A k wa wc st h1).1] at ha; exact .inl (h.Sw j y a h2 ha)
  · intro j y hy hyi
    rcases hg j y hy with ⟨rfl, rfl⟩ | ⟨h1, h2⟩
    · rw [hx] at hyi; cases hyi
    · rw [(addR_other A k wa wc st h1).2.2]; exact .inl (h.St j y h2 hyi)
  · rintro j (hj | ⟨a, ha, rfl⟩)
    · exact h.Slt j hj
    · obtain ⟨cs, hcs, _⟩ := row_blk hw a ha
      exact lt_of_heap hcs
def Rw.toA (x : Rw) : Rw := { x with isA := true }
/-- A row has become that of a store. -/
theorem HpAt.toA (h : HpAt w hb A H S) {k : Int} {x : Rw} (hx : Mp.get H.rows k = some x) (hst : w.heap[A.st k]? = some (.cells (stC A k x) 99 (0, 0))) (hS : ¬ S (A.st k)) : HpAt w hb A (H.updR k Rw.toA) (fun j => S j ∨ j = A.st k) := by
  have hg : ∀ j y, Mp.get (H.updR k Rw.toA).rows j = some y → ∃ y0, Mp.get H.rows j = some y0 ∧ (j = k → y = y0.toA) ∧ (j ≠ k → y = y0) ∧ y.words = y0.words ∧ y.arr = y0.arr := fun j y hy => by
    have : Mp.get (mapAt H.rows k Rw.toA) j = some y := hy
    rw [get_mapAt] at this
    by_cases e : j = k
    · subst e
      rw [if_pos rfl, hx] at this
      injection this with this
      subst this
      exact ⟨x, hx, fun _ => rfl, fun h => absurd rfl h, rfl, rfl⟩
    · rw [if_neg e] at this
      exact ⟨y, this, fun h => absurd h e, fun _ => rfl, rfl, rfl⟩
  have hrow : ∀ j, (H.updR k Rw.toA).rowOf j = H.rowOf j := fun j => by
    show ((Mp.get (mapAt H.rows k Rw.toA) j).map (·.words)).getD [] = ((Mp.get H.rows j).map (·.words)).getD []
    rw [get_mapAt]
    split
    · cases Mp.get H.rows j <;> rfl
    · rfl
  have hstC : ∀ j y y0, y.words = y0.words → y.arr = y0.arr → stC A j y = stC A j y0 := fun j y y0 h1 h2 => by unfold stC; rw [h1, h2]
  refine { blk := h.blk, omap := h.omap, smap := h.smap, snil := h.snil, obj := ?_, row := ?_, sto := ?_, shp := h.shp, oinj := h.oinj, winj := ?_, sinj := ?_, mne := h.mne, Sh := .inl h.Sh, Sm := .inl h.Sm, Ss := fun b e => .inl (h.Ss b e), So := fun r o ho => .inl (h.So r o ho), Sw := ?_, St := ?_, Sp := fun r o a ho he ha => ⟨.inl (h.Sp r o a ho he ha).1, (h.Sp r o a ho he ha).2⟩, Slt := ?_ }
  · intro r o ho
    rw [hrow]; exact h.obj r o ho
  · intro j y hy
    obtain ⟨y0, h1, _, _, h4, _⟩ := hg j y hy
    rw [h4]; exact h.row j y0 h1
  · intro j y hy hyi
    obtain ⟨y0, h1, h2, h3, h4, h5⟩ := hg j y hy
    rw [hstC j y y0 h4 h5]
    by_cases e : j = k
    · subst e
      rw [hx] at h1
      injection h1 with h1
      subst h1
      exact hst
    · rw [h3 e] at hyi
      exact h.sto j y0 h1 hyi
  · intro j j' y y' a b hy hy' ha hb' e
    obtain ⟨y0, h1, _⟩ := hg j y hy
    obtain ⟨y1, h2, _⟩ := hg j' y' hy'
    exact h.winj _ _ _ _ a b h1 h2 ha hb' e
  · intro j j' y y' hy hy' hi1 hi2 e
    obtain ⟨y0, h1, _, h3, _⟩ := hg j y hy
    obtain ⟨y1, h2, _, h4, _⟩ := hg j' y' hy'
    by_cases e1 : j = k
    · by_cases e2 : j' = k
      · rw [e1, e2]
      · rw [h4 e2] at hi2
        exact absurd (by rw [← e1, e]; exact h.St j' y1 h2 hi2) hS
    · rw [h3 e1] at hi1
      by_cases e2 : j' = k
      · exact absurd (by rw [← e2, ← e]; exact h.St j y0 h1 hi1) hS
      · rw [h4 e2] at hi2
        exact h.sinj _ _ _ _ h1 h2 hi1 hi2 e
  · intro j y a hy ha
    obtain ⟨y0, h1, _⟩ := hg j y hy
    exact .inl (h.Sw j y0 a h1 ha)
  · intro j y hy hyi
    obtain ⟨y0, h1, _, h3, _⟩ := hg j y hy
    by_cases e1 : j = k
    · rw [e1]; exact .inr rfl
    · rw [h3 e1] at hyi; exact .inl (h.St j y0 h1 hyi)
  · rintro j (hj | rfl)
    · exact h.Slt j hj
    · exact lt_of_heap hst
/-- The cells of an object that has just been made. -/
def newC (o : Ob) (wa sa : Option Addr) (wc sc st n : Nat) : Array Value :=
  #[.int .i64 o.kind, .int .i64 o.cls, .slice sa o.refs.length sc, if o.kind = 2 then .slice none 0 0 else .slice wa n wc, .string o.chars, .bool o.wide, .int .i64 o.tail, .pointer (if o.kind = 2 then some ⟨st, 0, none⟩ else none), .int .i64 (o.lo : Int), .int .i64 (o.hi : Int), .int .i64 0, .int .i64 0]
/-- add, for an object with a row of its own. -/
theorem addNew_calls {W : World} (h : HpAt w hb A H S) (hi : Inv H []) (hk : ∀ r o, Mp.get H.objs r = some o → o.row ≤ H.last) (hn : H.last ≤ 1000000) (hb0 : Below w.heap.size w W) (o : Ob) (x : Rw) (ho : o.row = H.last + 1) (hrc : o.rc = 0) (hx : x.isA = false)
    (nb : Nat) (hnb : w.heap.size ≤ nb) (wa : Option Addr) (wc st : Nat) (sa : Option Addr) (sc : Nat) (hW : WordsAt W wa wc x.words) (hwa : ∀ a, wa = some a → w.heap.size ≤ a.block)
    (hB : W.heap[nb]? = some (.cells (newC o wa sa wc sc st x.words.length) 104 (0, 0))) (hs : ShpAt W sa o.refs) (hsa : ∀ k, shpB sa o.refs k → S k ∨ w.heap.size ≤ k) :
    Calls Try.prog 55 #[.pointer (some ⟨hb, 0, none⟩), .pointer (some ⟨nb, 0, none⟩)] W fun e w' => e = .returned (.int .i64 ((H.last : Int) + 1)) ∧
      HpAt w' hb ((A.addR ((H.last : Int) + 1) wa wc st).addO ((H.last : Int) + 1) nb sa sc) (addH (newRow H x) o) (fun k => (S k ∨ LB wa k) ∨ k = nb ∨ shpB sa o.refs k) ∧ Mut S w w' ∧ (∀ k, ((S k ∨ LB wa k) ∨ k = nb ∨ shpB sa o.refs k) → S k ∨ w.heap.size ≤ k) ∧ Mut (fun k => S k ∨ LB wa k ∨ k = nb) W w' := by
  have hlt : ∀ k, S k → k < w.heap.size := h.Slt
  have hk1 : ∀ r o, Mp.get H.objs r = some o → o.row ≠ (H.last : Int) + 1 := fun r o ho => by have := hk r o ho; omega
  have hr := not_row_fresh hi hk
  have hp := (h.below hb0).addRow hr hk1 x hx wa wc st hW fun a ha hSa => by
    have := hlt _ hSa
    have := hwa a ha
    omega
  obtain ⟨s1, s2, s3⟩ := addR_self A ((H.last : Int) + 1) wa wc st
  have ef := (fresh_of hi).1
  have hwne : ∀ a, wa = some a → a.block ≠ nb := fun a ha => by
    obtain ⟨cs, hcs, _⟩ := row_blk hW a ha
    exact ne_ty hcs hB (by decide)
  refine (add_calls hp ef o nb sa sc ?_ (x := x) ?_ hn ?_ hs).mono ?_
  · rintro (h1 | ⟨a, ha, e⟩)
    · have := hlt _ h1; omega
    · exact hwne a ha e
  · show Mp.get (Mp.put H.rows ((H.last : Int) + 1) x) o.row = some x
    rw [Mp.get_put, if_pos ho]
  · rw [hB]
    congr 2
    show newC o wa sa wc sc st x.words.length = obC0 ((A.addR ((H.last : Int) + 1) wa wc st).addO ((H.last : Int) + 1) nb sa sc) ((H.last : Int) + 1) o x.words.length
    unfold newC obC0 obC HA.wF HA.pF HA.addO
    simp only [ho, if_true, hrc, s1, s2, s3]
  · rintro e w' ⟨h1, h2, h3⟩
    have hT : ∀ k, ((S k ∨ LB wa k) ∨ k = nb) → S k ∨ w.heap.size ≤ k := by
      rintro k ((h4 | ⟨a, ha, rfl⟩) | rfl)
      · exact .inl h4
      · exact .inr (hwa a ha)
      · exact .inr hnb
    refine ⟨h1, h2, ?_, ?_, h3.mono fun k hk => .inl (by rcases hk with (h4 | h4) | h4; exact .inl h4; exact .inr (.inl h4); exact .inr (.inr h4))⟩
    · exact (Mut.of_below hb0).trans h3 hT
    · rintro k (h4 | rfl | h4)
      · exact hT k (.inl h4)
      · exact .inr hnb
      · exact hsa k h4
theorem wcs_zeros (n : Nat) : wcs (List.replicate n ⟨0, 0⟩) = (madeCells #[.int .i64 0, .int .i64 0] (n * 2)).toList := by
  apply List.ext_getElem?
  intro j
  by_cases hj : j < n * 2
  · have h1 : (madeCells #[.int .i64 0, .int .i64 0] (n * 2)).toList[j]? = some (.int .i64 0) := by
      simp only [madeCells, Array.toList_map, Array.toList_range, List.getElem?_map, List.getElem?_range hj, Option.map_some]
      congr 1
      have : j % 2 = 0 ∨ j % 2 = 1 := by omega
      rcases this with e | e <;> simp [e]
    rw [h1]
    have h2 : j / 2 < (List.replicate n (⟨0, 0⟩ : Wd)).length := by simp; omega
    rcases Nat.mod_two_eq_zero_or_one j with e | e
    · have := wcs_get0 (List.replicate n ⟨0, 0⟩) (j / 2) h2
      rw [show j / 2 * 2 = j by omega] at this
      rw [this]; simp
    · have := wcs_get1 (List.replicate n ⟨0, 0⟩) (j / 2) h2
      rw [show j / 2 * 2 + 1 = j by omega] at this
      rw [this]; simp
  · rw [List.getElem?_eq_none (by rw [len_wcs]; simp; omega), List.getElem?_eq_none (by simp [madeCells]; omega)]
theorem run_mkW (w : World) (m : Nat) (hm : m ≤ 100000000) : (Instr.makeSlice 97 (.int .i64 (m : Int)) (.int .i64 (m : Int))).run Try.prog w = .ok (.slice (some ⟨w.heap.size, 0, none⟩) m m) (w.alloc (.cells (madeCells #[.int .i64 0, .int .i64 0] (m * 2)) 42)) := by
  obtain ⟨i0, hi, hz0, hz1, hz2⟩ := info_parts Try.infoWord
  have := run_make (P := Try.prog) w 97 42 i0 _ Try.underlying97 hi hz0 .i64 .i64 (m : Int) (m : Int) (by omega) (Int.le_refl _) (by rw [hz2]; omega) (by omega)
  rw [hz1, Int.toNat_natCast] at this
  exact this
theorem WordsAt.made {W : World} {g : Nat} (n : Nat) (hn : n ≤ 100000000) (h : W.heap[g]? = some (.cells (madeCells #[.int .i64 0, .int .i64 0] (n * 2)) 42 (0, 0))) : WordsAt W (some ⟨g, 0, none⟩) n (List.replicate n ⟨0, 0⟩) := by
  unfold WordsAt
  rw [List.length_replicate]
  refine ⟨by rw [len_wcs]; simp, .inr ⟨g, n, _, rfl, Nat.zero_le _, h, Nat.le_refl _, by unfold maxLen; omega, by rw [size_madeCells], ?_⟩⟩
  rw [wcs_zeros, List.take_of_length_le (by simp [madeCells])]
theorem WordsAt.none (W : World) : WordsAt W Option.none 0 [] := World.ownsRow_nil _ _ _ _
end Go.Proofs.Ytodfpclekihbhaa

/- Make. -/
namespace Go.Proofs.Ytodfpclekihbhaa
open Go.RowKit Go.Shelf

variable {w : World} {hb : Nat} {A : HA} {H : Hp} {S : Nat → Prop}
theorem RdB.mut {T : Nat → Prop} {w w' : World} {ad : Option Addr} {C : Nat} {refs : List Bool} (h : RdB w ad C refs) (hm : Mut T w w') (hT : ∀ a, ad = some a → ¬ T a.block) : RdB w' ad C refs :=
  ⟨fun a ha j u hj => by
    have h1 := h.cell a ha j u hj
    have h2 := lt_of_cell h1
    have hbk : (a.add j).block = a.block := by unfold Addr.add; split <;> rfl
    exact (World.cell?_of_block (hm.block _ h2 (by rw [hbk]; exact hT a ha))).trans h1, h.nil⟩
theorem make_nil (kind cls : Int) (ad : Option Addr) (n C : Nat) (w : World) : Calls Try.prog 29 #[.pointer none, .int .i64 kind, .agg #[.int .i64 cls, .slice ad n C]] w fun e w' => e = .returned (.tuple #[.int .i64 0, .int .i64 4]) ∧ Below w.heap.size w w' := by
  go_enter Try.func29, Try.ntmps29
  go_wp2
  all_goals go_ret2
  all_goals exact ⟨rfl, (Below.refl _ _).alloc (Nat.le_refl _) _⟩
/-- What a call that makes an object leaves. -/
def MkPost (w : World) (hb : Nat) (S : Nat → Prop) (R : Hp × Int × Int) (e : Ending) (w' : World) : Prop := e = .returned (.tuple #[.int .i64 R.2.1, .int .i64 R.2.2]) ∧ Nx w hb S R.1 w'
theorem MkPost.err (h : HpAt w hb A H S) (n : Int) {w' : World} (hb' : Below w.heap.size w w') : MkPost w hb S (H, 0, n) (.returned (.tuple #[.int .i64 0, .int .i64 n])) w' :=
  ⟨rfl, Nx.same (h.below hb') (Mut.of_below hb')⟩
theorem make_bad (h : HpAt w hb A H S) (kind cls : Int) (ad : Option Addr) (n C : Nat) (hk : kind ≠ 4 ∧ kind ≠ 5 ∧ kind ≠ 6 ∧ kind ≠ 7) : Calls Try.prog 29 #[.pointer (some ⟨hb, 0, none⟩), .int .i64 kind, .agg #[.int .i64 cls, .slice ad n C]] w (MkPost w hb S (H, 0, 13)) := by
  obtain ⟨h1, h2, h3, h4⟩ := hk
  have k1 : (kind != 4) = !false := by simpa using h1
  have k2 : (kind != 5) = !false := by simpa using h2
  have k3 : (kind != 6) = !false := by simpa using h3
  have k4 : (kind != 7) = !false := by simpa using h4
  have HH := Lib.hid h
  clear h h1 h2 h3 h4
  go_enter Try.func29, Try.ntmps29
  go_wp2
  all_goals go_ret2
  all_goals exact MkPost.err HH.out 13 ((Below.refl _ _).alloc (Nat.le_refl _) _)
theorem make_long4 (h : HpAt w hb A H S) (cls : Int) (ad : Option Addr) (n C : Nat) (hn : 256 < n) : Calls Try.prog 29 #[.pointer (some ⟨hb, 0, none⟩), .int .i64 4, .agg #[.int .i64 cls, .slice ad n C]] w (MkPost w hb S (H, 0, 3)) := by
  have HH := Lib.hid h
  have k1 : decide ((n : Int) > 256) = true := by simp; omega
  have k2 : (256 : Int) < (n : Int) := by omega
  clear h
  go_enter Try.func29, Try.ntmps29
  go_wp2
  all_goals go_ret2
  all_goals exact MkPost.err HH.out 3 ((Below.refl _ _).alloc (Nat.le_refl _) _)
set_option maxHeartbeats 2000000 in
theorem make_ok4 (h : HpAt w hb A H S) (hi : Inv H []) (hk : ∀ r o, Mp.get H.objs r = some o → o.row ≤ H.last) (hn : H.last ≤ 1000000) (cls : Int) {ad : Option Addr} {C : Nat} {refs : List Bool} (hr : RdB w ad C refs) (hl : refs.length ≤ 256) :
    Calls Try.prog 29 #[.pointer (some ⟨hb, 0, none⟩), .int .i64 4, .agg #[.int .i64 cls, .slice ad refs.length C]] w (MkPost w hb S (makeH H 4 cls refs)) := by
  have HH := Lib.hid h
  have HI := Lib.hid hi
  have HK := Lib.hid hk
  have HR := Lib.hid hr
  have HE : Hid (makeH H 4 cls refs = (addH (newRow H ⟨List.replicate refs.length ⟨0, 0⟩, 1, false⟩) ⟨4, cls, refs, emptyB, false, 0, H.last + 1, 0, 0, 0, 0⟩, (H.last : Int) + 1, 0)) := Lib.hid (by
    unfold makeH
    rw [if_neg (by simp), if_neg (by omega)]
    simp)
  have k1 : ¬ (256 : Int) < (refs.length : Int) := by omega
  have hmk := fun w => run_mkW w refs.length (by omega)
  have HL : Hid (refs.length ≤ 100000000) := Lib.hid (by omega)
  have hlen : (refs.length : Int) ≤ 256 := by omega
  have HB0 : Hid (Below w.heap.size w (w.alloc (.cells #[.int .i64 cls, .slice ad refs.length C] 32))) := Lib.hid ((Below.refl _ _).alloc (Nat.le_refl _) _)
  have HK0 := Lib.hid (heap_alloc_new w (.cells #[.int .i64 cls, .slice ad refs.length C] 32))
  clear h hi hk hr hl
  go_enter Try.func29, Try.ntmps29
  go_wp2_with (first
    | (go_at_call 56; refine (copied_calls cls (HR.out.below HB0.out) HL.out).mono ?_; rintro e w1 ⟨A1, C1, rfl, ho, hb1⟩
       have HO := Lib.hid ho
       have HB1 := Lib.hid (HB0.out.trans (hb1.mono HB0.out.size))
       have hz : w.heap.size < w1.heap.size := by have := hb1.size; simp at this; omega
       have e0 := keep3 hb1 (cell_of_heap (v := .slice ad refs.length C) HK0.out (j := 1) rfl)
       clear ho hb1)
    | (go_at_call 55; refine (addNew_calls HH.out HI.out HK.out hn ?c1 ⟨4, cls, refs, emptyB, false, 0, (H.last : Int) + 1, 0, 0, 0, 0⟩ ⟨List.replicate refs.length ⟨0, 0⟩, 1, false⟩ rfl rfl rfl w1.heap.size (by omega) (some ⟨w1.heap.size + 1, 0, none⟩) refs.length 0 A1 C1 ?c3 ?c4 ?c5 ?c6 ?c7).mono ?_
       case c1 => exact (HB1.out.alloc HB1.out.size _).alloc (by have := HB1.out.size; simp; omega) _
       case c3 => exact WordsAt.made _ HL.out (heap2 w1 _ _).2
       case c4 => intro a ha; injection ha with ha; subst ha; simp; omega
       case c5 => have := (heap2 w1 (.cells #[.int .i64 4, .int .i64 cls, .slice A1 refs.length C1, .slice (some ⟨w1.heap.size + 1, 0, none⟩) refs.length refs.length, .string { data := #[] }, .bool false, .int .i64 0, .pointer none, .int .i64 0, .int .i64 0, .int .i64 0, .int .i64 0] 104) (.cells (madeCells #[.int .i64 0, .int .i64 0] (refs.length * 2)) 42)).1; simpa [newC, emptyB] using this
       case c6 => exact (ShpAt.of_own HO.out).mut (T := fun _ => False) (Mut.of_below (((Below.refl _ _).alloc (Nat.le_refl _) _).alloc (by simp) _)) fun _ h => h.elim
       case c7 => rintro k ⟨_, a, ha, rfl⟩; exact .inr (by have := (own_blk HO.out a ha).1; simp at this; omega)
       rintro e w3 ⟨rfl, hp, hm, hs, _⟩
       have HN : Hid (Nx w hb S _ w3) := Lib.hid ⟨_, _, hp, hm, hs⟩
       clear hp hm hs))
  go_ret2
  exact ⟨by rw [HE.out]; rfl, by rw [HE.out]; exact HN.out⟩
theorem make_long5 (h : HpAt w hb A H S) (cls : Int) (ad : Option Addr) (n C : Nat) (hn : 256 < n) : Calls Try.prog 29 #[.pointer (some ⟨hb, 0, none⟩), .int .i64 5, .agg #[.int .i64 cls, .slice ad n C]] w (MkPost w hb S (H, 0, 3)) := by
  have HH := Lib.hid h
  have k1 : decide ((n : Int) > 256) = true := by simp; omega
  have k2 : (256 : Int) < (n : Int) := by omega
  clear h
  go_enter Try.func29, Try.ntmps29
  go_wp2
  all_goals go_ret2
  all_goals exact MkPost.err HH.out 3 ((Below.refl _ _).alloc (Nat.le_refl _) _)
set_option maxHeartbeats 2000000 in
theorem make_ok5 (h : HpAt w hb A H S) (hi : Inv H []) (hk : ∀ r o, Mp.get H.objs r = some o → o.row ≤ H.last) (hn : H.last ≤ 1000000) (cls : Int) {ad : Option Addr} {C : Nat} {refs : List Bool} (hr : RdB w ad C refs) (hl : refs.length ≤ 256) :
    Calls Try.prog 29 #[.pointer (some ⟨hb, 0, none⟩), .int .i64 5, .agg #[.int .i64 cls, .slice ad refs.length C]] w (MkPost w hb S (makeH H 5 cls refs)) := by
  have HH := Lib.hid h
  have HI := Lib.hid hi
  have HK := Lib.hid hk
  have HR := Lib.hid hr
  have HE : Hid (makeH H 5 cls refs = (addH (newRow H ⟨[], 1, false⟩) ⟨5, cls, refs, emptyB, false, 0, H.last + 1, 0, 0, 0, 0⟩, (H.last : Int) + 1, 0)) := Lib.hid (by
    unfold makeH
    rw [if_neg (by simp), if_neg (by omega)]
    simp)
  have k1 : ¬ (256 : Int) < (refs.length : Int) := by omega
  have hmk := fun w => run_mkW w refs.length (by omega)
  have HL : Hid (refs.length ≤ 100000000) := Lib.hid (by omega)
  have hlen : (refs.length : Int) ≤ 256 := by omega
  have HB0 : Hid (Below w.heap.size w (w.alloc (.cells #[.int .i64 cls, .slice ad refs.length C] 32))) := Lib.hid ((Below.refl _ _).alloc (Nat.le_refl _) _)
  have HK0 := Lib.hid (heap_alloc_new w (.cells #[.int .i64 cls, .slice ad refs.length C] 32))
  clear h hi hk hr hl
  go_enter Try.func29, Try.ntmps29
  go_wp2_with (first
    | (go_at_call 56; refine (copied_calls cls (HR.out.below HB0.out) HL.out).mono ?_; rintro e w1 ⟨A1, C1, rfl, ho, hb1⟩
       have HO := Lib.hid ho
       have HB1 := Lib.hid (HB0.out.trans (hb1.mono HB0.out.size))
       have hz : w.heap.size < w1.heap.size := by have := hb1.size; simp at this; omega
       have e0 := keep3 hb1 (cell_of_heap (v := .slice ad refs.length C) HK0.out (j := 1) rfl)
       clear ho hb1)
    | (go_at_call 55; refine (addNew_calls HH.out HI.out HK.out hn ?c1 ⟨5, cls, refs, emptyB, false, 0, (H.last : Int) + 1, 0, 0, 0, 0⟩ ⟨[], 1, false⟩ rfl rfl rfl w1.heap.size (by omega) none 0 0 A1 C1 ?c3 ?c4 ?c5 ?c6 ?c7).mono ?_
       case c1 => exact HB1.out.alloc HB1.out.size _
       case c3 => exact WordsAt.none _
       case c4 => intro a ha; cases ha
       case c5 => have := heap_alloc_new w1 (.cells #[.int .i64 5, .int .i64 cls, .slice A1 refs.length C1, .slice none 0 0, .string { data := #[] }, .bool false, .int .i64 0, .pointer none, .int .i64 0, .int .i64 0, .int .i64 0, .int .i64 0] 104); simpa [newC, emptyB] using this
       case c6 => exact (ShpAt.of_own HO.out).mut (T := fun _ => False) (Mut.of_below ((Below.refl _ _).alloc (Nat.le_refl _) _)) fun _ h => h.elim
       case c7 => rintro k ⟨_, a, ha, rfl⟩; exact .inr (by have := (own_blk HO.out a ha).1; simp at this; omega)
       rintro e w3 ⟨rfl, hp, hm, hs, _⟩
       have HN : Hid (Nx w hb S _ w3) := Lib.hid ⟨_, _, hp, hm, hs⟩
       clear hp hm hs))
  go_ret2
  exact ⟨by rw [HE.out]; rfl, by rw [HE.out]; exact HN.out⟩
theorem make_long6 (h : HpAt w hb A H S) (cls : Int) (ad : Option Addr) (n C : Nat) (hn : 256 < n) : Calls Try.prog 29 #[.pointer (some ⟨hb, 0, none⟩), .int .i64 6, .agg #[.int .i64 cls, .slice ad n C]] w (MkPost w hb S (H, 0, 3)) := by
  have HH := Lib.hid h
  have k1 : decide ((n : Int) > 256) = true := by simp; omega
  have k2 : (256 : Int) < (n : Int) := by omega
  clear h
  go_enter Try.func29, Try.ntmps29
  go_wp2
  all_goals go_ret2
  all_goals exact MkPost.err HH.out 3 ((Below.refl _ _).alloc (Nat.le_refl _) _)
set_option maxHeartbeats 2000000 in
theorem make_ok6 (h : HpAt w hb A H S) (hi : Inv H []) (hk : ∀ r o, Mp.get H.objs r = some o → o.row ≤ H.last) (hn : H.last ≤ 1000000) (cls : Int) {ad : Option Addr} {C : Nat} {refs : List Bool} (hr : RdB w ad C refs) (hl : refs.length ≤ 256) :
    Calls Try.prog 29 #[.pointer (some ⟨hb, 0, none⟩), .int .i64 6, .agg #[.int .i64 cls, .slice ad refs.length C]] w (MkPost w hb S (makeH H 6 cls refs)) := by
  have HH := Lib.hid h
  have HI := Lib.hid hi
  have HK := Lib.hid hk
  have HR := Lib.hid hr
  have HE : Hid (makeH H 6 cls refs = (addH (newRow H ⟨List.replicate refs.length ⟨0, 0⟩, 1, false⟩) ⟨6, cls, refs, emptyB, false, 0, H.last + 1, 0, 0, 0, 0⟩, (H.last : Int) + 1, 0)) := Lib.hid (by
    unfold makeH
    rw [if_neg (by simp), if_neg (by omega)]
    simp)
  have k1 : ¬ (256 : Int) < (refs.length : Int) := by omega
  have hmk := fun w => run_mkW w refs.length (by omega)
  have HL : Hid (refs.length ≤ 100000000) := Lib.hid (by omega)
  have hlen : (refs.length : Int) ≤ 256 := by omega
  have HB0 : Hid (Below w.heap.size w (w.alloc (.cells #[.int .i64 cls, .slice ad refs.length C] 32))) := Lib.hid ((Below.refl _ _).alloc (Nat.le_refl _) _)
  have HK0 := Lib.hid (heap_alloc_new w (.cells #[.int .i64 cls, .slice ad refs.length C] 32))
  clear h hi hk hr hl
  go_enter Try.func29, Try.ntmps29
  go_wp2_with (first
    | (go_at_call 56; refine (copied_calls cls (HR.out.below HB0.out) HL.out).mono ?_; rintro e w1 ⟨A1, C1, rfl, ho, hb1⟩
       have HO := Lib.hid ho
       have HB1 := Lib.hid (HB0.out.trans (hb1.mono HB0.out.size))
       have hz : w.heap.size < w1.heap.size := by have := hb1.size; simp at this; omega
       have e0 := keep3 hb1 (cell_of_heap (v := .slice ad refs.length C) HK0.out (j := 1) rfl)
       clear ho hb1)
    | (go_at_call 55; refine (addNew_calls HH.out HI.out HK.out hn ?c1 ⟨6, cls, refs, emptyB, false, 0, (H.last : Int) + 1, 0, 0, 0, 0⟩ ⟨List.replicate refs.length ⟨0, 0⟩, 1, false⟩ rfl rfl rfl w1.heap.size (by omega) (some ⟨w1.heap.size + 1, 0, none⟩) refs.length 0 A1 C1 ?c3 ?c4 ?c5 ?c6 ?c7).mono ?_
       case c1 => exact (HB1.out.alloc HB1.out.size _).alloc (by have := HB1.out.size; simp; omega) _
       case c3 => exact WordsAt.made _ HL.out (heap2 w1 _ _).2
       case c4 => intro a ha; injection ha with ha; subst ha; simp; omega
       case c5 => have := (heap2 w1 (.cells #[.int .i64 6, .int .i64 cls, .slice A1 refs.length C1, .slice (some ⟨w1.heap.size + 1, 0, none⟩) refs.length refs.length, .string { data := #[] }, .bool false, .int .i64 0, .pointer none, .int .i64 0, .int .i64 0, .int .i64 0, .int .i64 0] 104) (.cells (madeCells #[.int .i64 0, .int .i64 0] (refs.length * 2)) 42)).1; simpa [newC, emptyB] using this
       case c6 => exact (ShpAt.of_own HO.out).mut (T := fun _ => False) (Mut.of_below (((Below.refl _ _).alloc (Nat.le_refl _) _).alloc (by simp) _)) fun _ h => h.elim
       case c7 => rintro k ⟨_, a, ha, rfl⟩; exact .inr (by have := (own_blk HO.out a ha).1; simp at this; omega)
       rintro e w3 ⟨rfl, hp, hm, hs, _⟩
       have HN : Hid (Nx w hb S _ w3) := Lib.hid ⟨_, _, hp, hm, hs⟩
       clear hp hm hs))
  go_ret2
  exact ⟨by rw [HE.out]; rfl, by rw [HE.out]; exact HN.out⟩
theorem make_long7 (h : HpAt w hb A H S) (cls : Int) (ad : Option Addr) (n C : Nat) (hn : 256 < n) : Calls Try.prog 29 #[.pointer (some ⟨hb, 0, none⟩), .int .i64 7, .agg #[.int .i64 cls, .slice ad n C]] w (MkPost w hb S (H, 0, 3)) := by
  have HH := Lib.hid h
  have k1 : decide ((n : Int) > 256) = true := by simp; omega
  have k2 : (256 : Int) < (n : Int) := by omega
  clear h
  go_enter Try.func29, Try.ntmps29
  go_wp2
  all_goals go_ret2
  all_goals exact MkPost.err HH.out 3 ((Below.refl _ _).alloc (Nat.le_refl _) _)
set_option maxHeartbeats 2000000 in
theorem make_ok7 (h : HpAt w hb A H S) (hi : Inv H []) (hk : ∀ r o, Mp.get H.objs r = some o → o.row ≤ H.last) (hn : H.last ≤ 1000000) (cls : Int) {ad : Option Addr} {C : Nat} {refs : List Bool} (hr : RdB w ad C refs) (hl : refs.length ≤ 256) :
    Calls Try.prog 29 #[.pointer (some ⟨hb, 0, none⟩), .int .i64 7, .agg #[.int .i64 cls, .slice ad refs.length C]] w (MkPost w hb S (makeH H 7 cls refs)) := by
  have HH := Lib.hid h
  have HI := Lib.hid hi
  have HK := Lib.hid hk
  have HR := Lib.hid hr
  have HE : Hid (makeH H 7 cls refs = (addH (newRow H ⟨List.replicate refs.length ⟨0, 0⟩, 1, false⟩) ⟨7, cls, refs, emptyB, false, 0, H.last + 1, 0, 0, 0, 0⟩, (H.last : Int) + 1, 0)) := Lib.hid (by
    unfold makeH
    rw [if_neg (by simp), if_neg (by omega)]
    simp)
  have k1 : ¬ (256 : Int) < (refs.length : Int) := by omega
  have hmk := fun w => run_mkW w refs.length (by omega)
  have HL : Hid (refs.length ≤ 100000000) := Lib.hid (by omega)
  have hlen : (refs.length : Int) ≤ 256 := by omega
  have HB0 : Hid (Below w.heap.size w (w.alloc (.cells #[.int .i64 cls, .slice ad refs.length C] 32))) := Lib.hid ((Below.refl _ _).alloc (Nat.le_refl _) _)
  have HK0 := Lib.hid (heap_alloc_new w (.cells #[.int .i64 cls, .slice ad refs.length C] 32))
  clear h hi hk hr hl
  go_enter Try.func29, Try.ntmps29
  go_wp2_with (first
    | (go_at_call 56; refine (copied_calls cls (HR.out.below HB0.out) HL.out).mono ?_; rintro e w1 ⟨A1, C1, rfl, ho, hb1⟩
       have HO := Lib.hid ho
       have HB1 := Lib.hid (HB0.out.trans (hb1.mono HB0.out.size))
       have hz : w.heap.size < w1.heap.size := by have := hb1.size; simp at this; omega
       have e0 := keep3 hb1 (cell_of_heap (v := .slice ad refs.length C) HK0.out (j := 1) rfl)
       clear ho hb1)
    | (go_at_call 55; refine (addNew_calls HH.out HI.out HK.out hn ?c1 ⟨7, cls, refs, emptyB, false, 0, (H.last : Int) + 1, 0, 0, 0, 0⟩ ⟨List.replicate refs.length ⟨0, 0⟩, 1, false⟩ rfl rfl rfl w1.heap.size (by omega) (some ⟨w1.heap.size + 1, 0, none⟩) refs.length 0 A1 C1 ?c3 ?c4 ?c5 ?c6 ?c7).mono ?_
       case c1 => exact (HB1.out.alloc HB1.out.size _).alloc (by have := HB1.out.size; simp; omega) _
       case c3 => exact WordsAt.made _ HL.out (heap2 w1 _ _).2
       case c4 => intro a ha; injection ha with ha; subst ha; simp; omega
       case c5 => have := (heap2 w1 (.cells #[.int .i64 7, .int .i64 cls, .slice A1 refs.length C1, .slice (some ⟨w1.heap.size + 1, 0, none⟩) refs.length refs.length, .string { data := #[] }, .bool false, .int .i64 0, .pointer none, .int .i64 0, .int .i64 0, .int .i64 0, .int .i64 0] 104) (.cells (madeCells #[.int .i64 0, .int .i64 0] (refs.length * 2)) 42)).1; simpa [newC, emptyB] using this
       case c6 => exact (ShpAt.of_own HO.out).mut (T := fun _ => False) (Mut.of_below (((Below.refl _ _).alloc (Nat.le_refl _) _).alloc (by simp) _)) fun _ h => h.elim
       case c7 => rintro k ⟨_, a, ha, rfl⟩; exact .inr (by have := (own_blk HO.out a ha).1; simp at this; omega)
       rintro e w3 ⟨rfl, hp, hm, hs, _⟩
       have HN : Hid (Nx w hb S _ w3) := Lib.hid ⟨_, _, hp, hm, hs⟩
       clear hp hm hs))
  go_ret2
  exact ⟨by rw [HE.out]; rfl, by rw [HE.out]; exact HN.out⟩
/-- Make. -/
theorem make_calls (h : HpAt w hb A H S) (hi : Inv H []) (hk : ∀ r o, Mp.get H.objs r = some o → o.row ≤ H.last) (hn : H.last ≤ 1000000) (kind cls : Int) {ad : Option Addr} {C : Nat} {refs : List Bool} (hr : RdB w ad C refs) :
    Calls Try.prog 29 #[.pointer (some ⟨hb, 0, none⟩), .int .i64 kind, .agg #[.int .i64 cls, .slice ad refs.length C]] w (MkPost w hb S (makeH H kind cls refs)) := by
  by_cases hb' : kind ≠ 4 ∧ kind ≠ 5 ∧ kind ≠ 6 ∧ kind ≠ 7
  · rw [show makeH H kind cls refs = (H, 0, 13) from if_pos hb']
    exact make_bad h kind cls ad _ C hb'
  · have hkk : kind = 4 ∨ kind = 5 ∨ kind = 6 ∨ kind = 7 := by omega
    by_cases hl : 256 < refs.length
    · rw [show makeH H kind cls refs = (H, 0, 3) from by unfold makeH; rw [if_neg hb', if_pos hl]]
      rcases hkk with rfl | rfl | rfl | rfl
      · exact make_long4 h cls ad _ C hl
      · exact make_long5 h cls ad _ C hl
      · exact make_long6 h cls ad _ C hl
      · exact make_long7 h cls ad _ C hl
    · rcases hkk with rfl | rfl | rfl | rfl
      · exact make_ok4 h hi hk hn cls hr (by omega)
      · exact make_ok5 h hi hk hn cls hr (by omega)
      · exact make_ok6 h hi hk hn cls hr (by omega)
      · exact make_ok7 h hi hk hn cls hr (by omega)
end Go.Proofs.Ytodfpclekihbhaa

/- word: the place of a word of an object. -/
namespace Go.Proofs.Ytodfpclekihbhaa
open Go.RowKit Go.Shelf

variable {w : World} {hb : Nat} {A : HA} {H : Hp} {S : Nat → Prop}
def WdErr (w : World) (n : Int) (e : Ending) (w' : World) : Prop := e = .returned (.tuple #[.pointer none, .pointer none, .int .i64 n]) ∧ Below w.heap.size w w'
theorem word_nil (r i : Int) (l : Bool) (w : World) : Calls Try.prog 73 #[.pointer none, .int .i64 r, .int .i64 i, .bool l] w (WdErr w 4) := by
  have HF := Lib.hid (find_nil r w)
  go_enter Try.func73, Try.ntmps73
  go_wp2_with (go_at_call 57; refine HF.out.mono ?_; rintro e w1 ⟨rfl, rfl⟩)
  all_goals go_ret3
  all_goals exact ⟨rfl, Below.refl _ _⟩
theorem word_none (h : HpAt w hb A H S) {r : Int} (ho : Mp.get H.objs r = none) (i : Int) (l : Bool) : Calls Try.prog 73 #[.pointer (some ⟨hb, 0, none⟩), .int .i64 r, .int .i64 i, .bool l] w (WdErr w 4) := by
  have HF := Lib.hid (find_none h ho)
  clear h ho
  go_enter Try.func73, Try.ntmps73
  go_wp2_with (go_at_call 57; refine HF.out.mono ?_; rintro e w1 ⟨rfl, rfl⟩)
  all_goals go_ret3
  all_goals exact ⟨rfl, Below.refl _ _⟩
theorem word_kind (h : HpAt w hb A H S) {r : Int} {o : Ob} (ho : Mp.get H.objs r = some o) (i : Int) (l : Bool) (hk : o.kind ≠ 4 ∧ o.kind ≠ 6 ∧ o.kind ≠ 7 ∧ o.kind ≠ 3) : Calls Try.prog 73 #[.pointer (some ⟨hb, 0, none⟩), .int .i64 r, .int .i64 i, .bool l] w (WdErr w 13) := by
  have HF := Lib.hid (find_some h ho)
  obtain ⟨d0, _⟩ := h.ocells ho
  obtain ⟨h1, h2, h3, h4⟩ := hk
  have k1 : (o.kind == 4) = false := by simpa using h1
  have k2 : (o.kind == 6) = false := by simpa using h2
  have k3 : (o.kind == 7) = false := by simpa using h3
  have k4 : (o.kind == 3) = false := by simpa using h4
  clear h ho h1 h2 h3 h4
  go_enter Try.func73, Try.ntmps73
  go_wp2_with (go_at_call 57; refine HF.out.mono ?_; rintro e w1 ⟨rfl, rfl⟩)
  all_goals go_ret3
  all_goals exact ⟨rfl, Below.refl _ _⟩
theorem word_list (h : HpAt w hb A H S) {r : Int} {o : Ob} (ho : Mp.get H.objs r = some o) (i : Int) (hk : o.kind = 3) : Calls Try.prog 73 #[.pointer (some ⟨hb, 0, none⟩), .int .i64 r, .int .i64 i, .bool false] w (WdErr w 13) := by
  have HF := Lib.hid (find_some h ho)
  obtain ⟨d0, _⟩ := h.ocells ho
  rw [hk] at d0
  clear h ho hk
  go_enter Try.func73, Try.ntmps73
  go_wp2_with (go_at_call 57; refine HF.out.mono ?_; rintro e w1 ⟨rfl, rfl⟩)
  all_goals go_ret3
  all_goals exact ⟨rfl, Below.refl _ _⟩
theorem word_neg3 (h : HpAt w hb A H S) {r : Int} {o : Ob} (ho : Mp.get H.objs r = some o) (i : Int) (hk : o.kind = 3) (hi : i < 0) : Calls Try.prog 73 #[.pointer (some ⟨hb, 0, none⟩), .int .i64 r, .int .i64 i, .bool true] w (WdErr w 11) := by
  have HF := Lib.hid (find_some h ho)
  obtain ⟨d0, d1, d2, d3, _⟩ := h.ocells ho
  rw [hk] at d0
  have g1 : decide (i < 0) = true := by simpa using hi
  clear h ho hk
  go_enter Try.func73, Try.ntmps73
  go_wp2_with (go_at_call 57; refine HF.out.mono ?_; rintro e w1 ⟨rfl, rfl⟩)
  all_goals go_ret3
  all_goals exact ⟨rfl, Below.refl _ _⟩
theorem word_far3 (h : HpAt w hb A H S) {r : Int} {o : Ob} (ho : Mp.get H.objs r = some o) (i : Nat) (hk : o.kind = 3) (hi : (H.rowOf o.row).length ≤ i) : Calls Try.prog 73 #[.pointer (some ⟨hb, 0, none⟩), .int .i64 r, .int .i64 (i : Int), .bool true] w (WdErr w 11) := by
  have HF := Lib.hid (find_some h ho)
  obtain ⟨d0, d1, d2, d3, _⟩ := h.ocells ho
  rw [hk] at d0
  rw [show A.wF o (H.rowOf o.row).length = .slice (A.wA o.row) (H.rowOf o.row).length (A.wC o.row) from if_neg (by rw [hk]; decide)] at d3
  generalize (H.rowOf o.row).length = n at *
  have g2 : (n : Int) ≤ (i : Int) := by omega
  clear h ho hk
  go_enter Try.func73, Try.ntmps73
  go_wp2_with (go_at_call 57; refine HF.out.mono ?_; rintro e w1 ⟨rfl, rfl⟩)
  all_goals go_ret3
  all_goals exact ⟨rfl, Below.refl _ _⟩
theorem word_ok3 (h : HpAt w hb A H S) {r : Int} {o : Ob} (ho : Mp.get H.objs r = some o) (i : Nat) (hk : o.kind = 3) (hi : i < (H.rowOf o.row).length) {g : Nat} (hA : A.wA o.row = some ⟨g, 0, none⟩) (hC : (H.rowOf o.row).length ≤ A.wC o.row) : Calls Try.prog 73 #[.pointer (some ⟨hb, 0, none⟩), .int .i64 r, .int .i64 (i : Int), .bool true] w fun e w' => e = .returned (.tuple #[.pointer (some ⟨A.ob r, 0, none⟩), .pointer (some ⟨g, i * 2, none⟩), .int .i64 0]) ∧ Below w.heap.size w w' := by
  have HF := Lib.hid (find_some h ho)
  obtain ⟨d0, d1, d2, d3, _⟩ := h.ocells ho
  rw [hk] at d0
  rw [show A.wF o (H.rowOf o.row).length = .slice (A.wA o.row) (H.rowOf o.row).length (A.wC o.row) from if_neg (by rw [hk]; decide), hA] at d3
  generalize (H.rowOf o.row).length = n at *
  have g2 : ¬ (n : Int) ≤ (i : Int) := by omega
  have g3 : (0 : Int) ≤ (i : Int) := by omega
  have g4 : (i : Int) < (n : Int) := by omega
  clear h ho hk hA
  go_enter Try.func73, Try.ntmps73
  go_wp2_with (go_at_call 57; refine HF.out.mono ?_; rintro e w1 ⟨rfl, rfl⟩)
  go_quiet (fail)
  go_wp2
  all_goals go_ret3
  all_goals exact ⟨rfl, (Below.refl _ _).dn _⟩
theorem word_neg4 (h : HpAt w hb A H S) {r : Int} {o : Ob} (ho : Mp.get H.objs r = some o) (i : Int) (l : Bool) (hk : o.kind = 4) (hi : i < 0) : Calls Try.prog 73 #[.pointer (some ⟨hb, 0, none⟩), .int .i64 r, .int .i64 i, .bool l] w (WdErr w 11) := by
  have HF := Lib.hid (find_some h ho)
  obtain ⟨d0, d1, d2, d3, _⟩ := h.ocells ho
  rw [hk] at d0
  have g1 : decide (i < 0) = true := by simpa using hi
  clear h ho hk
  go_enter Try.func73, Try.ntmps73
  go_wp2_with (go_at_call 57; refine HF.out.mono ?_; rintro e w1 ⟨rfl, rfl⟩)
  all_goals go_ret3
  all_goals exact ⟨rfl, Below.refl _ _⟩
theorem word_far4 (h : HpAt w hb A H S) {r : Int} {o : Ob} (ho : Mp.get H.objs r = some o) (i : Nat) (l : Bool) (hk : o.kind = 4) (hi : (H.rowOf o.row).length ≤ i) : Calls Try.prog 73 #[.pointer (some ⟨hb, 0, none⟩), .int .i64 r, .int .i64 (i : Int), .bool l] w (WdErr w 11) := by
  have HF := Lib.hid (find_some h ho)
  obtain ⟨d0, d1, d2, d3, _⟩ := h.ocells ho
  rw [hk] at d0
  rw [show A.wF o (H.rowOf o.row).length = .slice (A.wA o.row) (H.rowOf o.row).length (A.wC o.row) from if_neg (by rw [hk]; decide)] at d3
  generalize (H.rowOf o.row).length = n at *
  have g2 : (n : Int) ≤ (i : Int) := by omega
  clear h ho hk
  go_enter Try.func73, Try.ntmps73
  go_wp2_with (go_at_call 57; refine HF.out.mono ?_; rintro e w1 ⟨rfl, rfl⟩)
  all_goals go_ret3
  all_goals exact ⟨rfl, Below.refl _ _⟩
theorem word_ok4 (h : HpAt w hb A H S) {r : Int} {o : Ob} (ho : Mp.get H.objs r = some o) (i : Nat) (l : Bool) (hk : o.kind = 4) (hi : i < (H.rowOf o.row).length) {g : Nat} (hA : A.wA o.row = some ⟨g, 0, none⟩) (hC : (H.rowOf o.row).length ≤ A.wC o.row) : Calls Try.prog 73 #[.pointer (some ⟨hb, 0, none⟩), .int .i64 r, .int .i64 (i : Int), .bool l] w fun e w' => e = .returned (.tuple #[.pointer (some ⟨A.ob r, 0, none⟩), .pointer (some ⟨g, i * 2, none⟩), .int .i64 0]) ∧ Below w.heap.size w w' := by
  have HF := Lib.hid (find_some h ho)
  obtain ⟨d0, d1, d2, d3, _⟩ := h.ocells ho
  rw [hk] at d0
  rw [show A.wF o (H.rowOf o.row).length = .slice (A.wA o.row) (H.rowOf o.row).length (A.wC o.row) from if_neg (by rw [hk]; decide), hA] at d3
  generalize (H.rowOf o.row).length = n at *
  have g2 : ¬ (n : Int) ≤ (i : Int) := by omega
  have g3 : (0 : Int) ≤ (i : Int) := by omega
  have g4 : (i : Int) < (n : Int) := by omega
  clear h ho hk hA
  go_enter Try.func73, Try.ntmps73
  go_wp2_with (go_at_call 57; refine HF.out.mono ?_; rintro e w1 ⟨rfl, rfl⟩)
  go_quiet (fail)
  go_wp2
  all_goals go_ret3
  all_goals exact ⟨rfl, (Below.refl _ _).dn _⟩
theorem word_neg6 (h : HpAt w hb A H S) {r : Int} {o : Ob} (ho : Mp.get H.objs r = some o) (i : Int) (l : Bool) (hk : o.kind = 6) (hi : i < 0) : Calls Try.prog 73 #[.pointer (some ⟨hb, 0, none⟩), .int .i64 r, .int .i64 i, .bool l] w (WdErr w 11) := by
  have HF := Lib.hid (find_some h ho)
  obtain ⟨d0, d1, d2, d3, _⟩ := h.ocells ho
  rw [hk] at d0
  have g1 : decide (i < 0) = true := by simpa using hi
  clear h ho hk
  go_enter Try.func73, Try.ntmps73
  go_wp2_with (go_at_call 57; refine HF.out.mono ?_; rintro e w1 ⟨rfl, rfl⟩)
  all_goals go_ret3
  all_goals exact ⟨rfl, Below.refl _ _⟩
theorem word_far6 (h : HpAt w hb A H S) {r : Int} {o : Ob} (ho : Mp.get H.objs r = some o) (i : Nat) (l : Bool) (hk : o.kind = 6) (hi : (H.rowOf o.row).length ≤ i) : Calls Try.prog 73 #[.pointer (some ⟨hb, 0, none⟩), .int .i64 r, .int .i64 (i : Int), .bool l] w (WdErr w 11) := by
  have HF := Lib.hid (find_some h ho)
  obtain ⟨d0, d1, d2, d3, _⟩ := h.ocells ho
  rw [hk] at d0
  rw [show A.wF o (H.rowOf o.row).length = .slice (A.wA o.row) (H.rowOf o.row).length (A.wC o.row) from if_neg (by rw [hk]; decide)] at d3
  generalize (H.rowOf o.row).length = n at *
  have g2 : (n : Int) ≤ (i : Int) := by omega
  clear h ho hk
  go_enter Try.func73, Try.ntmps73
  go_wp2_with (go_at_call 57; refine HF.out.mono ?_; rintro e w1 ⟨rfl, rfl⟩)
  all_goals go_ret3
  all_goals exact ⟨rfl, Below.refl _ _⟩
theorem word_ok6 (h : HpAt w hb A H S) {r : Int} {o : Ob} (ho : Mp.get H.objs r = some o) (i : Nat) (l : Bool) (hk : o.kind = 6) (hi : i < (H.rowOf o.row).length) {g : Nat} (hA : A.wA o.row = some ⟨g, 0, none⟩) (hC : (H.rowOf o.row).length ≤ A.wC o.row) : Calls Try.prog 73 #[.pointer (some ⟨hb, 0, none⟩), .int .i64 r, .int .i64 (i : Int), .bool l] w fun e w' => e = .returned (.tuple #[.pointer (some ⟨A.ob r, 0, none⟩), .pointer (some ⟨g, i * 2, none⟩), .int .i64 0]) ∧ Below w.heap.size w w' := by
  have HF := Lib.hid (find_some h ho)
  obtain ⟨d0, d1, d2, d3, _⟩ := h.ocells ho
  rw [hk] at d0
  rw [show A.wF o (H.rowOf o.row).length = .slice (A.wA o.row) (H.rowOf o.row).length (A.wC o.row) from if_neg (by rw [hk]; decide), hA] at d3
  generalize (H.rowOf o.row).length = n at *
  have g2 : ¬ (n : Int) ≤ (i : Int) := by omega
  have g3 : (0 : Int) ≤ (i : Int) := by omega
  have g4 : (i : Int) < (n : Int) := by omega
  clear h ho hk hA
  go_enter Try.func73, Try.ntmps73
  go_wp2_with (go_at_call 57; refine HF.out.mono ?_; rintro e w1 ⟨rfl, rfl⟩)
  go_quiet (fail)
  go_wp2
  all_goals go_ret3
  all_goals exact ⟨rfl, (Below.refl _ _).dn _⟩
theorem word_neg7 (h : HpAt w hb A H S) {r : Int} {o : Ob} (ho : Mp.get H.objs r = some o) (i : Int) (l : Bool) (hk : o.kind = 7) (hi : i < 0) : Calls Try.prog 73 #[.pointer (some ⟨hb, 0, none⟩), .int .i64 r, .int .i64 i, .bool l] w (WdErr w 11) := by
  have HF := Lib.hid (find_some h ho)
  obtain ⟨d0, d1, d2, d3, _⟩ := h.ocells ho
  rw [hk] at d0
  have g1 : decide (i < 0) = true := by simpa using hi
  clear h ho hk
  go_enter Try.func73, Try.ntmps73
  go_wp2_with (go_at_call 57; refine HF.out.mono ?_; rintro e w1 ⟨rfl, rfl⟩)
  all_goals go_ret3
  all_goals exact ⟨rfl, Below.refl _ _⟩
theorem word_far7 (h : HpAt w hb A H S) {r : Int} {o : Ob} (ho : Mp.get H.objs r = some o) (i : Nat) (l : Bool) (hk : o.kind = 7) (hi : (H.rowOf o.row).length ≤ i) : Calls Try.prog 73 #[.pointer (some ⟨hb, 0, none⟩), .int .i64 r, .int .i64 (i : Int), .bool l] w (WdErr w 11) := by
  have HF := Lib.hid (find_some h ho)
  obtain ⟨d0, d1, d2, d3, _⟩ := h.ocells ho
  rw [hk] at d0
  rw [show A.wF o (H.rowOf o.row).length = .slice (A.wA o.row) (H.rowOf o.row).length (A.wC o.row) from if_neg (by rw [hk]; decide)] at d3
  generalize (H.rowOf o.row).length = n at *
  have g2 : (n : Int) ≤ (i : Int) := by omega
  clear h ho hk
  go_enter Try.func73, Try.ntmps73
  go_wp2_with (go_at_call 57; refine HF.out.mono ?_; rintro e w1 ⟨rfl, rfl⟩)
  all_goals go_ret3
  all_goals exact ⟨rfl, Below.refl _ _⟩
theorem word_ok7 (h : HpAt w hb A H S) {r : Int} {o : Ob} (ho : Mp.get H.objs r = some o) (i : Nat) (l : Bool) (hk : o.kind = 7) (hi : i < (H.rowOf o.row).length) {g : Nat} (hA : A.wA o.row = some ⟨g, 0, none⟩) (hC : (H.rowOf o.row).length ≤ A.wC o.row) : Calls Try.prog 73 #[.pointer (some ⟨hb, 0, none⟩), .int .i64 r, .int .i64 (i : Int), .bool l] w fun e w' => e = .returned (.tuple #[.pointer (some ⟨A.ob r, 0, none⟩), .pointer (some ⟨g, i * 2, none⟩), .int .i64 0]) ∧ Below w.heap.size w w' := by
  have HF := Lib.hid (find_some h ho)
  obtain ⟨d0, d1, d2, d3, _⟩ := h.ocells ho
  rw [hk] at d0
  rw [show A.wF o (H.rowOf o.row).length = .slice (A.wA o.row) (H.rowOf o.row).length (A.wC o.row) from if_neg (by rw [hk]; decide), hA] at d3
  generalize (H.rowOf o.row).length = n at *
  have g2 : ¬ (n : Int) ≤ (i : Int) := by omega
  have g3 : (0 : Int) ≤ (i : Int) := by omega
  have g4 : (i : Int) < (n : Int) := by omega
  clear h ho hk hA
  go_enter Try.func73, Try.ntmps73
  go_wp2_with (go_at_call 57; refine HF.out.mono ?_; rintro e w1 ⟨rfl, rfl⟩)
  go_quiet (fail)
  go_wp2
  all_goals go_ret3
  all_goals exact ⟨rfl, (Below.refl _ _).dn _⟩
end Go.Proofs.Ytodfpclekihbhaa

/- fits; replace. -/
namespace Go.Proofs.Ytodfpclekihbhaa
open Go.RowKit Go.Shelf

variable {w : World} {hb : Nat} {A : HA} {H : Hp} {S : Nat → Prop}
theorem fits_a (h : HpAt w hb A H S) (cls : Int) (g off n sc i : Nat) (num ref : Int) (hi : i < n) (hg : g < w.heap.size) (hc : w.cell? ⟨g, off + i, none⟩ = some (.bool true)) (k1 : num ≠ 0) :
    Calls Try.prog 65 #[.pointer (some ⟨hb, 0, none⟩), .agg #[.int .i64 cls, .slice (some ⟨g, off, none⟩) n sc], .int .i64 (i : Int), .agg #[.int .i64 num, .int .i64 ref]] w fun e w' => e = .returned (.int .i64 13) ∧ Below w.heap.size w w' := by
  have HB2 : Hid (Below w.heap.size w ((w.alloc (.cells #[.int .i64 cls, .slice (some ⟨g, off, none⟩) n sc] 32)).alloc (.cells #[.int .i64 num, .int .i64 ref] 42))) := Lib.hid (((Below.refl _ _).alloc (Nat.le_refl _) _).alloc (by simp) _)
  have q1 : (num != 0) = !false := by simpa using k1
  have g3 : (0 : Int) ≤ (i : Int) := by omega
  have g4 : (i : Int) < (n : Int) := by omega
  clear h
  go_enter Try.func65, Try.ntmps65
  go_wp2
  all_goals go_ret
  all_goals exact ⟨rfl, HB2.out⟩
theorem fits_b (h : HpAt w hb A H S) (cls : Int) (g off n sc i : Nat) (hi : i < n) (hg : g < w.heap.size) (hc : w.cell? ⟨g, off + i, none⟩ = some (.bool true))  :
    Calls Try.prog 65 #[.pointer (some ⟨hb, 0, none⟩), .agg #[.int .i64 cls, .slice (some ⟨g, off, none⟩) n sc], .int .i64 (i : Int), .agg #[.int .i64 0, .int .i64 0]] w fun e w' => e = .returned (.int .i64 0) ∧ Below w.heap.size w w' := by
  have HB2 : Hid (Below w.heap.size w ((w.alloc (.cells #[.int .i64 cls, .slice (some ⟨g, off, none⟩) n sc] 32)).alloc (.cells #[.int .i64 0, .int .i64 0] 42))) := Lib.hid (((Below.refl _ _).alloc (Nat.le_refl _) _).alloc (by simp) _)
  have g3 : (0 : Int) ≤ (i : Int) := by omega
  have g4 : (i : Int) < (n : Int) := by omega
  clear h
  go_enter Try.func65, Try.ntmps65
  go_wp2
  all_goals go_ret
  all_goals exact ⟨rfl, HB2.out⟩
theorem fits_c (h : HpAt w hb A H S) (cls : Int) (g off n sc i : Nat) (ref : Int) (hi : i < n) (hg : g < w.heap.size) (hc : w.cell? ⟨g, off + i, none⟩ = some (.bool true)) (k2 : ref ≠ 0) (ho : Mp.get H.objs ref = none) :
    Calls Try.prog 65 #[.pointer (some ⟨hb, 0, none⟩), .agg #[.int .i64 cls, .slice (some ⟨g, off, none⟩) n sc], .int .i64 (i : Int), .agg #[.int .i64 0, .int .i64 ref]] w fun e w' => e = .returned (.int .i64 4) ∧ Below w.heap.size w w' := by
  have HB2 : Hid (Below w.heap.size w ((w.alloc (.cells #[.int .i64 cls, .slice (some ⟨g, off, none⟩) n sc] 32)).alloc (.cells #[.int .i64 0, .int .i64 ref] 42))) := Lib.hid (((Below.refl _ _).alloc (Nat.le_refl _) _).alloc (by simp) _)
  have q2 : (ref != 0) = !false := by simpa using k2
  have HF := Lib.hid (find_none (h.below HB2.out) ho)
  have g3 : (0 : Int) ≤ (i : Int) := by omega
  have g4 : (i : Int) < (n : Int) := by omega
  clear h ho
  go_enter Try.func65, Try.ntmps65
  go_wp2_with (go_at_call 57; refine HF.out.mono ?_; rintro e w1 ⟨rfl, rfl⟩)
  all_goals go_ret
  all_goals exact ⟨rfl, HB2.out⟩
theorem fits_d (h : HpAt w hb A H S) (cls : Int) (g off n sc i : Nat) (ref : Int) (hi : i < n) (hg : g < w.heap.size) (hc : w.cell? ⟨g, off + i, none⟩ = some (.bool true)) (k2 : ref ≠ 0) {o : Ob} (ho : Mp.get H.objs ref = some o) :
    Calls Try.prog 65 #[.pointer (some ⟨hb, 0, none⟩), .agg #[.int .i64 cls, .slice (some ⟨g, off, none⟩) n sc], .int .i64 (i : Int), .agg #[.int .i64 0, .int .i64 ref]] w fun e w' => e = .returned (.int .i64 0) ∧ Below w.heap.size w w' := by
  have HB2 : Hid (Below w.heap.size w ((w.alloc (.cells #[.int .i64 cls, .slice (some ⟨g, off, none⟩) n sc] 32)).alloc (.cells #[.int .i64 0, .int .i64 ref] 42))) := Lib.hid (((Below.refl _ _).alloc (Nat.le_refl _) _).alloc (by simp) _)
  have q2 : (ref != 0) = !false := by simpa using k2
  have HF := Lib.hid (find_some (h.below HB2.out) ho)
  have g3 : (0 : Int) ≤ (i : Int) := by omega
  have g4 : (i : Int) < (n : Int) := by omega
  clear h ho
  go_enter Try.func65, Try.ntmps65
  go_wp2_with (go_at_call 57; refine HF.out.mono ?_; rintro e w1 ⟨rfl, rfl⟩)
  all_goals go_ret
  all_goals exact ⟨rfl, HB2.out⟩
theorem fits_e (h : HpAt w hb A H S) (cls : Int) (g off n sc i : Nat) (num ref : Int) (hi : i < n) (hg : g < w.heap.size) (hc : w.cell? ⟨g, off + i, none⟩ = some (.bool false)) (k2 : ref ≠ 0) :
    Calls Try.prog 65 #[.pointer (some ⟨hb, 0, none⟩), .agg #[.int .i64 cls, .slice (some ⟨g, off, none⟩) n sc], .int .i64 (i : Int), .agg #[.int .i64 num, .int .i64 ref]] w fun e w' => e = .returned (.int .i64 13) ∧ Below w.heap.size w w' := by
  have HB2 : Hid (Below w.heap.size w ((w.alloc (.cells #[.int .i64 cls, .slice (some ⟨g, off, none⟩) n sc] 32)).alloc (.cells #[.int .i64 num, .int .i64 ref] 42))) := Lib.hid (((Below.refl _ _).alloc (Nat.le_refl _) _).alloc (by simp) _)
  have q2 : (ref != 0) = !false := by simpa using k2
  have g3 : (0 : Int) ≤ (i : Int) := by omega
  have g4 : (i : Int) < (n : Int) := by omega
  clear h
  go_enter Try.func65, Try.ntmps65
  go_wp2
  all_goals go_ret
  all_goals exact ⟨rfl, HB2.out⟩
theorem fits_f (h : HpAt w hb A H S) (cls : Int) (g off n sc i : Nat) (num : Int) (hi : i < n) (hg : g < w.heap.size) (hc : w.cell? ⟨g, off + i, none⟩ = some (.bool false))  :
    Calls Try.prog 65 #[.pointer (some ⟨hb, 0, none⟩), .agg #[.int .i64 cls, .slice (some ⟨g, off, none⟩) n sc], .int .i64 (i : Int), .agg #[.int .i64 num, .int .i64 0]] w fun e w' => e = .returned (.int .i64 0) ∧ Below w.heap.size w w' := by
  have HB2 : Hid (Below w.heap.size w ((w.alloc (.cells #[.int .i64 cls, .slice (some ⟨g, off, none⟩) n sc] 32)).alloc (.cells #[.int .i64 num, .int .i64 0] 42))) := Lib.hid (((Below.refl _ _).alloc (Nat.le_refl _) _).alloc (by simp) _)
  have g3 : (0 : Int) ≤ (i : Int) := by omega
  have g4 : (i : Int) < (n : Int) := by omega
  clear h
  go_enter Try.func65, Try.ntmps65
  go_wp2
  all_goals go_ret
  all_goals exact ⟨rfl, HB2.out⟩
theorem fits_calls (h : HpAt w hb A H S) (cls : Int) {sa : Option Addr} (sc : Nat) {refs : List Bool} (hs : BoolsAt w sa refs) (i : Nat) (hi : i < refs.length) (num ref : Int) :
    Calls Try.prog 65 #[.pointer (some ⟨hb, 0, none⟩), .agg #[.int .i64 cls, .slice sa refs.length sc], .int .i64 (i : Int), .agg #[.int .i64 num, .int .i64 ref]] w fun e w' => e = .returned (.int .i64 (fitsH H (refs[i]'hi) ⟨num, ref⟩)) ∧ Below w.heap.size w w' := by
  obtain ⟨g, off, rfl, hg, hc⟩ := hs i hi
  generalize refs[i]'hi = b at *
  cases b with
  | true =>
    by_cases k1 : num = 0
    · subst k1
      by_cases k2 : ref = 0
      · subst k2
        exact fits_b h cls g off _ sc i hi hg hc
      · cases ho : Mp.get H.objs ref with
        | none =>
          rw [show fitsH H true ⟨0, ref⟩ = 4 from by simp [fitsH, k2, ho]]
          exact fits_c h cls g off _ sc i ref hi hg hc k2 ho
        | some o =>
          rw [show fitsH H true ⟨0, ref⟩ = 0 from by simp [fitsH, k2, ho]]
          exact fits_d h cls g off _ sc i ref hi hg hc k2 ho
    · rw [show fitsH H true ⟨num, ref⟩ = 13 from by simp [fitsH, k1]]
      exact fits_a h cls g off _ sc i num ref hi hg hc k1
  | false =>
    by_cases k2 : ref = 0
    · subst k2
      rw [show fitsH H false ⟨num, 0⟩ = 0 from by simp [fitsH]]
      exact fits_f h cls g off _ sc i num hi hg hc
    · rw [show fitsH H false ⟨num, ref⟩ = 13 from by simp [fitsH, k2]]
      exact fits_e h cls g off _ sc i num ref hi hg hc k2
end Go.Proofs.Ytodfpclekihbhaa

/- replace: a word is replaced by one that fits. -/
namespace Go.Proofs.Ytodfpclekihbhaa
open Go.RowKit Go.Shelf

variable {w : World} {hb : Nat} {A : HA} {H : Hp} {S : Nat → Prop}
theorem mcell {T : Nat → Prop} {w w' : World} {b i : Nat} {v : Value} (hm : Mut T w w') (h : w.cell? ⟨b, i, none⟩ = some v) (hn : ¬ T b) : w'.cell? ⟨b, i, none⟩ = some v := (hm.cell (lt_of_cell h) hn).trans h
theorem HpAt.keeps (h : HpAt w hb A H S) {T : Nat → Prop} {w0 : World} (hm : Mut T w0 w) (hT : ∀ k, T k → S k) (hlt : ∀ k, S k → k < w0.heap.size) : Mut S w0 w := hm.mono fun k hk => .inl (hT k hk)
theorem refer_calls (h : HpAt w hb A H S) (hi : Inv H []) (hmu : muH H ≤ 100000000) {r : Int} (hr : r = 0 ∨ Mp.get H.objs r ≠ none) : Calls Try.prog 61 #[.pointer (some ⟨hb, 0, none⟩), .int .i64 r] w fun e w' => e = .returned (.tuple #[]) ∧ HpAt w' hb A (referH H r) S ∧ Mut S w w' := by
  unfold referH
  by_cases h0 : r = 0
  · subst h0
    rw [if_pos rfl]
    exact (refer_zero h).mono fun e w' ⟨h1, h2⟩ => ⟨h1, h2 ▸ h, h2 ▸ Mut.refl _ _⟩
  · rw [if_neg h0]
    cases ho : Mp.get H.objs r with
    | none => exact absurd ho (hr.resolve_left h0)
    | some o =>
      have h1 := hi.cnt r o ho
      have h2 := inH_le H r
      have e0 : muH H = wsum H.rows + 2 * H.objs.length := rfl
      rw [List.count_nil] at h1
      exact (refer_some h h0 ho (by omega) (by omega)).mono fun e w' ⟨h3, h4, h5⟩ => ⟨h3, h4, h5.mono fun k hk => .inl (by rw [hk]; exact h.So r o ho)⟩
theorem see_S (h : HpAt w hb A H S) (r : Int) : Calls Try.prog 62 #[.pointer (some ⟨hb, 0, none⟩), .int .i64 r] w fun e w' => e = .returned (.tuple #[]) ∧ HpAt w' hb A (seeH H r) S ∧ Mut S w w' :=
  (see_calls h r).mono fun _ _ ⟨h1, h2, h3⟩ => ⟨h1, h2, h3.mono fun k hk => .inl (h.Ss k hk)⟩
theorem set_modify (l : List Wd) (i : Nat) (n r : Int) : (l.modify i fun x => { x with num := n }).modify i (fun x => { x with ref := r }) = l.set i ⟨n, r⟩ := by
  apply List.ext_getElem?
  intro j
  rw [List.getElem?_modify, List.getElem?_modify, List.getElem?_set]
  by_cases e : i = j
  · subst e
    rw [if_pos rfl]
    cases h : l[i]? with
    | none => rw [if_neg (by have := List.getElem?_eq_none_iff.1 h; omega)]; rfl
    | some x => rw [if_pos (by have := (List.getElem?_eq_some_iff.1 h).1; omega)]; simp
  · simp [e]
theorem get_updR {H : Hp} {k : Int} {y : Rw} (hy : Mp.get H.rows k = some y) (f : Rw → Rw) : Mp.get (H.updR k f).rows k = some (f y) := by
  unfold Hp.updR
  simp only
  rw [get_mapAt, if_pos rfl, hy]; rfl
theorem rows_setW (H : Hp) (k : Int) (i : Nat) (v : Wd) {y : Rw} (hy : Mp.get H.rows k = some y) : Mp.get (setW H k i v).rows k = some { y with words := y.words.set i v } := by
  exact get_updR hy _
theorem HpAt.setWord (h : HpAt w hb A H S) {k : Int} {y : Rw} (hy : Mp.get H.rows k = some y) {g : Nat} (hA : A.wA k = some ⟨g, 0, none⟩) (i : Nat) (n r : Int) :
    HpAt ((w.setCell ⟨g, i * 2, none⟩ (.int .i64 n)).setCell ⟨g, i * 2 + 1, none⟩ (.int .i64 r)) hb A (setW H k i ⟨n, r⟩) S := by
  have h1 := h.setWd k y hy g (i * 2) hA (.int .i64 n) (y.words.modify i fun x => { x with num := n }) (by simp) (wcs_set0 _ _ _) (fun x => { x with words := x.words.modify i fun x => { x with num := n } }) rfl
  have hy1 : Mp.get (H.updR k (fun x => { x with words := x.words.modify i fun x => { x with num := n } })).rows k = some { y with words := y.words.modify i fun x => { x with num := n } } := get_updR hy _
  have h2 := h1.setWd k _ hy1 g (i * 2 + 1) hA (.int .i64 r) ((y.words.modify i fun x => { x with num := n }).modify i fun x => { x with ref := r }) (by simp) (wcs_set1 _ _ _) (fun x => { x with words := x.words.modify i fun x => { x with ref := r } }) rfl
  have e : (H.updR k (fun x => { x with words := x.words.modify i fun x => { x with num := n } })).updR k (fun x => { x with words := x.words.modify i fun x => { x with ref := r } }) = setW H k i ⟨n, r⟩ := by
    unfold setW Hp.updR
    simp only [mapAt_mapAt]
    congr 2
    funext x
    simp only [Function.comp, set_modify]
  rw [e] at h2
  exact h2
theorem referH_rows (H : Hp) (r : Int) : (referH H r).rows = H.rows := by unfold referH; split <;> rfl
theorem referH_last (H : Hp) (r : Int) : (referH H r).last = H.last := by unfold referH; split <;> rfl
theorem mu_refer (H : Hp) (r : Int) : muH (referH H r) = muH H := by
  unfold referH
  split
  · rfl
  · exact mu_upd H r _
theorem mu_setW (H : Hp) (k : Int) (i : Nat) (v : Wd) : muH (setW H k i v) = muH H := by
  unfold muH setW Hp.updR
  rw [wsum_mapAt _ _ _ (fun x => by simp)]
theorem HoldsLe.see {H : Hp} {n : Int} (h : HoldsLe H n) (r : Int) : HoldsLe (seeH H r) n := by unfold HoldsLe; rw [seeH_objs]; exact h
theorem HoldsLe.upd {H : Hp} {n : Int} (h : HoldsLe H n) (r : Int) (f : Ob → Ob) (hf : ∀ o, (f o).holds = o.holds) : HoldsLe (H.upd r f) n := fun x y hy => by
  rw [get_upd] at hy
  by_cases e : x = r
  · rw [if_pos e] at hy
    cases hz : Mp.get H.objs x with
    | none => rw [hz] at hy; cases hy
    | some z =>
      rw [hz] at hy
      injection hy with hy
      rw [← hy, hf]
      exact h x z hz
  · rw [if_neg e] at hy; exact h x y hy
theorem HoldsLe.refer {H : Hp} {n : Int} (h : HoldsLe H n) (r : Int) : HoldsLe (referH H r) n := by
  unfold referH
  split
  · exact h
  · exact h.upd r _ fun _ => rfl
theorem refAt_rows {H G : Hp} (h : G.rows = H.rows) (k : Int) (i : Nat) : refAt G k i = refAt H k i := by unfold refAt Hp.rowOf; rw [h]
theorem Lst.one {w : World} {S : Nat → Prop} (r : Int) {p : Nat} (hp : p = w.heap.size) (h : ∀ k, S k → k < w.heap.size) : Lst (w.alloc (.cells #[.int .i64 r] 26)) S (some ⟨p, 0, none⟩) 1 [r] := by
  subst hp
  exact ⟨⟨rfl, .inr ⟨w.heap.size, 1, #[.int .i64 r], rfl, Nat.zero_le _, heap_alloc_new w _, Nat.le_refl _, by unfold maxLen; omega, rfl, rfl⟩⟩, fun a ha hS => by injection ha with ha; subst ha; exact Nat.lt_irrefl _ (h _ hS)⟩
set_option maxHeartbeats 2000000 in
theorem replace_calls (h : HpAt w hb A H S) (hi : Inv H []) (hmu : muH H ≤ 90000000) (hbd : HoldsLe H 1000000000) {k : Int} {y : Rw} (hy : Mp.get H.rows k = some y) {g : Nat} (hA : A.wA k = some ⟨g, 0, none⟩) (i : Nat) (hil : i < y.words.length) (num ref : Int) (hr : ref = 0 ∨ Mp.get H.objs ref ≠ none) :
    Calls Try.prog 66 #[.pointer (some ⟨hb, 0, none⟩), .pointer (some ⟨g, i * 2, none⟩), .agg #[.int .i64 num, .int .i64 ref]] w fun e w' => e = .returned (.tuple #[]) ∧ HpAt w' hb A (replaceH H k i ⟨num, ref⟩) S ∧ Mut S w w' := by
  have HH := Lib.hid h
  have HSL := Lib.hid h.Slt
  have hB1 : Below w.heap.size w (w.alloc (.cells #[.int .i64 num, .int .i64 ref] 42)) := (Below.refl _ _).alloc (Nat.le_refl _) _
  have HREF := Lib.hid (refer_calls (h.below hB1) hi (by omega) hr)
  have HB1 := Lib.hid hB1
  have HNS : Hid (¬ S w.heap.size) := Lib.hid fun hk => Nat.lt_irrefl _ (h.Slt _ hk)
  have HK0 := Lib.hid (heap_alloc_new w (.cells #[.int .i64 num, .int .i64 ref] 42))
  obtain ⟨g', hg1, hg2, _, hgf, hw0, hw1⟩ := (h.row k y hy).cell i hil
  rw [hA] at hg1
  injection hg1 with hg1
  injection hg1 with hg1
  subst hg1
  have HOLD : Hid (refAt H k i = (y.words[i]'hil).ref) := Lib.hid (refAt_eq hy i hil)
  have HY := Lib.hid hy
  have HAA := Lib.hid hA
  have HIL := Lib.hid hil
  have HI := Lib.hid (((hi.referH hr).see ref).see (refAt H k i))
  have HMU := Lib.hid hmu
  have HBD := Lib.hid hbd
  rw [← HOLD.out] at hw1
  generalize hnu : (y.words[i]'hil).num = nu at hw0
  generalize hol : refAt H k i = old at *
  have HOL := Lib.hid hol
  have HINV : Hid (Inv (setW (seeH (seeH (referH H ref) ref) old) k i ⟨num, ref⟩) [old]) := Lib.hid (by
    have hy4 : Mp.get (seeH (seeH (referH H ref) ref) old).rows k = some y := by rw [seeH_rows, seeH_rows, referH_rows]; exact hy
    have := Inv.setW (w := ⟨num, ref⟩) HI.out hy4 hil
    rw [refAt_rows (H := H) (by rw [seeH_rows, seeH_rows, referH_rows]), hol] at this
    exact this)
  have HHB : Hid (HoldsLe (setW (seeH (seeH (referH H ref) ref) old) k i ⟨num, ref⟩) 1000000000) := Lib.hid (((hbd.refer ref).see ref).see old)
  have HGS : Hid (S g) := Lib.hid (h.Sw k y _ hy hA)
  have HRE : Hid (replaceH H k i ⟨num, ref⟩ = relH (setW (seeH (seeH (referH H ref) ref) old) k i ⟨num, ref⟩) [old]) := Lib.hid (by unfold replaceH; simp only [hol])
  clear HOLD h hi hmu hbd hy hA hil hr hB1 hnu hol
  have t1 : True := trivial
  go_enter Try.func66, Try.ntmps66
  go_wp2_with (first
    | (go_at_call 61; refine HREF.out.mono ?_; rintro e w2 ⟨rfl, h2, m2⟩
       have H2 := Lib.hid h2
       have M2 := Lib.hid m2
       have b1 := mcell m2 (cell_of_heap (v := .int .i64 ref) HK0.out (j := 1) rfl) HNS.out
       clear h2 m2)
    | (go_at_call 62; have _t := t1; refine (see_S H2.out ref).mono ?_; rintro e w3 ⟨rfl, h3, m3⟩
       have H3 := Lib.hid h3
       have M3 := Lib.hid (M2.out.then m3)
       clear h3 m3 t1)
    | (go_at_call 62; refine (see_S H3.out old).mono ?_; rintro e w4 ⟨rfl, h4, m4⟩
       have M4 := Lib.hid (M3.out.then m4)
       have H4 := Lib.hid h4
       have f0 := mcell M4.out (cell_of_heap (v := .int .i64 num) HK0.out (j := 0) rfl) HNS.out
       have f1 := mcell M4.out (cell_of_heap (v := .int .i64 ref) HK0.out (j := 1) rfl) HNS.out
       have HY4 : Hid (Mp.get (seeH (seeH (referH H ref) ref) old).rows k = some y) := Lib.hid (by rw [seeH_rows, seeH_rows, referH_rows]; exact HY.out)
       obtain ⟨g', hg1, hg5, _, hgf4, hw04, hw14⟩ := (h4.row k y HY4.out).cell i HIL.out
       rw [HAA.out] at hg1
       injection hg1 with hg1
       injection hg1 with hg1
       subst hg1
       have hz4 : w.heap.size < w4.heap.size := by have := M4.out.size; simp at this; omega
       clear h4 m4)
    | (go_at_call 63; go_loud (refine (release_calls (l := [old]) (H := setW (seeH (seeH (referH H ref) ref) old) k i ⟨num, ref⟩) (A := A) (S := S) ?c1 ?c2 ?c3 ?c4 ?c5).mono ?_)
       case c1 => exact (H4.out.setWord HY4.out HAA.out i num ref).below ((Below.refl _ _).alloc (Nat.le_refl _) _)
       case c2 => exact HINV.out
       case c3 => rw [mu_setW, mu_see, mu_see, mu_refer]; have := HMU.out; simp; omega
       case c4 => exact HHB.out
       case c5 => exact Lst.one old (by simp) fun k hk => by have := HSL.out k hk; have := M4.out.size; simp at this ⊢; omega
       rintro e w7 ⟨rfl, h7, m7⟩
       have H7 := Lib.hid h7
       have M7 : Hid (Mut S w4 w7) := Lib.hid ((((Mut.setCell (S := S) w4 g (i * 2) (.int .i64 num) (HGS.out)).then (Mut.setCell (S := S) _ g (i * 2 + 1) (.int .i64 ref) HGS.out)).then (Mut.of_below ((Below.refl _ _).alloc (Nat.le_refl _) _))).trans m7 fun k hk => by
         rcases hk with hk | ⟨a, ha, rfl⟩
         · exact .inl hk
         · injection ha with ha; subst ha; exact .inr (by simp))
       clear h7 m7))
  go_end0
  refine ⟨rfl, ?_, ((Mut.of_below HB1.out).then M4.out).then M7.out⟩
  rw [HRE.out]
  exact H7.out
end Go.Proofs.Ytodfpclekihbhaa

/- Set and Put. -/
namespace Go.Proofs.Ytodfpclekihbhaa
open Go.RowKit Go.Shelf

variable {w : World} {hb : Nat} {A : HA} {H : Hp} {S : Nat → Prop}
theorem set_err (p : Option Addr) (r i num ref n : Int) (hn : n ≠ 0) (hw : ∀ W, Below w.heap.size w W → Calls Try.prog 73 #[.pointer p, .int .i64 r, .int .i64 i, .bool false] W (WdErr W n)) :
    Calls Try.prog 32 #[.pointer p, .int .i64 r, .int .i64 i, .agg #[.int .i64 num, .int .i64 ref]] w fun e w' => e = .returned (.int .i64 n) ∧ Below w.heap.size w w' := by
  have hB : Below w.heap.size w (w.alloc (.cells #[.int .i64 num, .int .i64 ref] 42)) := (Below.refl _ _).alloc (Nat.le_refl _) _
  have HB := Lib.hid hB
  have HW := Lib.hid (hw _ hB)
  have k1 : (n == 0) = false := by simpa using hn
  clear hB hw hn
  go_enter Try.func32, Try.ntmps32
  go_wp2_with (go_at_call 73; refine HW.out.mono ?_; rintro e w1 ⟨rfl, hb1⟩; have HB1 := Lib.hid (HB.out.trans (hb1.mono HB.out.size)); clear hb1)
  go_ret
  exact ⟨rfl, HB1.out⟩
set_option maxHeartbeats 2000000 in
theorem set_ok (h : HpAt w hb A H S) (hi : Inv H []) (hmu : muH H ≤ 90000000) (hbd : HoldsLe H 1000000000) {r : Int} {i : Nat} {o : Ob} (ho : Mp.get H.objs r = some o) (hir : i < o.refs.length) (num ref : Int) {k : Int} {y : Rw} (hy : Mp.get H.rows k = some y) {g : Nat} (hA : A.wA k = some ⟨g, 0, none⟩) (j : Nat) (hj : j < y.words.length)
    (hw : ∀ W, Below w.heap.size w W → Calls Try.prog 73 #[.pointer (some ⟨hb, 0, none⟩), .int .i64 r, .int .i64 (i : Int), .bool false] W fun e w' => e = .returned (.tuple #[.pointer (some ⟨A.ob r, 0, none⟩), .pointer (some ⟨g, j * 2, none⟩), .int .i64 0]) ∧ Below W.heap.size W w') :
    Calls Try.prog 32 #[.pointer (some ⟨hb, 0, none⟩), .int .i64 r, .int .i64 (i : Int), .agg #[.int .i64 num, .int .i64 ref]] w fun e w' => e = .returned (.int .i64 (storeH H r i ⟨num, ref⟩ (some (k, j), 0)).2) ∧ HpAt w' hb A (storeH H r i ⟨num, ref⟩ (some (k, j), 0)).1 S ∧ Mut S w w' := by
  have hB : Below w.heap.size w (w.alloc (.cells #[.int .i64 num, .int .i64 ref] 42)) := (Below.refl _ _).alloc (Nat.le_refl _) _
  have HB := Lib.hid hB
  have HW := Lib.hid (hw _ hB)
  have HK0 := Lib.hid (heap_alloc_new w (.cells #[.int .i64 num, .int .i64 ref] 42))
  have hisr : isRef H r (i : Int) = o.refs[i]'hir := by simp [isRef, ho, hir]
  have HH := Lib.hid h
  have HO := Lib.hid ho
  have HIR := Lib.hid hir
  generalize hf : fitsH H (o.refs[i]'hir) ⟨num, ref⟩ = f at *
  by_cases hz : f = 0
  · subst hz
    have HE : Hid (storeH H r i ⟨num, ref⟩ (some (k, j), 0) = (replaceH H k j ⟨num, ref⟩, 0)) := Lib.hid (by unfold storeH; simp only [hisr, hf]; rfl)
    have hre : ref = 0 ∨ Mp.get H.objs ref ≠ none := by
      unfold fitsH at hf
      by_cases h0 : ref = 0
      · exact .inl h0
      · refine .inr fun hn => ?_
        split at hf
        · cases hf
        · rw [if_pos ⟨h0, hn⟩] at hf; cases hf
    have HR := Lib.hid fun (W : World) (hW : Below w.heap.size w W) => replace_calls (h.below hW) hi hmu hbd hy hA j hj num ref hre
    have HF := Lib.hid hf
    clear h hi hmu hbd ho hy hA hj hw hf hre hisr hB
    go_enter Try.func32, Try.ntmps32
    go_wp2_with (go_at_call 73; refine HW.out.mono ?_; rintro e w1 ⟨rfl, hb1⟩
                 have HB1 := Lib.hid (HB.out.trans (hb1.mono HB.out.size))
                 have b0 := keep3 hb1 (cell_of_heap (v := .int .i64 num) HK0.out (j := 0) rfl)
                 have b1 := keep3 hb1 (cell_of_heap (v := .int .i64 ref) HK0.out (j := 1) rfl)
                 obtain ⟨d0, d1, d2, _⟩ := (HH.out.below HB1.out).ocells HO.out
                 clear hb1 d0)
    go_region_held3 (fun w' => w'.cell? ⟨A.ob r, 1, none⟩ = some (.int .i64 o.cls) ∧ w'.cell? ⟨A.ob r, 2, none⟩ = some (.slice (A.sA r) o.refs.length (A.sC r)) ∧ w'.cell? ⟨w.heap.size, 0, none⟩ = some (.int .i64 num) ∧ w'.cell? ⟨w.heap.size, 1, none⟩ = some (.int .i64 ref) ∧ Hid (Below w.heap.size w w'))
      (((try go_split_ands); (repeat' apply And.intro) <;> first | exact keep3 hb (by assumption) | assumption | exact Lib.hid (Below.trans (Hid.out (by assumption)) (Below.mono hb (Below.size (Hid.out (by assumption))))) | exact Lib.hid (Below.drew (Hid.out (by assumption))) | go_keep))
      ((go_at_call 65; (try go_split_ands); refine (fits_calls (HH.out.below (Hid.out (by assumption))) o.cls (A.sC r) ((HH.out.below (Hid.out (by assumption))).shp r o HO.out) i HIR.out num ref).mono ?_; rintro e w2 ⟨rfl, hb⟩; rw [HF.out]))
    have HB2 : Hid (Below w.heap.size w w2) := by (try go_split_ands); assumption
    (try go_split_ands)
    go_wp2_with (go_at_call 66; refine (HR.out _ HB2.out).mono ?_; rintro e w3 ⟨rfl, h3, m3⟩; have H3 := Lib.hid h3; have M3 := Lib.hid m3; clear h3 m3)
    go_ret
    exact ⟨by rw [HE.out]; rfl, by rw [HE.out]; exact H3.out, (Mut.of_below HB2.out).then M3.out⟩
  · have HE : Hid (storeH H r i ⟨num, ref⟩ (some (k, j), 0) = (H, f)) := Lib.hid (by unfold storeH; simp only [hisr, hf]; rw [if_pos hz])
    have HF := Lib.hid hf
    have k1 : (f == 0) = false := by simpa using hz
    clear h hi hmu hbd ho hy hA hj hw hf hisr hB hz
    go_enter Try.func32, Try.ntmps32
    go_wp2_with (go_at_call 73; refine HW.out.mono ?_; rintro e w1 ⟨rfl, hb1⟩
                 have HB1 := Lib.hid (HB.out.trans (hb1.mono HB.out.size))
                 have b0 := keep3 hb1 (cell_of_heap (v := .int .i64 num) HK0.out (j := 0) rfl)
                 have b1 := keep3 hb1 (cell_of_heap (v := .int .i64 ref) HK0.out (j := 1) rfl)
                 obtain ⟨d0, d1, d2, _⟩ := (HH.out.below HB1.out).ocells HO.out
                 clear hb1 d0)
    go_region_held3 (fun w' => w'.cell? ⟨A.ob r, 1, none⟩ = some (.int .i64 o.cls) ∧ w'.cell? ⟨A.ob r, 2, none⟩ = some (.slice (A.sA r) o.refs.length (A.sC r)) ∧ w'.cell? ⟨w.heap.size, 0, none⟩ = some (.int .i64 num) ∧ w'.cell? ⟨w.heap.size, 1, none⟩ = some (.int .i64 ref) ∧ Hid (Below w.heap.size w w'))
      (((try go_split_ands); (repeat' apply And.intro) <;> first | exact keep3 hb (by assumption) | assumption | exact Lib.hid (Below.trans (Hid.out (by assumption)) (Below.mono hb (Below.size (Hid.out (by assumption))))) | exact Lib.hid (Below.drew (Hid.out (by assumption))) | go_keep))
      ((go_at_call 65; (try go_split_ands); refine (fits_calls (HH.out.below (Hid.out (by assumption))) o.cls (A.sC r) ((HH.out.below (Hid.out (by assumption))).shp r o HO.out) i HIR.out num ref).mono ?_; rintro e w2 ⟨rfl, hb⟩; rw [HF.out]))
    have HB2 : Hid (Below w.heap.size w w2) := by (try go_split_ands); assumption
    (try go_split_ands)
    go_wp2
    go_ret
    exact ⟨by rw [HE.out]; rfl, by rw [HE.out]; exact HH.out.below HB2.out, Mut.of_below HB2.out⟩
theorem put_err (p : Option Addr) (r el i num ref n : Int) (hn : n ≠ 0) (hw : ∀ W, Below w.heap.size w W → Calls Try.prog 64 #[.pointer p, .int .i64 r, .int .i64 el, .int .i64 i] W (WdErr W n)) :
    Calls Try.prog 16 #[.pointer p, .int .i64 r, .int .i64 el, .int .i64 i, .agg #[.int .i64 num, .int .i64 ref]] w fun e w' => e = .returned (.int .i64 n) ∧ Below w.heap.size w w' := by
  have hB : Below w.heap.size w (w.alloc (.cells #[.int .i64 num, .int .i64 ref] 42)) := (Below.refl _ _).alloc (Nat.le_refl _) _
  have HB := Lib.hid hB
  have HW := Lib.hid (hw _ hB)
  have k1 : (n == 0) = false := by simpa using hn
  clear hB hw hn
  go_enter Try.func16, Try.ntmps16
  go_wp2_with (go_at_call 64; refine HW.out.mono ?_; rintro e w1 ⟨rfl, hb1⟩; have HB1 := Lib.hid (HB.out.trans (hb1.mono HB.out.size)); clear hb1)
  go_ret
  exact ⟨rfl, HB1.out⟩
set_option maxHeartbeats 2000000 in
theorem put_ok (h : HpAt w hb A H S) (hi : Inv H []) (hmu : muH H ≤ 90000000) (hbd : HoldsLe H 1000000000) {r : Int} (el : Int) {i : Nat} {o : Ob} (ho : Mp.get H.objs r = some o) (hir : i < o.refs.length) (num ref : Int) {k : Int} {y : Rw} (hy : Mp.get H.rows k = some y) {g : Nat} (hA : A.wA k = some ⟨g, 0, none⟩) (j : Nat) (hj : j < y.words.length)
    (hw : ∀ W, Below w.heap.size w W → Calls Try.prog 64 #[.pointer (some ⟨hb, 0, none⟩), .int .i64 r, .int .i64 el, .int .i64 (i : Int)] W fun e w' => e = .returned (.tuple #[.pointer (some ⟨A.ob r, 0, none⟩), .pointer (some ⟨g, j * 2, none⟩), .int .i64 0]) ∧ Below W.heap.size W w') :
    Calls Try.prog 16 #[.pointer (some ⟨hb, 0, none⟩), .int .i64 r, .int .i64 el, .int .i64 (i : Int), .agg #[.int .i64 num, .int .i64 ref]] w fun e w' => e = .returned (.int .i64 (storeH H r i ⟨num, ref⟩ (some (k, j), 0)).2) ∧ HpAt w' hb A (storeH H r i ⟨num, ref⟩ (some (k, j), 0)).1 S ∧ Mut S w w' := by
  have hB : Below w.heap.size w (w.alloc (.cells #[.int .i64 num, .int .i64 ref] 42)) := (Below.refl _ _).alloc (Nat.le_refl _) _
  have HB := Lib.hid hB
  have HW := Lib.hid (hw _ hB)
  have HK0 := Lib.hid (heap_alloc_new w (.cells #[.int .i64 num, .int .i64 ref] 42))
  have hisr : isRef H r (i : Int) = o.refs[i]'hir := by simp [isRef, ho, hir]
  have HH := Lib.hid h
  have HO := Lib.hid ho
  have HIR := Lib.hid hir
  generalize hf : fitsH H (o.refs[i]'hir) ⟨num, ref⟩ = f at *
  by_cases hz : f = 0
  · subst hz
    have HE : Hid (storeH H r i ⟨num, ref⟩ (some (k, j), 0) = (replaceH H k j ⟨num, ref⟩, 0)) := Lib.hid (by unfold storeH; simp only [hisr, hf]; rfl)
    have hre : ref = 0 ∨ Mp.get H.objs ref ≠ none := by
      unfold fitsH at hf
      by_cases h0 : ref = 0
      · exact .inl h0
      · refine .inr fun hn => ?_
        split at hf
        · cases hf
        · rw [if_pos ⟨h0, hn⟩] at hf; cases hf
    have HR := Lib.hid fun (W : World) (hW : Below w.heap.size w W) => replace_calls (h.below hW) hi hmu hbd hy hA j hj num ref hre
    have HF := Lib.hid hf
    clear h hi hmu hbd ho hy hA hj hw hf hre hisr hB
    go_enter Try.func16, Try.ntmps16
    go_wp2_with (go_at_call 64; refine HW.out.mono ?_; rintro e w1 ⟨rfl, hb1⟩
                 have HB1 := Lib.hid (HB.out.trans (hb1.mono HB.out.size))
                 have b0 := keep3 hb1 (cell_of_heap (v := .int .i64 num) HK0.out (j := 0) rfl)
                 have b1 := keep3 hb1 (cell_of_heap (v := .int .i64 ref) HK0.out (j := 1) rfl)
                 obtain ⟨d0, d1, d2, _⟩ := (HH.out.below HB1.out).ocells HO.out
                 clear hb1 d0)
    go_region_held3 (fun w' => w'.cell? ⟨A.ob r, 1, none⟩ = some (.int .i64 o.cls) ∧ w'.cell? ⟨A.ob r, 2, none⟩ = some (.slice (A.sA r) o.refs.length (A.sC r)) ∧ w'.cell? ⟨w.heap.size, 0, none⟩ = some (.int .i64 num) ∧ w'.cell? ⟨w.heap.size, 1, none⟩ = some (.int .i64 ref) ∧ Hid (Below w.heap.size w w'))
      (((try go_split_ands); (repeat' apply And.intro) <;> first | exact keep3 hb (by assumption) | assumption | exact Lib.hid (Below.trans (Hid.out (by assumption)) (Below.mono hb (Below.size (Hid.out (by assumption))))) | exact Lib.hid (Below.drew (Hid.out (by assumption))) | go_keep))
      ((go_at_call 65; (try go_split_ands); refine (fits_calls (HH.out.below (Hid.out (by assumption))) o.cls (A.sC r) ((HH.out.below (Hid.out (by assumption))).shp r o HO.out) i HIR.out num ref).mono ?_; rintro e w2 ⟨rfl, hb⟩; rw [HF.out]))
    have HB2 : Hid (Below w.heap.size w w2) := by (try go_split_ands); assumption
    (try go_split_ands)
    go_wp2_with (go_at_call 66; refine (HR.out _ HB2.out).mono ?_; rintro e w3 ⟨rfl, h3, m3⟩; have H3 := Lib.hid h3; have M3 := Lib.hid m3; clear h3 m3)
    go_ret
    exact ⟨by rw [HE.out]; rfl, by rw [HE.out]; exact H3.out, (Mut.of_below HB2.out).then M3.out⟩
  · have HE : Hid (storeH H r i ⟨num, ref⟩ (some (k, j), 0) = (H, f)) := Lib.hid (by unfold storeH; simp only [hisr, hf]; rw [if_pos hz])
    have HF := Lib.hid hf
    have k1 : (f == 0) = false := by simpa using hz
    clear h hi hmu hbd ho hy hA hj hw hf hisr hB hz
    go_enter Try.func16, Try.ntmps16
    go_wp2_with (go_at_call 64; refine HW.out.mono ?_; rintro e w1 ⟨rfl, hb1⟩
                 have HB1 := Lib.hid (HB.out.trans (hb1.mono HB.out.size))
                 have b0 := keep3 hb1 (cell_of_heap (v := .int .i64 num) HK0.out (j := 0) rfl)
                 have b1 := keep3 hb1 (cell_of_heap (v := .int .i64 ref) HK0.out (j := 1) rfl)
                 obtain ⟨d0, d1, d2, _⟩ := (HH.out.below HB1.out).ocells HO.out
                 clear hb1 d0)
    go_region_held3 (fun w' => w'.cell? ⟨A.ob r, 1, none⟩ = some (.int .i64 o.cls) ∧ w'.cell? ⟨A.ob r, 2, none⟩ = some (.slice (A.sA r) o.refs.length (A.sC r)) ∧ w'.cell? ⟨w.heap.size, 0, none⟩ = some (.int .i64 num) ∧ w'.cell? ⟨w.heap.size, 1, none⟩ = some (.int .i64 ref) ∧ Hid (Below w.heap.size w w'))
      (((try go_split_ands); (repeat' apply And.intro) <;> first | exact keep3 hb (by assumption) | assumption | exact Lib.hid (Below.trans (Hid.out (by assumption)) (Below.mono hb (Below.size (Hid.out (by assumption))))) | exact Lib.hid (Below.drew (Hid.out (by assumption))) | go_keep))
      ((go_at_call 65; (try go_split_ands); refine (fits_calls (HH.out.below (Hid.out (by assumption))) o.cls (A.sC r) ((HH.out.below (Hid.out (by assumption))).shp r o HO.out) i HIR.out num ref).mono ?_; rintro e w2 ⟨rfl, hb⟩; rw [HF.out]))
    have HB2 : Hid (Below w.heap.size w w2) := by (try go_split_ands); assumption
    (try go_split_ands)
    go_wp2
    go_ret
    exact ⟨by rw [HE.out]; rfl, by rw [HE.out]; exact HH.out.below HB2.out, Mut.of_below HB2.out⟩
end Go.Proofs.Ytodfpclekihbhaa

