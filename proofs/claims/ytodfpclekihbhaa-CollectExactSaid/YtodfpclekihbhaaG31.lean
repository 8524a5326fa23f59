/- Texts on the heap, merged: V5, V6, V7. -/
import Derived.Test.YtodfpclekihbhaaG28
import Derived.Test.YtodfpclekihbhaaG30
/- law17's do: Cons: what it answers. -/
namespace Go.Proofs.Ytodfpclekihbhaa
open Go.RowKit Go.Shelf
set_option maxRecDepth 100000

variable {w0 w : World} {hb : Nat} {K : Nat → Prop} {H : Hp} {N : Nat}
set_option maxHeartbeats 4000000 in
theorem is_cons (c : Car w0 hb K H w) (ok : Ok H N) (hN : N ≤ 900) (r x a b : Int) (tx : ByteArray) (cls : Int) {ra : Option Addr} {rC : Nat} {wa : Option Addr} {wC : Nat} (on : Bool) {l : List Bool} (hl : l.length ≤ 1000000) (hr : RdB w ra rC l) {m : List Wd} (hm : m.length ≤ 1000000) (hw : RdW w wa m) : Calls Try.prog 44 #[.pointer (some ⟨hb, 0, none⟩), opV 4 r x a b tx cls ra l.length rC wa m.length wC on] w (DoIs w0 w hb K ((consH H cls l m r).1, (consH H cls l m r).2.1, [], (consH H cls l m r).2.2)) := by
  have hB : Below w.heap.size w (w.alloc (.cells #[.int .i64 4, .int .i64 r, .int .i64 x, .int .i64 a, .int .i64 b, .string tx, .int .i64 cls, .slice ra l.length rC, .slice wa m.length wC, .bool on] 76)) := (Below.refl _ _).alloc (Nat.le_refl _) _
  have HB := Lib.hid hB
  have HK := Lib.hid (heap_alloc_new w (.cells #[.int .i64 4, .int .i64 r, .int .i64 x, .int .i64 a, .int .i64 b, .string tx, .int .i64 cls, .slice ra l.length rC, .slice wa m.length wC, .bool on] 76))
  have HOK := Lib.hid ok
  have HN := Lib.hid hN
  have HCA := Lib.hid (c.below hB)
  have hwd : ∀ W, Below w.heap.size w W → Calls Try.prog 81 #[.agg #[.int .i64 cls, .slice ra l.length rC]] W fun e w' => ∃ A' C', e = .returned (.agg #[.int .i64 cls, .slice A' l.length C']) ∧ w'.ownsRow W.heap.size 4 1 (.slice A' l.length C') l.length (l.map Value.bool) ∧ Below W.heap.size W w' := fun W hW => shape_calls cls (hr.below hW) (by omega)
  have HWD := Lib.hid hwd
  have hww : ∀ W, Below w.heap.size w W → Calls Try.prog 82 #[.slice wa m.length wC] W fun e w' => ∃ A' C', e = .returned (.slice A' m.length C') ∧ w'.ownsRow W.heap.size 42 2 (.slice A' m.length C') m.length (wcs m) ∧ Below W.heap.size W w' := fun W hW => words_calls wC (hw.below hW) hm
  have HWW := Lib.hid hww
  have hcall : ∀ (W : World) (A' : Option Addr) (C' : Nat) (D' : Option Addr) (E' : Nat), Car w0 hb K H W → W.ownsRow 0 4 1 (.slice A' l.length C') l.length (l.map Value.bool) → W.ownsRow 0 42 2 (.slice D' m.length E') m.length (wcs m) → Calls Try.prog 30 #[.pointer (some ⟨hb, 0, none⟩), .agg #[.int .i64 cls, .slice A' l.length C'], .slice D' m.length E', .int .i64 r] W fun e w' => e = .returned (.tuple #[.int .i64 (consH H cls l m r).2.1, .int .i64 (consH H cls l m r).2.2]) ∧ CPost w0 W hb K (consH H cls l m r).1 w' := fun W A' C' D' E' hc hrd hwd => (hc.cons ok (by omega) cls hrd (front := m) hwd (by omega) r).mono fun e w' ⟨h1, h2⟩ => ⟨h1, h2⟩
  have HCALL := Lib.hid hcall
  clear c ok hN hB hr hl hwd hm hw hww hcall
  generalize consH H cls l m r = MR at *
  generalize l.map Value.bool = bs at *
  generalize wcs m = ws at *
  generalize l.length = n at *
  generalize m.length = k at *
  unfold opV
  go_enter Try.func44, Try.ntmps44
  go_wp2
  generalize hW : w.alloc (.cells #[.int .i64 4, .int .i64 r, .int .i64 x, .int .i64 a, .int .i64 b, .string tx, .int .i64 cls, .slice ra n rC, .slice wa k wC, .bool on] 76) = W at *
  have c0 := cell_of_heap (v := .int .i64 4) HK.out (j := 0) rfl
  have c1 := cell_of_heap (v := .int .i64 r) HK.out (j := 1) rfl
  have c2 := cell_of_heap (v := .int .i64 x) HK.out (j := 2) rfl
  have c3 := cell_of_heap (v := .int .i64 a) HK.out (j := 3) rfl
  have c4 := cell_of_heap (v := .int .i64 b) HK.out (j := 4) rfl
  have c5 := cell_of_heap (v := .string tx) HK.out (j := 5) rfl
  have c6 := cell_of_heap (v := .int .i64 cls) HK.out (j := 6) rfl
  have c7 := cell_of_heap (v := .slice ra n rC) HK.out (j := 7) rfl
  have c8 := cell_of_heap (v := .slice wa k wC) HK.out (j := 8) rfl
  have c9 := cell_of_heap (v := .bool on) HK.out (j := 9) rfl
  clear hW
  go_region_with (first
    | (go_at_call 81
       refine (HWD.out _ (by first | exact HB.out | exact HB.out.drew | exact HB.out.dn _)).mono ?_
       rintro e w1 ⟨A', C', rfl, hown, hb1⟩
       have HC1 : Hid (Car w0 hb K H w1 ∧ Below w.heap.size w w1) := Lib.hid ⟨(HCA.out.below (by first | exact Below.refl _ _ | exact (Below.refl _ _).drew | exact (Below.refl _ _).dn _)).below hb1, (show Below w.heap.size w _ from by first | exact HB.out | exact HB.out.drew | exact HB.out.dn _).trans (hb1.mono (by have := HB.out.size; first | exact this | simpa using this))⟩
       have HRD := Lib.hid (hown.mono (Nat.zero_le _))
       have d1 := keep3 hb1 c1
       have d8 := keep3 hb1 c8
       clear hb1 hown)
    | (go_at_call 82
       refine (HWW.out _ (HC1.out.2.trans (by first | exact Below.refl _ _ | exact (Below.refl _ _).drew | exact (Below.refl _ _).dn _))).mono ?_
       rintro e w2 ⟨D', E', rfl, hown, hb1⟩
       have hbb := (show Below w1.heap.size w1 _ from by first | exact Below.refl _ _ | exact (Below.refl _ _).drew | exact (Below.refl _ _).dn _).step2 hb1
       have HC2 : Hid (Car w0 hb K H w2 ∧ Below w.heap.size w w2) := Lib.hid ⟨HC1.out.1.below hbb, HC1.out.2.trans (hbb.mono HC1.out.2.size)⟩
       have HRD2 := Lib.hid (own_below HRD.out hbb)
       have HRW2 := Lib.hid (hown.mono (Nat.zero_le _))
       have e1 := keep3 hbb d1
       clear hb1 hown hbb)
    | (go_at_call 30
       refine (HCALL.out _ A' C' D' E' (HC2.out.1.below (by first | exact Below.refl _ _ | exact (Below.refl _ _).drew | exact (Below.refl _ _).dn _)) (own_below HRD2.out (by first | exact Below.refl _ _ | exact (Below.refl _ _).drew | exact (Below.refl _ _).dn _)) (own_below HRW2.out (by first | exact Below.refl _ _ | exact (Below.refl _ _).drew | exact (Below.refl _ _).dn _))).mono ?_
       rintro e w3 ⟨rfl, hc⟩
       have HP : Hid (CPost w0 w hb K MR.1 w3) := Lib.hid (hc.pre (HC2.out.2.trans (by first | exact Below.refl _ _ | exact (Below.refl _ _).drew | exact (Below.refl _ _).dn _)))
       clear hc))
  all_goals go_wp2
  all_goals (try simp only [Exit.inBlock, Exit.then])
  all_goals exact bodyPost_ret (by simp [results, Try.results44, go_sem] <;> rfl) rfl ⟨none, 0, rfl, RdI.nil _, HP.out⟩
end Go.Proofs.Ytodfpclekihbhaa

/- law17's do: Text: what it answers. -/
namespace Go.Proofs.Ytodfpclekihbhaa
open Go.RowKit Go.Shelf
set_option maxRecDepth 100000

variable {w0 w : World} {hb : Nat} {K : Nat → Prop} {H : Hp} {N : Nat}
set_option maxHeartbeats 4000000 in
theorem is_text (c : Car w0 hb K H w) (ok : Ok H N) (hN : N ≤ 900) (r x a b : Int) (tx : ByteArray) (htx : tx.size ≤ 1000) (cls : Int) (ra : Option Addr) (rn rC : Nat) (wa : Option Addr) (wn wC : Nat) (on : Bool) : Calls Try.prog 44 #[.pointer (some ⟨hb, 0, none⟩), opV 0 r x a b tx cls ra rn rC wa wn wC on] w (DoIs w0 w hb K ((textH H (textOf tx).1 (textOf tx).2 (strLen (textOf tx).1 (textOf tx).2)).1, (textH H (textOf tx).1 (textOf tx).2 (strLen (textOf tx).1 (textOf tx).2)).2.1, [], (textH H (textOf tx).1 (textOf tx).2 (strLen (textOf tx).1 (textOf tx).2)).2.2)) := by
  have hB : Below w.heap.size w (w.alloc (.cells #[.int .i64 0, .int .i64 r, .int .i64 x, .int .i64 a, .int .i64 b, .string tx, .int .i64 cls, .slice ra rn rC, .slice wa wn wC, .bool on] 76)) := (Below.refl _ _).alloc (Nat.le_refl _) _
  have HB := Lib.hid hB
  have HOK := Lib.hid ok
  have HN := Lib.hid hN
  have HCA := Lib.hid (c.below hB)
  have HTX := Lib.hid htx
  have hof := of_is tx htx
  have hts := textOf_size tx
  obtain ⟨cc, hcc⟩ : ∃ c, c = (textOf tx).1 := ⟨_, rfl⟩
  obtain ⟨wide, hwd⟩ : ∃ c, c = (textOf tx).2 := ⟨_, rfl⟩
  rw [← hcc, ← hwd] at hof ⊢
  rw [← hcc] at hts
  have HOF := Lib.hid hof
  have HCS : Hid (cc.size ≤ 4000) := Lib.hid (by omega)
  clear hof hts hcc hwd
  clear c ok hN hB htx
  unfold opV
  go_enter Try.func44, Try.ntmps44
  go_wp2_with (first
    | (go_at_call 80; refine (HOF.out _).mono ?_; rintro e w1 ⟨rfl, hb1⟩
       have HC1 : Hid (Car w0 hb K H w1 ∧ Below w.heap.size w w1) := Lib.hid ⟨HCA.out.below hb1, HB.out.trans (hb1.mono HB.out.size)⟩
       clear hb1)
    | (go_at_call 28; refine ((HC1.out.1.below ((Below.refl _ _).alloc (Nat.le_refl _) _)).text HOK.out (by have := HN.out; omega) cc wide (by have := HCS.out; omega)).mono ?_; rintro e w2 ⟨rfl, hc⟩
       have HP : Hid (CPost w0 w hb K (textH H cc wide (strLen cc wide)).1 w2) := Lib.hid (hc.pre (HC1.out.2.trans ((Below.refl _ _).alloc HC1.out.2.size _)))
       clear hc))
  all_goals (try simp only [Exit.inBlock, Exit.then])
  all_goals exact bodyPost_ret (by simp [results, Try.results44, go_sem] <;> rfl) rfl ⟨none, 0, rfl, RdI.nil _, HP.out⟩
end Go.Proofs.Ytodfpclekihbhaa

/- law17's do: what any call answers. -/
namespace Go.Proofs.Ytodfpclekihbhaa
open Go.RowKit Go.Shelf

def three (T : Hp × Int × Int) : Hp × Int × List Int × Int := (T.1, T.2.1, [], T.2.2)
def two (T : Hp × Int) : Hp × Int × List Int × Int := (T.1, 0, [], T.2)
/-- do, in plain Lean: the heap behind, the object made, what was seen, the error. -/
noncomputable def doM (H : Hp) (o : OpM) : Hp × Int × List Int × Int :=
  if o.k = 0 then three (textH H (textOf o.tx).1 (textOf o.tx).2 (strLen (textOf o.tx).1 (textOf o.tx).2))
  else if o.k = 1 then three (arrayH H o.cls o.refs o.a)
  else if o.k = 2 then three (partH H o.r o.a o.b)
  else if o.k = 3 then three (makeH H o.a o.cls o.refs)
  else if o.k = 4 then three (consH H o.cls o.refs o.words o.r)
  else if o.k = 5 then two (setH H o.r o.a (o.words.headD ⟨0, 0⟩))
  else if o.k = 6 then two (putH H o.r o.a o.b (o.words.headD ⟨0, 0⟩))
  else if o.k = 7 then two (copyH H o.r o.a o.x)
  else if o.k = 8 then two (clearH H o.r)
  else if o.k = 9 then two (holdH H o.r)
  else if o.k = 10 then two (dropH H o.r)
  else if o.k = 11 then (watchH H o.on, 0, [], 0)
  else if o.k = 12 then ((seenH H).1, 0, (seenH H).2, 0)
  else (H, 0, [], 0)
variable {w0 w : World} {hb : Nat} {K : Nat → Prop} {H : Hp} {N : Nat}
theorem do_is (c : Car w0 hb K H w) (ok : Ok H N) (hN : N ≤ 900) (o : OpM) (hr : OpRd w o) (hs : OpSm o) : Calls Try.prog 44 #[.pointer (some ⟨hb, 0, none⟩), o.val] w (DoIs w0 w hb K (doM H o)) := by
  have hl : o.refs.length ≤ 1000000 := by have := hs.refs; omega
  have hm : o.words.length ≤ 1000000 := by have := hs.words; omega
  have ht : o.tx.size ≤ 1000 := by have := hs.tx; omega
  obtain ⟨rb, rw⟩ := hr
  clear hs
  obtain ⟨k, r, x, a, b, tx, cls, ra, refs, rC, wa, words, wC, on⟩ := o
  simp only [OpM.val] at *
  by_cases h0 : k = 0
  · subst h0; rw [show doM H ⟨0, r, x, a, b, tx, cls, ra, refs, rC, wa, words, wC, on⟩ = _ from rfl]; exact is_text c ok hN r x a b tx ht cls ra _ rC wa _ wC on
  by_cases h1 : k = 1
  · subst h1; rw [show doM H ⟨1, r, x, a, b, tx, cls, ra, refs, rC, wa, words, wC, on⟩ = _ from rfl]; exact is_array c ok hN r x a b tx cls wa _ wC on hl rb
  by_cases h2 : k = 2
  · subst h2; rw [show doM H ⟨2, r, x, a, b, tx, cls, ra, refs, rC, wa, words, wC, on⟩ = _ from rfl]; exact is_part c ok hN r x a b tx cls ra _ rC wa _ wC on
  by_cases h3 : k = 3
  · subst h3; rw [show doM H ⟨3, r, x, a, b, tx, cls, ra, refs, rC, wa, words, wC, on⟩ = _ from rfl]; exact is_make c ok hN r x a b tx cls wa _ wC on hl rb
  by_cases h4 : k = 4
  · subst h4; rw [show doM H ⟨4, r, x, a, b, tx, cls, ra, refs, rC, wa, words, wC, on⟩ = _ from rfl]; exact is_cons c ok hN r x a b tx cls on hl rb hm rw
  by_cases h5 : k = 5
  · subst h5; rw [show doM H ⟨5, r, x, a, b, tx, cls, ra, refs, rC, wa, words, wC, on⟩ = _ from rfl]; exact is_set c ok hN r x a b tx cls ra _ rC wa wC on hm rw
  by_cases h6 : k = 6
  · subst h6; rw [show doM H ⟨6, r, x, a, b, tx, cls, ra, refs, rC, wa, words, wC, on⟩ = _ from rfl]; exact is_put c ok hN r x a b tx cls ra _ rC wa wC on hm rw
  by_cases h7 : k = 7
  · subst h7; rw [show doM H ⟨7, r, x, a, b, tx, cls, ra, refs, rC, wa, words, wC, on⟩ = _ from rfl]; exact is_copy c ok hN r x a b tx cls ra _ rC wa _ wC on
  by_cases h8 : k = 8
  · subst h8; rw [show doM H ⟨8, r, x, a, b, tx, cls, ra, refs, rC, wa, words, wC, on⟩ = _ from rfl]; exact is_clear c ok hN r x a b tx cls ra _ rC wa _ wC on
  by_cases h9 : k = 9
  · subst h9; rw [show doM H ⟨9, r, x, a, b, tx, cls, ra, refs, rC, wa, words, wC, on⟩ = _ from rfl]; exact is_hold c ok hN r x a b tx cls ra _ rC wa _ wC on
  by_cases h10 : k = 10
  · subst h10; rw [show doM H ⟨10, r, x, a, b, tx, cls, ra, refs, rC, wa, words, wC, on⟩ = _ from rfl]; exact is_drop c ok hN r x a b tx cls ra _ rC wa _ wC on
  by_cases h11 : k = 11
  · subst h11; rw [show doM H ⟨11, r, x, a, b, tx, cls, ra, refs, rC, wa, words, wC, on⟩ = _ from rfl]; exact is_watch c ok hN r x a b tx cls ra _ rC wa _ wC on
  by_cases h12 : k = 12
  · subst h12; rw [show doM H ⟨12, r, x, a, b, tx, cls, ra, refs, rC, wa, words, wC, on⟩ = _ from rfl]; exact is_seen c ok hN r x a b tx cls ra _ rC wa _ wC on
  rw [show doM H ⟨k, r, x, a, b, tx, cls, ra, refs, rC, wa, words, wC, on⟩ = (H, 0, [], 0) from by unfold doM; simp [h0, h1, h2, h3, h4, h5, h6, h7, h8, h9, h10, h11, h12]]
  exact is_other c ok hN r x a b tx cls ra _ rC wa _ wC on h0 h1 h2 h3 h4 h5 h6 h7 h8 h9 h10 h11 h12
end Go.Proofs.Ytodfpclekihbhaa

