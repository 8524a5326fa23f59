/- Texts on the heap, merged: W44, W45, W46. -/
import Derived.Test.YtodfpclekihbhaaG17
import Derived.Test.YtodfpclekihbhaaG18
/- law17's do: Text. -/
namespace Go.Proofs.Ytodfpclekihbhaa
open Go.RowKit Go.Shelf
set_option maxRecDepth 100000

variable {w0 w : World} {hb : Nat} {K : Nat → Prop} {H : Hp} {N : Nat}
set_option maxHeartbeats 4000000 in
theorem do_text (c : Car w0 hb K H w) (ok : Ok H N) (hN : N ≤ 900) (r x a b : Int) (tx : ByteArray) (htx : tx.size ≤ 1000) (cls : Int) (ra : Option Addr) (rn rC : Nat) (wa : Option Addr) (wn wC : Nat) (on : Bool) : Calls Try.prog 44 #[.pointer (some ⟨hb, 0, none⟩), opV 0 r x a b tx cls ra rn rC wa wn wC on] w (DoPost w0 w hb K N) := by
  have hB : Below w.heap.size w (w.alloc (.cells #[.int .i64 0, .int .i64 r, .int .i64 x, .int .i64 a, .int .i64 b, .string tx, .int .i64 cls, .slice ra rn rC, .slice wa wn wC, .bool on] 76)) := (Below.refl _ _).alloc (Nat.le_refl _) _
  have HB := Lib.hid hB
  have HOK := Lib.hid ok
  have HN := Lib.hid hN
  have HCA := Lib.hid (c.below hB)
  have HTX := Lib.hid htx
  clear c ok hN hB htx
  unfold opV
  go_enter Try.func44, Try.ntmps44
  go_wp2_with (first
    | (go_at_call 80; refine (of_calls tx HTX.out _).mono ?_; rintro e w1 ⟨cc, wide, rfl, hc, hb1⟩
       have HC1 : Hid (Car w0 hb K H w1 ∧ Below w.heap.size w w1) := Lib.hid ⟨HCA.out.below hb1, HB.out.trans (hb1.mono HB.out.size)⟩
       have HCS := Lib.hid hc
       clear hb1 hc)
    | (go_at_call 28; refine ((HC1.out.1.below ((Below.refl _ _).alloc (Nat.le_refl _) _)).text HOK.out (by have := HN.out; omega) cc wide (by have := HCS.out; omega)).mono ?_; rintro e w2 ⟨rfl, hc⟩
       have HP : Hid (CPost w0 w hb K (textH H cc wide (strLen cc wide)).1 w2) := Lib.hid (hc.pre (HC1.out.2.trans ((Below.refl _ _).alloc HC1.out.2.size _)))
       clear hc))
  all_goals (try simp only [Exit.inBlock, Exit.then])
  all_goals exact bodyPost_ret (by simp [results, Try.results44, go_sem]; rfl) rfl ⟨⟨_, rfl⟩, _, HP.out, HOK.out.text cc wide _⟩
end Go.Proofs.Ytodfpclekihbhaa

/- law17's do: Cons. -/
namespace Go.Proofs.Ytodfpclekihbhaa
open Go.RowKit Go.Shelf
set_option maxRecDepth 100000

variable {w0 w : World} {hb : Nat} {K : Nat → Prop} {H : Hp} {N : Nat}
theorem own_below {W W' : World} {base n C size : Nat} {e : TypeId} {A : Option Addr} {xs : List Value} (h : W.ownsRow base e size (.slice A n C) n xs) (hb : Below W.heap.size W W') : W'.ownsRow base e size (.slice A n C) n xs :=
  own_mut2 (S := fun _ => False) h (Mut.of_below hb) fun _ _ h => h
set_option maxHeartbeats 4000000 in
theorem do_cons (c : Car w0 hb K H w) (ok : Ok H N) (hN : N ≤ 900) (r x a b : Int) (tx : ByteArray) (cls : Int) {ra : Option Addr} {rC : Nat} {wa : Option Addr} {wC : Nat} (on : Bool) {l : List Bool} (hl : l.length ≤ 1000000) (hr : RdB w ra rC l) {m : List Wd} (hm : m.length ≤ 1000000) (hw : RdW w wa m) : Calls Try.prog 44 #[.pointer (some ⟨hb, 0, none⟩), opV 4 r x a b tx cls ra l.length rC wa m.length wC on] w (DoPost w0 w hb K N) := by
  have hB : Below w.heap.size w (w.alloc (.cells #[.int .i64 4, .int .i64 r, .int .i64 x, .int .i64 a, .int .i64 b, .string tx, .int .i64 cls, .slice ra l.length rC, .slice wa m.length wC, .bool on] 76)) := (Below.refl _ _).alloc (Nat.le_refl _) _
  have HB := Lib.hid hB
  have HK := Lib.hid (heap_alloc_new w (.cells #[.int .i64 4, .int .i64 r, .int .i64 x, .int .i64 a, .int .i64 b, .string tx, .int .i64 cls, .slice ra l.length rC, .slice wa m.length wC, .bool on] 76))
  have HOK := Lib.hid ok
  have HN := Lib.hid hN
  have HCA := Lib.hid (c.below hB)
  have hwd : ∀ W, Below w.heap.size w W → Calls Try.prog 81 #[.agg #[.int .i64 cls, .slice ra l.length rC]] W fun e w' => ∃ A' C', e = .returned (.agg #[.int .i64 cls, .slice A' l.length C']) ∧ w'.ownsRow W.heap.size 4 1 (.slice A' l.length C') l.length (l.map Value.bool) ∧ Below W.heap.size W w' := fun W hW => shape_calls cls (hr.below hW) (by omega)
  have HWD := Lib.hid hwd
  have hww : ∀ W, Below w.heap.size w W → Calls Try.prog 82 #[.slice wa m.length wC] W fun e w' => ∃ A' C', e = .returned (.slice A' m.length C') ∧ w'.ownsRow W.heap.size 42 2 (.slice A' m.length C') m.length (wcs m) ∧ Below W.heap.size W w' := fun W hW => words_calls wC (hw.below hW) hm
  have HWW := Lib.hid hww
  have hcall : ∀ (W : World) (A' : Option Addr) (C' : Nat) (D' : Option Addr) (E' : Nat), Car w0 hb K H W → W.ownsRow 0 4 1 (.slice A' l.length C') l.length (l.map Value.bool) → W.ownsRow 0 42 2 (.slice D' m.length E') m.length (wcs m) → Calls Try.prog 30 #[.pointer (some ⟨hb, 0, none⟩), .agg #[.int .i64 cls, .slice A' l.length C'], .slice D' m.length E', .int .i64 r] W fun e w' => (∃ v1 v2, e = .returned (.tuple #[.int .i64 v1, .int .i64 v2])) ∧ CPost w0 W hb K (consH H cls l m r).1 w' := fun W A' C' D' E' hc hrd hwd => (hc.cons ok (by omega) cls hrd (front := m) hwd (by omega) r).mono fun e w' ⟨h1, h2⟩ => ⟨⟨_, _, h1⟩, h2⟩
  have HCALL := Lib.hid hcall
  have HOK2 : Hid (Ok (consH H cls l m r).1 (N + 1)) := Lib.hid (ok.cons cls l m r)
  clear c ok hN hB hr hl hwd hm hw hww hcall
  generalize (consH H cls l m r).1 = HH at *
  generalize l.map Value.bool = bs at *
  generalize wcs m = ws at *
  generalize l.length = n at *
  generalize m.length = k at *
  unfold opV
  go_enter Try.func44, Try.ntmps44
  go_wp2
  generalize hW : w.alloc (.cells #[.int .i64 4, .int .i64 r, .int .i64 x, .int .i64 a, .int .i64 b, .string tx, .int .i64 cls, .slice ra n rC, .slice wa k wC, .bool on] 76) = W at *
  have c0 := cell_of_heap (v := .int .i64 4) HK.out (j := 0) rfl
  have c1 := cell_of_heap (v := .int .i64 r) HK.out (j := 1) rfl
  have c2 := cell_of_heap (v := .int .i64 x) HK.out (j := 2) rfl
  have c3 := cell_of_heap (v := .int .i64 a) HK.out (j := 3) rfl
  have c4 := cell_of_heap (v := .int .i64 b) HK.out (j := 4) rfl
  have c5 := cell_of_heap (v := .string tx) HK.out (j := 5) rfl
  have c6 := cell_of_heap (v := .int .i64 cls) HK.out (j := 6) rfl
  have c7 := cell_of_heap (v := .slice ra n rC) HK.out (j := 7) rfl
  have c8 := cell_of_heap (v := .slice wa k wC) HK.out (j := 8) rfl
  have c9 := cell_of_heap (v := .bool on) HK.out (j := 9) rfl
  clear hW
  go_region_with (first
    | (go_at_call 81
       refine (HWD.out _ (by first | exact HB.out | exact HB.out.drew | exact HB.out.dn _)).mono ?_
       rintro e w1 ⟨A', C', rfl, hown, hb1⟩
       have HC1 : Hid (Car w0 hb K H w1 ∧ Below w.heap.size w w1) := Lib.hid ⟨(HCA.out.below (by first | exact Below.refl _ _ | exact (Below.refl _ _).drew | exact (Below.refl _ _).dn _)).below hb1, (show Below w.heap.size w _ from by first | exact HB.out | exact HB.out.drew | exact HB.out.dn _).trans (hb1.mono (by have := HB.out.size; first | exact this | simpa using this))⟩
       have HRD := Lib.hid (hown.mono (Nat.zero_le _))
       have d1 := keep3 hb1 c1
       have d8 := keep3 hb1 c8
       clear hb1 hown)
    | (go_at_call 82
       refine (HWW.out _ (HC1.out.2.trans (by first | exact Below.refl _ _ | exact (Below.refl _ _).drew | exact (Below.refl _ _).dn _))).mono ?_
       rintro e w2 ⟨D', E', rfl, hown, hb1⟩
       have hbb := (show Below w1.heap.size w1 _ from by first | exact Below.refl _ _ | exact (Below.refl _ _).drew | exact (Below.refl _ _).dn _).step2 hb1
       have HC2 : Hid (Car w0 hb K H w2 ∧ Below w.heap.size w w2) := Lib.hid ⟨HC1.out.1.below hbb, HC1.out.2.trans (hbb.mono HC1.out.2.size)⟩
       have HRD2 := Lib.hid (own_below HRD.out hbb)
       have HRW2 := Lib.hid (hown.mono (Nat.zero_le _))
       have e1 := keep3 hbb d1
       clear hb1 hown hbb)
    | (go_at_call 30
       refine (HCALL.out _ A' C' D' E' (HC2.out.1.below (by first | exact Below.refl _ _ | exact (Below.refl _ _).drew | exact (Below.refl _ _).dn _)) (own_below HRD2.out (by first | exact Below.refl _ _ | exact (Below.refl _ _).drew | exact (Below.refl _ _).dn _)) (own_below HRW2.out (by first | exact Below.refl _ _ | exact (Below.refl _ _).drew | exact (Below.refl _ _).dn _))).mono ?_
       rintro e w3 ⟨⟨v1, v2, rfl⟩, hc⟩
       have HP : Hid (CPost w0 w hb K HH w3) := Lib.hid (hc.pre (HC2.out.2.trans (by first | exact Below.refl _ _ | exact (Below.refl _ _).drew | exact (Below.refl _ _).dn _)))
       clear hc))
  all_goals go_wp2
  all_goals (try simp only [Exit.inBlock, Exit.then])
  all_goals exact bodyPost_ret (by simp [results, Try.results44, go_sem]; rfl) rfl ⟨⟨_, rfl⟩, _, HP.out, HOK2.out⟩
end Go.Proofs.Ytodfpclekihbhaa

/- law17's do: any call. -/
namespace Go.Proofs.Ytodfpclekihbhaa
open Go.RowKit Go.Shelf

/-- A call, as a law's argument has it. -/
structure OpM where
  k : Int
  r : Int
  x : Int
  a : Int
  b : Int
  tx : ByteArray
  cls : Int
  ra : Option Addr
  refs : List Bool
  rC : Nat
  wa : Option Addr
  words : List Wd
  wC : Nat
  on : Bool
def OpM.val (o : OpM) : Value := opV o.k o.r o.x o.a o.b o.tx o.cls o.ra o.refs.length o.rC o.wa o.words.length o.wC o.on
/-- What a call refers to can be read. -/
structure OpRd (w : World) (o : OpM) : Prop where
  rb : RdB w o.ra o.rC o.refs
  rw : RdW w o.wa o.words
theorem OpRd.below {w w' : World} {o : OpM} (h : OpRd w o) (hb : Below w.heap.size w w') : OpRd w' o := ⟨h.rb.below hb, h.rw.below hb⟩
/-- A call that needs little room. -/
structure OpSm (o : OpM) : Prop where
  refs : o.refs.length ≤ 300
  words : o.words.length ≤ 300
  tx : o.tx.size ≤ 200
  arr : o.k = 1 → 40 < o.a → o.a ≤ 65536 → 0 < o.refs.length → ¬ o.a ≤ 1048576 / (o.refs.length : Int)
theorem OpSm.room {o : OpM} (h : OpSm o) (hk : o.k = 1) (h0 : 0 ≤ o.a) (h1 : o.a ≤ 65536) (h2 : o.a * o.refs.length ≤ 1048576) : o.a.toNat * o.refs.length ≤ 15000 := by
  have hr := h.refs
  by_cases h3 : o.a ≤ 40
  · have h4 : o.a.toNat ≤ 40 := by omega
    exact Nat.le_trans (Nat.mul_le_mul h4 hr) (by decide)
  · cases hn : o.refs.length with
    | zero => simp
    | succ n =>
      exfalso
      have h5 := h.arr hk (by omega) h1 (by omega)
      refine h5 ?_
      rw [hn] at h2 ⊢
      exact (Int.le_ediv_iff_mul_le (by omega)).2 h2
variable {w0 w : World} {hb : Nat} {K : Nat → Prop} {H : Hp} {N : Nat}
theorem do_calls (c : Car w0 hb K H w) (ok : Ok H N) (hN : N ≤ 900) (o : OpM) (hr : OpRd w o) (hs : OpSm o) : Calls Try.prog 44 #[.pointer (some ⟨hb, 0, none⟩), o.val] w (DoPost w0 w hb K N) := by
  have hl : o.refs.length ≤ 1000000 := by have := hs.refs; omega
  have hm : o.words.length ≤ 1000000 := by have := hs.words; omega
  have hrm := fun hk : o.k = 1 => fun (_ : o.refs.length ≤ 256) => hs.room hk
  have ht : o.tx.size ≤ 1000 := by have := hs.tx; omega
  obtain ⟨rb, rw⟩ := hr
  clear hs
  obtain ⟨k, r, x, a, b, tx, cls, ra, refs, rC, wa, words, wC, on⟩ := o
  simp only [OpM.val] at *
  by_cases h0 : k = 0
  · subst h0; exact do_text c ok hN r x a b tx ht cls ra _ rC wa _ wC on
  by_cases h1 : k = 1
  · subst h1; exact do_array c ok hN r x a b tx cls wa _ wC on hl rb (hrm rfl)
  by_cases h2 : k = 2
  · subst h2; exact do_part c ok hN r x a b tx cls ra _ rC wa _ wC on
  by_cases h3 : k = 3
  · subst h3; exact do_make c ok hN r x a b tx cls wa _ wC on hl rb
  by_cases h4 : k = 4
  · subst h4; exact do_cons c ok hN r x a b tx cls on hl rb hm rw
  by_cases h5 : k = 5
  · subst h5; exact do_set c ok hN r x a b tx cls ra _ rC wa wC on hm rw
  by_cases h6 : k = 6
  · subst h6; exact do_put c ok hN r x a b tx cls ra _ rC wa wC on hm rw
  by_cases h7 : k = 7
  · subst h7; exact do_copy c ok hN r x a b tx cls ra _ rC wa _ wC on
  by_cases h8 : k = 8
  · subst h8; exact do_clear c ok hN r x a b tx cls ra _ rC wa _ wC on
  by_cases h9 : k = 9
  · subst h9; exact do_hold c ok hN r x a b tx cls ra _ rC wa _ wC on
  by_cases h10 : k = 10
  · subst h10; exact do_drop c ok hN r x a b tx cls ra _ rC wa _ wC on
  by_cases h11 : k = 11
  · subst h11; exact do_watch c ok hN r x a b tx cls ra _ rC wa _ wC on
  by_cases h12 : k = 12
  · subst h12; exact do_seen c ok hN r x a b tx cls ra _ rC wa _ wC on
  exact do_other c ok hN r x a b tx cls ra _ rC wa _ wC on h0 h1 h2 h3 h4 h5 h6 h7 h8 h9 h10 h11 h12
end Go.Proofs.Ytodfpclekihbhaa

