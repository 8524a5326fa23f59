/- law17's do: Set. -/
import Derived.Test.YtodfpclekihbhaaG16
namespace Go.Proofs.Ytodfpclekihbhaa
open Go.RowKit Go.Shelf
set_option maxRecDepth 100000

variable {w0 w : World} {hb : Nat} {K : Nat → Prop} {H : Hp} {N : Nat}
theorem word17_any (k r x a b : Int) (tx : ByteArray) (cls : Int) (ra : Option Addr) (rn rC : Nat) (wa : Option Addr) (wC : Nat) (on : Bool) (w : World) {l : List Wd} (h : RdW w wa l) (hl : l.length ≤ 1000000) :
    ∃ num ref : Int, ∀ W, Below w.heap.size w W → Calls Try.prog 83 #[opV k r x a b tx cls ra rn rC wa l.length wC on] W fun e w' => e = .returned (.agg #[.int .i64 num, .int .i64 ref]) ∧ Below W.heap.size W w' := by
  cases l with
  | nil => exact ⟨0, 0, fun W _ => word17_none k r x a b tx cls ra rn rC wa wC on W⟩
  | cons v l => exact ⟨v.num, v.ref, fun W hW => word17_some k r x a b tx cls ra rn rC wa wC on W (h.below hW) hl⟩
set_option maxHeartbeats 4000000 in
theorem do_set (c : Car w0 hb K H w) (ok : Ok H N) (hN : N ≤ 900) (r x a b : Int) (tx : ByteArray) (cls : Int) (ra : Option Addr) (rn rC : Nat) (wa : Option Addr) (wC : Nat) (on : Bool) {l : List Wd} (hl : l.length ≤ 1000000) (hr : RdW w wa l) : Calls Try.prog 44 #[.pointer (some ⟨hb, 0, none⟩), opV 5 r x a b tx cls ra rn rC wa l.length wC on] w (DoPost w0 w hb K N) := by
  have hB : Below w.heap.size w (w.alloc (.cells #[.int .i64 5, .int .i64 r, .int .i64 x, .int .i64 a, .int .i64 b, .string tx, .int .i64 cls, .slice ra rn rC, .slice wa l.length wC, .bool on] 76)) := (Below.refl _ _).alloc (Nat.le_refl _) _
  have HB := Lib.hid hB
  have HK := Lib.hid (heap_alloc_new w (.cells #[.int .i64 5, .int .i64 r, .int .i64 x, .int .i64 a, .int .i64 b, .string tx, .int .i64 cls, .slice ra rn rC, .slice wa l.length wC, .bool on] 76))
  have HOK := Lib.hid ok
  have HN := Lib.hid hN
  have HCA := Lib.hid (c.below hB)
  obtain ⟨num, ref, hwd⟩ := word17_any 5 r x a b tx cls ra rn rC wa wC on w hr hl
  have HWD := Lib.hid hwd
  clear c ok hN hB hr hl hwd
  generalize l.length = n at *
  unfold opV at HWD ⊢
  go_enter Try.func44, Try.ntmps44
  go_wp2
  generalize hW : w.alloc (.cells #[.int .i64 5, .int .i64 r, .int .i64 x, .int .i64 a, .int .i64 b, .string tx, .int .i64 cls, .slice ra rn rC, .slice wa n wC, .bool on] 76) = W at *
  have c0 := cell_of_heap (v := .int .i64 5) HK.out (j := 0) rfl
  have c1 := cell_of_heap (v := .int .i64 r) HK.out (j := 1) rfl
  have c2 := cell_of_heap (v := .int .i64 x) HK.out (j := 2) rfl
  have c3 := cell_of_heap (v := .int .i64 a) HK.out (j := 3) rfl
  have c4 := cell_of_heap (v := .int .i64 b) HK.out (j := 4) rfl
  have c5 := cell_of_heap (v := .string tx) HK.out (j := 5) rfl
  have c6 := cell_of_heap (v := .int .i64 cls) HK.out (j := 6) rfl
  have c7 := cell_of_heap (v := .slice ra rn rC) HK.out (j := 7) rfl
  have c8 := cell_of_heap (v := .slice wa n wC) HK.out (j := 8) rfl
  have c9 := cell_of_heap (v := .bool on) HK.out (j := 9) rfl
  clear hW
  go_region_with (first
    | (go_at_call 83
       refine (HWD.out _ (by first | exact HB.out | exact HB.out.drew | exact HB.out.dn _)).mono ?_
       rintro e w1 ⟨rfl, hb1⟩
       have HC1 : Hid (Car w0 hb K H w1 ∧ Below w.heap.size w w1) := Lib.hid ⟨(HCA.out.below (by first | exact Below.refl _ _ | exact (Below.refl _ _).drew | exact (Below.refl _ _).dn _)).below hb1, (show Below w.heap.size w _ from by first | exact HB.out | exact HB.out.drew | exact HB.out.dn _).trans (hb1.mono (by have := HB.out.size; first | exact this | simpa using this))⟩
       have d1 := keep3 hb1 c1
       have d3 := keep3 hb1 c3
       clear hb1)
    | (go_at_call 32
       refine ((HC1.out.1.below (by first | exact Below.refl _ _ | exact (Below.refl _ _).drew | exact (Below.refl _ _).dn _)).set HOK.out (by have := HN.out; omega) r a num ref).mono ?_
       rintro e w2 ⟨rfl, hc⟩
       have HP : Hid (CPost w0 w hb K (setH H r a ⟨num, ref⟩).1 w2) := Lib.hid (hc.pre (HC1.out.2.trans (by first | exact Below.refl _ _ | exact (Below.refl _ _).drew | exact (Below.refl _ _).dn _)))
       clear hc))
  all_goals go_wp2
  all_goals (try simp only [Exit.inBlock, Exit.then])
  all_goals exact bodyPost_ret (by simp [results, Try.results44, go_sem]; rfl) rfl ⟨⟨_, rfl⟩, _, HP.out, (HOK.out.set r a ⟨num, ref⟩).mono (Nat.le_succ _)⟩
end Go.Proofs.Ytodfpclekihbhaa

