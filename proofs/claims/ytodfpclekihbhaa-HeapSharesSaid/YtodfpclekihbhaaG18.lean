/- law17's do: Put, Make, Array. -/
import Derived.Test.YtodfpclekihbhaaG17
namespace Go.Proofs.Ytodfpclekihbhaa
open Go.RowKit Go.Shelf
set_option maxRecDepth 100000

variable {w0 w : World} {hb : Nat} {K : Nat → Prop} {H : Hp} {N : Nat}
set_option maxHeartbeats 4000000 in
theorem do_put (c : Car w0 hb K H w) (ok : Ok H N) (hN : N ≤ 900) (r x a b : Int) (tx : ByteArray) (cls : Int) (ra : Option Addr) (rn rC : Nat) (wa : Option Addr) (wC : Nat) (on : Bool) {l : List Wd} (hl : l.length ≤ 1000000) (hr : RdW w wa l) : Calls Try.prog 44 #[.pointer (some ⟨hb, 0, none⟩), opV 6 r x a b tx cls ra rn rC wa l.length wC on] w (DoPost w0 w hb K N) := by
  have hB : Below w.heap.size w (w.alloc (.cells #[.int .i64 6, .int .i64 r, .int .i64 x, .int .i64 a, .int .i64 b, .string tx, .int .i64 cls, .slice ra rn rC, .slice wa l.length wC, .bool on] 76)) := (Below.refl _ _).alloc (Nat.le_refl _) _
  have HB := Lib.hid hB
  have HK := Lib.hid (heap_alloc_new w (.cells #[.int .i64 6, .int .i64 r, .int .i64 x, .int .i64 a, .int .i64 b, .string tx, .int .i64 cls, .slice ra rn rC, .slice wa l.length wC, .bool on] 76))
  have HOK := Lib.hid ok
  have HN := Lib.hid hN
  have HCA := Lib.hid (c.below hB)
  obtain ⟨num, ref, hwd⟩ := word17_any 6 r x a b tx cls ra rn rC wa wC on w hr hl
  have HWD := Lib.hid hwd
  clear c ok hN hB hr hl hwd
  generalize l.length = n at *
  unfold opV at HWD ⊢
  go_enter Try.func44, Try.ntmps44
  go_wp2
  generalize hW : w.alloc (.cells #[.int .i64 6, .int .i64 r, .int .i64 x, .int .i64 a, .int .i64 b, .string tx, .int .i64 cls, .slice ra rn rC, .slice wa n wC, .bool on] 76) = W at *
  have c0 := cell_of_heap (v := .int .i64 6) HK.out (j := 0) rfl
  have c1 := cell_of_heap (v := .int .i64 r) HK.out (j := 1) rfl
  have c2 := cell_of_heap (v := .int .i64 x) HK.out (j := 2) rfl
  have c3 := cell_of_heap (v := .int .i64 a) HK.out (j := 3) rfl
  have c4 := cell_of_heap (v := .int .i64 b) HK.out (j := 4) rfl
  have c5 := cell_of_heap (v := .string tx) HK.out (j := 5) rfl
  have c6 := cell_of_heap (v := .int .i64 cls) HK.out (j := 6) rfl
  have c7 := cell_of_heap (v := .slice ra rn rC) HK.out (j := 7) rfl
  have c8 := cell_of_heap (v := .slice wa n wC) HK.out (j := 8) rfl
  have c9 := cell_of_heap (v := .bool on) HK.out (j := 9) rfl
  clear hW
  go_region_with (first
    | (go_at_call 83
       refine (HWD.out _ (by first | exact HB.out | exact HB.out.drew | exact HB.out.dn _)).mono ?_
       rintro e w1 ⟨rfl, hb1⟩
       have HC1 : Hid (Car w0 hb K H w1 ∧ Below w.heap.size w w1) := Lib.hid ⟨(HCA.out.below (by first | exact Below.refl _ _ | exact (Below.refl _ _).drew | exact (Below.refl _ _).dn _)).below hb1, (show Below w.heap.size w _ from by first | exact HB.out | exact HB.out.drew | exact HB.out.dn _).trans (hb1.mono (by have := HB.out.size; first | exact this | simpa using this))⟩
       have d1 := keep3 hb1 c1
       have d3 := keep3 hb1 c3
       have d4 := keep3 hb1 c4
       clear hb1)
    | (go_at_call 16
       refine ((HC1.out.1.below (by first | exact Below.refl _ _ | exact (Below.refl _ _).drew | exact (Below.refl _ _).dn _)).put HOK.out (by have := HN.out; omega) r a b num ref).mono ?_
       rintro e w2 ⟨rfl, hc⟩
       have HP : Hid (CPost w0 w hb K (putH H r a b ⟨num, ref⟩).1 w2) := Lib.hid (hc.pre (HC1.out.2.trans (by first | exact Below.refl _ _ | exact (Below.refl _ _).drew | exact (Below.refl _ _).dn _)))
       clear hc))
  all_goals go_wp2
  all_goals (try simp only [Exit.inBlock, Exit.then])
  all_goals exact bodyPost_ret (by simp [results, Try.results44, go_sem]; rfl) rfl ⟨⟨_, rfl⟩, _, HP.out, (HOK.out.put r a b ⟨num, ref⟩).mono (Nat.le_succ _)⟩
set_option maxHeartbeats 4000000 in
theorem do_make (c : Car w0 hb K H w) (ok : Ok H N) (hN : N ≤ 900) (r x a b : Int) (tx : ByteArray) (cls : Int) {ra : Option Addr} {rC : Nat} (wa : Option Addr) (wn wC : Nat) (on : Bool) {l : List Bool} (hl : l.length ≤ 1000000) (hr : RdB w ra rC l) : Calls Try.prog 44 #[.pointer (some ⟨hb, 0, none⟩), opV 3 r x a b tx cls ra l.length rC wa wn wC on] w (DoPost w0 w hb K N) := by
  have hB : Below w.heap.size w (w.alloc (.cells #[.int .i64 3, .int .i64 r, .int .i64 x, .int .i64 a, .int .i64 b, .string tx, .int .i64 cls, .slice ra l.length rC, .slice wa wn wC, .bool on] 76)) := (Below.refl _ _).alloc (Nat.le_refl _) _
  have HB := Lib.hid hB
  have HK := Lib.hid (heap_alloc_new w (.cells #[.int .i64 3, .int .i64 r, .int .i64 x, .int .i64 a, .int .i64 b, .string tx, .int .i64 cls, .slice ra l.length rC, .slice wa wn wC, .bool on] 76))
  have HOK := Lib.hid ok
  have HN := Lib.hid hN
  have HCA := Lib.hid (c.below hB)
  have hwd : ∀ W, Below w.heap.size w W → Calls Try.prog 81 #[.agg #[.int .i64 cls, .slice ra l.length rC]] W fun e w' => ∃ A' C', e = .returned (.agg #[.int .i64 cls, .slice A' l.length C']) ∧ w'.ownsRow W.heap.size 4 1 (.slice A' l.length C') l.length (l.map Value.bool) ∧ Below W.heap.size W w' := fun W hW => shape_calls cls (hr.below hW) (by omega)
  have HWD := Lib.hid hwd
  have HCALL : Hid (∀ (W : World) (A' : Option Addr) (C' : Nat), Car w0 hb K H W → RdB W A' C' l → Calls Try.prog 29 #[.pointer (some ⟨hb, 0, none⟩), .int .i64 a, .agg #[.int .i64 cls, .slice A' l.length C']] W fun e w' => (∃ v1 v2, e = .returned (.tuple #[.int .i64 v1, .int .i64 v2])) ∧ CPost w0 W hb K (makeH H a cls l).1 w') := Lib.hid fun W A' C' hc hrd => (hc.make ok (by omega) a cls hrd).mono fun e w' ⟨h1, h2⟩ => ⟨⟨_, _, h1⟩, h2⟩
  have HOK2 : Hid (Ok (makeH H a cls l).1 (N + 1)) := Lib.hid (ok.make a cls l)
  clear c ok hN hB hr hl hwd
  have HRW : Hid (∀ (W : World) (B : Nat) (A' : Option Addr) (C' : Nat), W.ownsRow B 4 1 (.slice A' l.length C') l.length (l.map Value.bool) → RdB W A' C' l) := Lib.hid fun W B A' C' h => RdB.of_own h
  generalize (makeH H a cls l).1 = HH at *
  generalize l.length = n at *
  unfold opV
  go_enter Try.func44, Try.ntmps44
  go_wp2
  generalize hW : w.alloc (.cells #[.int .i64 3, .int .i64 r, .int .i64 x, .int .i64 a, .int .i64 b, .string tx, .int .i64 cls, .slice ra n rC, .slice wa wn wC, .bool on] 76) = W at *
  have c0 := cell_of_heap (v := .int .i64 3) HK.out (j := 0) rfl
  have c1 := cell_of_heap (v := .int .i64 r) HK.out (j := 1) rfl
  have c2 := cell_of_heap (v := .int .i64 x) HK.out (j := 2) rfl
  have c3 := cell_of_heap (v := .int .i64 a) HK.out (j := 3) rfl
  have c4 := cell_of_heap (v := .int .i64 b) HK.out (j := 4) rfl
  have c5 := cell_of_heap (v := .string tx) HK.out (j := 5) rfl
  have c6 := cell_of_heap (v := .int .i64 cls) HK.out (j := 6) rfl
  have c7 := cell_of_heap (v := .slice ra n rC) HK.out (j := 7) rfl
  have c8 := cell_of_heap (v := .slice wa wn wC) HK.out (j := 8) rfl
  have c9 := cell_of_heap (v := .bool on) HK.out (j := 9) rfl
  clear hW
  go_region_with (first
    | (go_at_call 81
       refine (HWD.out _ (by first | exact HB.out | exact HB.out.drew | exact HB.out.dn _)).mono ?_
       rintro e w1 ⟨A', C', rfl, hown, hb1⟩
       have HC1 : Hid (Car w0 hb K H w1 ∧ Below w.heap.size w w1) := Lib.hid ⟨(HCA.out.below (by first | exact Below.refl _ _ | exact (Below.refl _ _).drew | exact (Below.refl _ _).dn _)).below hb1, (show Below w.heap.size w _ from by first | exact HB.out | exact HB.out.drew | exact HB.out.dn _).trans (hb1.mono (by have := HB.out.size; first | exact this | simpa using this))⟩
       have HRD := Lib.hid (HRW.out _ _ _ _ hown)
       have d3 := keep3 hb1 c3
       clear hb1 hown)
    | (go_at_call 29
       refine (HCALL.out _ A' C' (HC1.out.1.below (by first | exact Below.refl _ _ | exact (Below.refl _ _).drew | exact (Below.refl _ _).dn _)) (HRD.out.below (by first | exact Below.refl _ _ | exact (Below.refl _ _).drew | exact (Below.refl _ _).dn _))).mono ?_
       rintro e w2 ⟨⟨v1, v2, rfl⟩, hc⟩
       have HP : Hid (CPost w0 w hb K HH w2) := Lib.hid (hc.pre (HC1.out.2.trans (by first | exact Below.refl _ _ | exact (Below.refl _ _).drew | exact (Below.refl _ _).dn _)))
       clear hc))
  all_goals go_wp2
  all_goals (try simp only [Exit.inBlock, Exit.then])
  all_goals exact bodyPost_ret (by simp [results, Try.results44, go_sem]; rfl) rfl ⟨⟨_, rfl⟩, _, HP.out, HOK2.out⟩
set_option maxHeartbeats 4000000 in
theorem do_array (c : Car w0 hb K H w) (ok : Ok H N) (hN : N ≤ 900) (r x a b : Int) (tx : ByteArray) (cls : Int) {ra : Option Addr} {rC : Nat} (wa : Option Addr) (wn wC : Nat) (on : Bool) {l : List Bool} (hl : l.length ≤ 1000000) (hr : RdB w ra rC l) (hsm : l.length ≤ 256 → 0 ≤ a → a ≤ 65536 → a * l.length ≤ 1048576 → a.toNat * l.length ≤ 15000) : Calls Try.prog 44 #[.pointer (some ⟨hb, 0, none⟩), opV 1 r x a b tx cls ra l.length rC wa wn wC on] w (DoPost w0 w hb K N) := by
  have hB : Below w.heap.size w (w.alloc (.cells #[.int .i64 1, .int .i64 r, .int .i64 x, .int .i64 a, .int .i64 b, .string tx, .int .i64 cls, .slice ra l.length rC, .slice wa wn wC, .bool on] 76)) := (Below.refl _ _).alloc (Nat.le_refl _) _
  have HB := Lib.hid hB
  have HK := Lib.hid (heap_alloc_new w (.cells #[.int .i64 1, .int .i64 r, .int .i64 x, .int .i64 a, .int .i64 b, .string tx, .int .i64 cls, .slice ra l.length rC, .slice wa wn wC, .bool on] 76))
  have HOK := Lib.hid ok
  have HN := Lib.hid hN
  have HCA := Lib.hid (c.below hB)
  have hwd : ∀ W, Below w.heap.size w W → Calls Try.prog 81 #[.agg #[.int .i64 cls, .slice ra l.length rC]] W fun e w' => ∃ A' C', e = .returned (.agg #[.int .i64 cls, .slice A' l.length C']) ∧ w'.ownsRow W.heap.size 4 1 (.slice A' l.length C') l.length (l.map Value.bool) ∧ Below W.heap.size W w' := fun W hW => shape_calls cls (hr.below hW) (by omega)
  have HWD := Lib.hid hwd
  have HCALL : Hid (∀ (W : World) (A' : Option Addr) (C' : Nat), Car w0 hb K H W → RdB W A' C' l → Calls Try.prog 13 #[.pointer (some ⟨hb, 0, none⟩), .agg #[.int .i64 cls, .slice A' l.length C'], .int .i64 a] W fun e w' => (∃ v1 v2, e = .returned (.tuple #[.int .i64 v1, .int .i64 v2])) ∧ CPost w0 W hb K (arrayH H cls l a).1 w') := Lib.hid fun W A' C' hc hrd => (hc.array ok (by omega) cls hrd a).mono fun e w' ⟨h1, h2⟩ => ⟨⟨_, _, h1⟩, h2⟩
  have HOK2 : Hid (Ok (arrayH H cls l a).1 (N + 1)) := Lib.hid (ok.array cls l a hsm)
  clear c ok hN hB hr hl hwd hsm
  have HRW : Hid (∀ (W : World) (B : Nat) (A' : Option Addr) (C' : Nat), W.ownsRow B 4 1 (.slice A' l.length C') l.length (l.map Value.bool) → RdB W A' C' l) := Lib.hid fun W B A' C' h => RdB.of_own h
  generalize (arrayH H cls l a).1 = HH at *
  generalize l.length = n at *
  unfold opV
  go_enter Try.func44, Try.ntmps44
  go_wp2
  generalize hW : w.alloc (.cells #[.int .i64 1, .int .i64 r, .int .i64 x, .int .i64 a, .int .i64 b, .string tx, .int .i64 cls, .slice ra n rC, .slice wa wn wC, .bool on] 76) = W at *
  have c0 := cell_of_heap (v := .int .i64 1) HK.out (j := 0) rfl
  have c1 := cell_of_heap (v := .int .i64 r) HK.out (j := 1) rfl
  have c2 := cell_of_heap (v := .int .i64 x) HK.out (j := 2) rfl
  have c3 := cell_of_heap (v := .int .i64 a) HK.out (j := 3) rfl
  have c4 := cell_of_heap (v := .int .i64 b) HK.out (j := 4) rfl
  have c5 := cell_of_heap (v := .string tx) HK.out (j := 5) rfl
  have c6 := cell_of_heap (v := .int .i64 cls) HK.out (j := 6) rfl
  have c7 := cell_of_heap (v := .slice ra n rC) HK.out (j := 7) rfl
  have c8 := cell_of_heap (v := .slice wa wn wC) HK.out (j := 8) rfl
  have c9 := cell_of_heap (v := .bool on) HK.out (j := 9) rfl
  clear hW
  go_region_with (first
    | (go_at_call 81
       refine (HWD.out _ (by first | exact HB.out | exact HB.out.drew | exact HB.out.dn _)).mono ?_
       rintro e w1 ⟨A', C', rfl, hown, hb1⟩
       have HC1 : Hid (Car w0 hb K H w1 ∧ Below w.heap.size w w1) := Lib.hid ⟨(HCA.out.below (by first | exact Below.refl _ _ | exact (Below.refl _ _).drew | exact (Below.refl _ _).dn _)).below hb1, (show Below w.heap.size w _ from by first | exact HB.out | exact HB.out.drew | exact HB.out.dn _).trans (hb1.mono (by have := HB.out.size; first | exact this | simpa using this))⟩
       have HRD := Lib.hid (HRW.out _ _ _ _ hown)
       have d3 := keep3 hb1 c3
       clear hb1 hown)
    | (go_at_call 13
       refine (HCALL.out _ A' C' (HC1.out.1.below (by first | exact Below.refl _ _ | exact (Below.refl _ _).drew | exact (Below.refl _ _).dn _)) (HRD.out.below (by first | exact Below.refl _ _ | exact (Below.refl _ _).drew | exact (Below.refl _ _).dn _))).mono ?_
       rintro e w2 ⟨⟨v1, v2, rfl⟩, hc⟩
       have HP : Hid (CPost w0 w hb K HH w2) := Lib.hid (hc.pre (HC1.out.2.trans (by first | exact Below.refl _ _ | exact (Below.refl _ _).drew | exact (Below.refl _ _).dn _)))
       clear hc))
  all_goals go_wp2
  all_goals (try simp only [Exit.inBlock, Exit.then])
  all_goals exact bodyPost_ret (by simp [results, Try.results44, go_sem]; rfl) rfl ⟨⟨_, rfl⟩, _, HP.out, HOK2.out⟩
end Go.Proofs.Ytodfpclekihbhaa

