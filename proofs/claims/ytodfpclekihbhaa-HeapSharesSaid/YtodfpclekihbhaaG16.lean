/- law17's do: the calls with plain arguments. -/
import Derived.Test.YtodfpclekihbhaaG15
namespace Go.Proofs.Ytodfpclekihbhaa
open Go.RowKit Go.Shelf
set_option maxRecDepth 100000

variable {w0 w : World} {hb : Nat} {K : Nat → Prop} {H : Hp} {N : Nat}
/-- What a call by do leaves. -/
def DoPost (w0 w : World) (hb : Nat) (K : Nat → Prop) (N : Nat) (e : Ending) (w' : World) : Prop := (∃ v, e = .returned v) ∧ ∃ H', CPost w0 w hb K H' w' ∧ Ok H' (N + 1)
theorem CPost.pre {w1 w' : World} {H' : Hp} (hb0 : Below w.heap.size w w1) (h : CPost w0 w1 hb K H' w') : CPost w0 w hb K H' w' := ⟨h.1, (Mut.of_below hb0).then h.2⟩
theorem CPost.same {w' : World} (c : Car w0 hb K H w) (hb0 : Below w.heap.size w w') : CPost w0 w hb K H w' := ⟨c.below hb0, Mut.of_below hb0⟩
set_option maxHeartbeats 2000000 in
theorem do_part (c : Car w0 hb K H w) (ok : Ok H N) (hN : N ≤ 900) (r x a b : Int) (tx : ByteArray) (cls : Int) (ra : Option Addr) (rn rC : Nat) (wa : Option Addr) (wn wC : Nat) (on : Bool) : Calls Try.prog 44 #[.pointer (some ⟨hb, 0, none⟩), opV 2 r x a b tx cls ra rn rC wa wn wC on] w (DoPost w0 w hb K N) := by
  unfold opV
  have hB : Below w.heap.size w (w.alloc (.cells #[.int .i64 2, .int .i64 r, .int .i64 x, .int .i64 a, .int .i64 b, .string tx, .int .i64 cls, .slice ra rn rC, .slice wa wn wC, .bool on] 76)) := (Below.refl _ _).alloc (Nat.le_refl _) _
  have HB := Lib.hid hB
  have HOK := Lib.hid ok
  have HCA := Lib.hid (c.below hB)
  have HC := Lib.hid ((c.below hB).part ok (by omega) r a b)
  clear c ok hN hB
  go_enter Try.func44, Try.ntmps44
  go_wp2_with (go_at_call 14; refine HC.out.mono ?_; rintro e w1 ⟨rfl, hc⟩; have HP := Lib.hid hc; clear hc)
  all_goals (try simp only [Exit.inBlock, Exit.then])
  all_goals exact bodyPost_ret (by simp [results, Try.results44, go_sem]; rfl) rfl ⟨⟨_, rfl⟩, _, HP.out.pre HB.out, HOK.out.part r a b⟩
set_option maxHeartbeats 2000000 in
theorem do_copy (c : Car w0 hb K H w) (ok : Ok H N) (hN : N ≤ 900) (r x a b : Int) (tx : ByteArray) (cls : Int) (ra : Option Addr) (rn rC : Nat) (wa : Option Addr) (wn wC : Nat) (on : Bool) : Calls Try.prog 44 #[.pointer (some ⟨hb, 0, none⟩), opV 7 r x a b tx cls ra rn rC wa wn wC on] w (DoPost w0 w hb K N) := by
  unfold opV
  have hB : Below w.heap.size w (w.alloc (.cells #[.int .i64 7, .int .i64 r, .int .i64 x, .int .i64 a, .int .i64 b, .string tx, .int .i64 cls, .slice ra rn rC, .slice wa wn wC, .bool on] 76)) := (Below.refl _ _).alloc (Nat.le_refl _) _
  have HB := Lib.hid hB
  have HOK := Lib.hid ok
  have HCA := Lib.hid (c.below hB)
  have HC := Lib.hid ((c.below hB).copy ok (by omega) r a x)
  clear c ok hN hB
  go_enter Try.func44, Try.ntmps44
  go_wp2_with (go_at_call 15; refine HC.out.mono ?_; rintro e w1 ⟨rfl, hc⟩; have HP := Lib.hid hc; clear hc)
  all_goals (try simp only [Exit.inBlock, Exit.then])
  all_goals exact bodyPost_ret (by simp [results, Try.results44, go_sem]; rfl) rfl ⟨⟨_, rfl⟩, _, HP.out.pre HB.out, (HOK.out.copy r a x).mono (Nat.le_succ _)⟩
set_option maxHeartbeats 2000000 in
theorem do_clear (c : Car w0 hb K H w) (ok : Ok H N) (hN : N ≤ 900) (r x a b : Int) (tx : ByteArray) (cls : Int) (ra : Option Addr) (rn rC : Nat) (wa : Option Addr) (wn wC : Nat) (on : Bool) : Calls Try.prog 44 #[.pointer (some ⟨hb, 0, none⟩), opV 8 r x a b tx cls ra rn rC wa wn wC on] w (DoPost w0 w hb K N) := by
  unfold opV
  have hB : Below w.heap.size w (w.alloc (.cells #[.int .i64 8, .int .i64 r, .int .i64 x, .int .i64 a, .int .i64 b, .string tx, .int .i64 cls, .slice ra rn rC, .slice wa wn wC, .bool on] 76)) := (Below.refl _ _).alloc (Nat.le_refl _) _
  have HB := Lib.hid hB
  have HOK := Lib.hid ok
  have HCA := Lib.hid (c.below hB)
  have HC := Lib.hid ((c.below hB).clear ok (by omega) r)
  clear c ok hN hB
  go_enter Try.func44, Try.ntmps44
  go_wp2_with (go_at_call 33; refine HC.out.mono ?_; rintro e w1 ⟨rfl, hc⟩; have HP := Lib.hid hc; clear hc)
  all_goals (try simp only [Exit.inBlock, Exit.then])
  all_goals exact bodyPost_ret (by simp [results, Try.results44, go_sem]; rfl) rfl ⟨⟨_, rfl⟩, _, HP.out.pre HB.out, (HOK.out.clear r).mono (Nat.le_succ _)⟩
set_option maxHeartbeats 2000000 in
theorem do_hold (c : Car w0 hb K H w) (ok : Ok H N) (hN : N ≤ 900) (r x a b : Int) (tx : ByteArray) (cls : Int) (ra : Option Addr) (rn rC : Nat) (wa : Option Addr) (wn wC : Nat) (on : Bool) : Calls Try.prog 44 #[.pointer (some ⟨hb, 0, none⟩), opV 9 r x a b tx cls ra rn rC wa wn wC on] w (DoPost w0 w hb K N) := by
  unfold opV
  have hB : Below w.heap.size w (w.alloc (.cells #[.int .i64 9, .int .i64 r, .int .i64 x, .int .i64 a, .int .i64 b, .string tx, .int .i64 cls, .slice ra rn rC, .slice wa wn wC, .bool on] 76)) := (Below.refl _ _).alloc (Nat.le_refl _) _
  have HB := Lib.hid hB
  have HOK := Lib.hid ok
  have HCA := Lib.hid (c.below hB)
  have HC := Lib.hid ((c.below hB).hold ok (by omega) r)
  clear c ok hN hB
  go_enter Try.func44, Try.ntmps44
  go_wp2_with (go_at_call 34; refine HC.out.mono ?_; rintro e w1 ⟨rfl, hc⟩; have HP := Lib.hid hc; clear hc)
  all_goals (try simp only [Exit.inBlock, Exit.then])
  all_goals exact bodyPost_ret (by simp [results, Try.results44, go_sem]; rfl) rfl ⟨⟨_, rfl⟩, _, HP.out.pre HB.out, HOK.out.hold r⟩
set_option maxHeartbeats 2000000 in
theorem do_drop (c : Car w0 hb K H w) (ok : Ok H N) (hN : N ≤ 900) (r x a b : Int) (tx : ByteArray) (cls : Int) (ra : Option Addr) (rn rC : Nat) (wa : Option Addr) (wn wC : Nat) (on : Bool) : Calls Try.prog 44 #[.pointer (some ⟨hb, 0, none⟩), opV 10 r x a b tx cls ra rn rC wa wn wC on] w (DoPost w0 w hb K N) := by
  unfold opV
  have hB : Below w.heap.size w (w.alloc (.cells #[.int .i64 10, .int .i64 r, .int .i64 x, .int .i64 a, .int .i64 b, .string tx, .int .i64 cls, .slice ra rn rC, .slice wa wn wC, .bool on] 76)) := (Below.refl _ _).alloc (Nat.le_refl _) _
  have HB := Lib.hid hB
  have HOK := Lib.hid ok
  have HCA := Lib.hid (c.below hB)
  have HC := Lib.hid ((c.below hB).drop ok (by omega) r)
  clear c ok hN hB
  go_enter Try.func44, Try.ntmps44
  go_wp2_with (go_at_call 35; refine HC.out.mono ?_; rintro e w1 ⟨rfl, hc⟩; have HP := Lib.hid hc; clear hc)
  all_goals (try simp only [Exit.inBlock, Exit.then])
  all_goals exact bodyPost_ret (by simp [results, Try.results44, go_sem]; rfl) rfl ⟨⟨_, rfl⟩, _, HP.out.pre HB.out, (HOK.out.drop r).mono (Nat.le_succ _)⟩
set_option maxHeartbeats 2000000 in
theorem do_watch (c : Car w0 hb K H w) (ok : Ok H N) (hN : N ≤ 900) (r x a b : Int) (tx : ByteArray) (cls : Int) (ra : Option Addr) (rn rC : Nat) (wa : Option Addr) (wn wC : Nat) (on : Bool) : Calls Try.prog 44 #[.pointer (some ⟨hb, 0, none⟩), opV 11 r x a b tx cls ra rn rC wa wn wC on] w (DoPost w0 w hb K N) := by
  unfold opV
  have hB : Below w.heap.size w (w.alloc (.cells #[.int .i64 11, .int .i64 r, .int .i64 x, .int .i64 a, .int .i64 b, .string tx, .int .i64 cls, .slice ra rn rC, .slice wa wn wC, .bool on] 76)) := (Below.refl _ _).alloc (Nat.le_refl _) _
  have HB := Lib.hid hB
  have HOK := Lib.hid ok
  have HCA := Lib.hid (c.below hB)
  have HC := Lib.hid ((c.below hB).watch on)
  clear c ok hN hB
  go_enter Try.func44, Try.ntmps44
  go_wp2_with (go_at_call 36; refine HC.out.mono ?_; rintro e w1 ⟨rfl, hc⟩; have HP := Lib.hid hc; clear hc)
  all_goals (try simp only [Exit.inBlock, Exit.then])
  all_goals exact bodyPost_ret (by simp [results, Try.results44, go_sem]; rfl) rfl ⟨⟨_, rfl⟩, _, HP.out.pre HB.out, (HOK.out.watch on).mono (Nat.le_succ _)⟩
set_option maxHeartbeats 2000000 in
theorem do_seen (c : Car w0 hb K H w) (ok : Ok H N) (hN : N ≤ 900) (r x a b : Int) (tx : ByteArray) (cls : Int) (ra : Option Addr) (rn rC : Nat) (wa : Option Addr) (wn wC : Nat) (on : Bool) : Calls Try.prog 44 #[.pointer (some ⟨hb, 0, none⟩), opV 12 r x a b tx cls ra rn rC wa wn wC on] w (DoPost w0 w hb K N) := by
  unfold opV
  have hB : Below w.heap.size w (w.alloc (.cells #[.int .i64 12, .int .i64 r, .int .i64 x, .int .i64 a, .int .i64 b, .string tx, .int .i64 cls, .slice ra rn rC, .slice wa wn wC, .bool on] 76)) := (Below.refl _ _).alloc (Nat.le_refl _) _
  have HB := Lib.hid hB
  have HOK := Lib.hid ok
  have HCA := Lib.hid (c.below hB)
  have HC := Lib.hid ((c.below hB).seen ok (by omega))
  clear c ok hN hB
  go_enter Try.func44, Try.ntmps44
  go_wp2_with (go_at_call 42; refine HC.out.mono ?_; rintro e w1 ⟨LA, LC, rfl, _, hc⟩; have HP := Lib.hid hc; clear hc)
  all_goals (try simp only [Exit.inBlock, Exit.then])
  all_goals exact bodyPost_ret (by simp [results, Try.results44, go_sem]; rfl) rfl ⟨⟨_, rfl⟩, _, HP.out.pre HB.out, HOK.out.seenOp.mono (Nat.le_succ _)⟩
set_option maxHeartbeats 2000000 in
theorem do_other (c : Car w0 hb K H w) (ok : Ok H N) (hN : N ≤ 900) (r x a b : Int) (tx : ByteArray) (cls : Int) (ra : Option Addr) (rn rC : Nat) (wa : Option Addr) (wn wC : Nat) (on : Bool) {k : Int} (h0 : k ≠ 0) (h1 : k ≠ 1) (h2 : k ≠ 2) (h3 : k ≠ 3) (h4 : k ≠ 4) (h5 : k ≠ 5) (h6 : k ≠ 6) (h7 : k ≠ 7) (h8 : k ≠ 8) (h9 : k ≠ 9) (h10 : k ≠ 10) (h11 : k ≠ 11) (h12 : k ≠ 12) : Calls Try.prog 44 #[.pointer (some ⟨hb, 0, none⟩), opV k r x a b tx cls ra rn rC wa wn wC on] w (DoPost w0 w hb K N) := by
  unfold opV
  have hB : Below w.heap.size w (w.alloc (.cells #[.int .i64 k, .int .i64 r, .int .i64 x, .int .i64 a, .int .i64 b, .string tx, .int .i64 cls, .slice ra rn rC, .slice wa wn wC, .bool on] 76)) := (Below.refl _ _).alloc (Nat.le_refl _) _
  have HB := Lib.hid hB
  have HOK := Lib.hid ok
  have HCA := Lib.hid (c.below hB)
  have q0 : (k == 0) = false := by simpa using h0
  have q1 : (k == 1) = false := by simpa using h1
  have q2 : (k == 2) = false := by simpa using h2
  have q3 : (k == 3) = false := by simpa using h3
  have q4 : (k == 4) = false := by simpa using h4
  have q5 : (k == 5) = false := by simpa using h5
  have q6 : (k == 6) = false := by simpa using h6
  have q7 : (k == 7) = false := by simpa using h7
  have q8 : (k == 8) = false := by simpa using h8
  have q9 : (k == 9) = false := by simpa using h9
  have q10 : (k == 10) = false := by simpa using h10
  have q11 : (k == 11) = false := by simpa using h11
  have q12 : (k == 12) = false := by simpa using h12
  have HCC := Lib.hid c
  clear c ok hN hB h0 h1 h2 h3 h4 h5 h6 h7 h8 h9 h10 h11 h12
  go_enter Try.func44, Try.ntmps44
  go_wp2
  all_goals (try simp only [Exit.inBlock, Exit.then])
  all_goals exact bodyPost_ret (by simp [results, Try.results44, go_sem]; rfl) rfl ⟨⟨_, rfl⟩, _, (CPost.same HCC.out HB.out), HOK.out.mono (Nat.le_succ _)⟩
end Go.Proofs.Ytodfpclekihbhaa

