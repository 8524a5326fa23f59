/- Contract of the law's act: Kill. -/
import Derived.Test.YtnbjknjnpfmklaaP39
import Derived.Test.YtnbjknjnpfmklaaP22
namespace Go.Proofs.Ytnbjknjnpfmklaa
open Go.RowKit

theorem Both.of {w wk : World} {tb m : Nat} {H : Nat → Obj → Prop} {p : TA} {rp : RA} {c : Int} {Ta Tr : Tb} (B : BothAt w wk tb m H p rp c Ta Tr) : Both w wk tb m H Ta Tr := ⟨p, rp, c, B⟩
theorem rkill_row {w w1 w2 : World} {m : Nat} {rp : RA} {c : Int} {T S : Tb} {A : Option Addr} {l : List Int} (h : RowI w1 A l) (hf : ∀ a, A = some a → w.heap.size ≤ a.block) (hr : RefAt w m rp c T) (hx : Rx w1 m rp S w2) : RowI w2 A l := by
  obtain ⟨_, _, _, _, hm, _⟩ := hx
  exact h.mut hm fun a ha hk => by have := hr.fp_lt _ hk; have := hf a ha; omega
theorem kill_le (T : Tb) (n : Int) (g : Bool) : (killL T n g).length ≤ T.P.length := kill_outlen T n g _

set_option maxRecDepth 100000 in
set_option maxHeartbeats 4000000 in
theorem act_9 {w wk : World} {tb m : Nat} {T : Tb} {N : Nat} {q : Int} {s : List Int} (B : Both w wk tb m (fun _ _ => False) T T) (a : ActOk N q s T) (k n : Int) (t : ByteArray) (hk : k.tmod 12 = 9) :
    Calls Try.prog 25 #[.pointer (some ⟨tb, 0, none⟩), .pointer (some ⟨m, 0, none⟩), .agg #[.int .u8 k, .int .i64 n, .string t]] wk fun e w' => e = .returned (.bool true) ∧ Both w w' tb m (fun _ _ => False) (killT T n false) (killT T n false) := by
  obtain ⟨p, rp, c, hb0⟩ := B.hold #[.int .u8 k, .int .i64 n, .string t] 52
  have HB := Lib.hid hb0
  have HA := Lib.hid a
  have hll := kill_le T n false
  have hl0 := a.p1
  clear B a hb0
  go_enter Try.func25, Try.ntmps25
  go_wp2_with (first
    | (go_at_call 24; refine (kill_calls T tb p n false _ HB.out.tab HA.out.p2 HA.out.r2).mono ?_; rintro e w1 ⟨A, C, rfl, hrow, hnx, hfr⟩; have HROW := Lib.hid hrow; have HFR := Lib.hid hfr; have HN1 := HB.out.nx hnx; clear hrow hnx hfr; obtain ⟨p1, hb1⟩ := HN1; have HB1 := Lib.hid hb1; obtain ⟨r0, r1, r2⟩ := box3 (hb1.held _ _ ⟨rfl, rfl⟩).1; clear hb1)
    | (go_at_call 48; refine (rkill_calls T m rp c n false _ HB1.out.ref HB1.out.cnt HA.out.f.good HA.out.p1 HA.out.r1).mono ?_; rintro e w2 ⟨A2, C2, rfl, hrow, hrx⟩; have HROW2 := Lib.hid hrow; have HROW1 := Lib.hid (rkill_row HROW.out HFR.out HB.out.ref hrx); have HN2 := HB1.out.rx hrx; clear hrow hrx; obtain ⟨rp2, c2, hb2⟩ := HN2; have HB2 := Lib.hid hb2; clear hb2)
    | (go_at_call 49; go_loud (refine (same_yes _ A A2 C C2 _ HROW1.out HROW2.out (Nat.le_trans hll (Nat.le_trans hl0 (by decide)))).mono ?_; rintro e w3 ⟨rfl, hb⟩; have HB3 := Lib.hid (Both.of (HB2.out.below hb)); clear hb)))
  go_ret
  exact ⟨rfl, HB3.out.less (fun _ _ h => h.elim)⟩

set_option maxRecDepth 100000 in
set_option maxHeartbeats 4000000 in
theorem act_10 {w wk : World} {tb m : Nat} {T : Tb} {N : Nat} {q : Int} {s : List Int} (B : Both w wk tb m (fun _ _ => False) T T) (a : ActOk N q s T) (k n : Int) (t : ByteArray) (hk : k.tmod 12 = 10) :
    Calls Try.prog 25 #[.pointer (some ⟨tb, 0, none⟩), .pointer (some ⟨m, 0, none⟩), .agg #[.int .u8 k, .int .i64 n, .string t]] wk fun e w' => e = .returned (.bool true) ∧ Both w w' tb m (fun _ _ => False) (killT T n true) (killT T n true) := by
  obtain ⟨p, rp, c, hb0⟩ := B.hold #[.int .u8 k, .int .i64 n, .string t] 52
  have HB := Lib.hid hb0
  have HA := Lib.hid a
  have hll := kill_le T n true
  have hl0 := a.p1
  clear B a hb0
  go_enter Try.func25, Try.ntmps25
  go_wp2_with (first
    | (go_at_call 24; refine (kill_calls T tb p n true _ HB.out.tab HA.out.p2 HA.out.r2).mono ?_; rintro e w1 ⟨A, C, rfl, hrow, hnx, hfr⟩; have HROW := Lib.hid hrow; have HFR := Lib.hid hfr; have HN1 := HB.out.nx hnx; clear hrow hnx hfr; obtain ⟨p1, hb1⟩ := HN1; have HB1 := Lib.hid hb1; obtain ⟨r0, r1, r2⟩ := box3 (hb1.held _ _ ⟨rfl, rfl⟩).1; clear hb1)
    | (go_at_call 48; refine (rkill_calls T m rp c n true _ HB1.out.ref HB1.out.cnt HA.out.f.good HA.out.p1 HA.out.r1).mono ?_; rintro e w2 ⟨A2, C2, rfl, hrow, hrx⟩; have HROW2 := Lib.hid hrow; have HROW1 := Lib.hid (rkill_row HROW.out HFR.out HB.out.ref hrx); have HN2 := HB1.out.rx hrx; clear hrow hrx; obtain ⟨rp2, c2, hb2⟩ := HN2; have HB2 := Lib.hid hb2; clear hb2)
    | (go_at_call 49; go_loud (refine (same_yes _ A A2 C C2 _ HROW1.out HROW2.out (Nat.le_trans hll (Nat.le_trans hl0 (by decide)))).mono ?_; rintro e w3 ⟨rfl, hb⟩; have HB3 := Lib.hid (Both.of (HB2.out.below hb)); clear hb)))
  go_ret
  exact ⟨rfl, HB3.out.less (fun _ _ h => h.elim)⟩
end Go.Proofs.Ytnbjknjnpfmklaa
