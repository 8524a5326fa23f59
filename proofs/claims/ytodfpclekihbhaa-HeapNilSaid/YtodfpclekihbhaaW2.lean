/- The iterator targets: it gives the references of an object. -/
import Derived.Test.YtodfpclekihbhaaW1
import Derived.OwnWalkIn
import Derived.TacticsInMore
import Derived.LoopNIn
import Derived.LoopIn
import Derived.Shelf.Abstract
import Derived.Shelf.RegionOpen
namespace Go.Proofs.Ytodfpclekihbhaa
open Go.RowKit Go.Shelf
attribute [local go_sem] Oper.semAt_some

/-- What targets reads. -/
structure ORd (b : Nat) (A : HA) (o : Ob) (ws : List Wd) (W : World) : Prop where
  c0 : W.cell? ⟨b, 0, none⟩ = some (.int .i64 o.kind)
  c3 : W.cell? ⟨b, 3, none⟩ = some (A.wF o ws.length)
  c6 : W.cell? ⟨b, 6, none⟩ = some (.int .i64 o.tail)
  c7 : W.cell? ⟨b, 7, none⟩ = some (A.pF o)
  cs : o.kind = 2 → W.cell? ⟨A.st o.row, 1, none⟩ = some (.slice (A.wA o.row) ws.length (A.wC o.row))
  wd : WordsAt W (A.wA o.row) (A.wC o.row) ws
theorem refsOf_take (ws : List Wd) (j : Nat) (h : j < ws.length) : refsOf (ws.take (j + 1)) = refsOf (ws.take j) ++ if (ws[j]'h).ref = 0 then [] else [(ws[j]'h).ref] := by
  rw [List.take_succ_eq_append_getElem h]
  unfold refsOf
  rw [List.map_append, List.filter_append]
  congr 1
  by_cases e : (ws[j]'h).ref = 0 <;> simp [e]
theorem nth_mid {xs : List Value} {p q : List Int} {x : Int} (h : xs = ints (p ++ x :: q)) : ∃ hj : p.length < xs.length, xs[p.length]'hj = .int .i64 x := by
  subst h
  refine ⟨by simp [ints], ?_⟩
  simp [ints]
theorem refsOf_split (ws : List Wd) (j : Nat) (h : j < ws.length) (hr : (ws[j]'h).ref ≠ 0) (t : List Int) : ∃ q, refsOf ws ++ t = refsOf (ws.take j) ++ (ws[j]'h).ref :: q := by
  refine ⟨refsOf (ws.drop (j + 1)) ++ t, ?_⟩
  have h1 : refsOf ws = refsOf (ws.take (j + 1)) ++ refsOf (ws.drop (j + 1)) := by
    unfold refsOf
    rw [← List.filter_append, ← List.map_append, List.take_append_drop]
  rw [h1, refsOf_take ws j h, if_neg hr]
  simp
set_option maxHeartbeats 2000000 in
theorem targets_gives (n : Nat) (A : HA) (b : Nat) (o : Ob) (ws : List Wd) (hlen : ws.length ≤ 100000000) : Gives Fence.wide n Try.prog 72 #[.pointer (some ⟨b, 0, none⟩)] (ints (refsOf ws ++ tailOf o)) (ORd b A o ws) := by
  intro l J W hst hrd hY h0
  have HY := Lib.hid hY
  have HJ := Lib.hid h0
  have HS := Lib.hid hst
  have HR := Lib.hid hrd
  obtain ⟨c0, c3, c6, c7, cs, wd⟩ := hrd _ _ h0
  clear hY h0 hst hrd wd
  by_cases hk : o.kind = 2
  · have hk3 : A.wF o ws.length = .slice none 0 0 := if_pos hk
    have hk4 : A.pF o = .pointer (some ⟨A.st o.row, 0, none⟩) := by unfold HA.pF; rw [if_pos hk]
    have cs1 := cs hk
    rw [hk3] at c3
    rw [hk4] at c7
    rw [hk] at c0
    clear hk hk3 hk4 cs
    refine callsIn_of_wp Try.func72 rfl trivial ?_ rfl
    simp only [Try.ntmps72, List.size_toArray, List.length_cons, List.length_nil, Nat.reduceAdd, Nat.reduceSub, Array.replicate_succ, Array.replicate_zero, List.push_toArray, List.append_toArray, List.nil_append, List.cons_append]
    gi_wp2
    gi_loopw [25] (fun p wr => ∃ j : Nat, j ≤ ws.length ∧ p = .int .i64 j ∧ Hid (J (refsOf (ws.take j)).length wr)) (fun i _ => ws.length - (intOf i).toNat)
    case atStart => exact ⟨0, Nat.zero_le _, rfl, HJ⟩
    case round =>
      obtain ⟨j, hj, rfl, HJ1⟩ := hrel
      by_cases hlt : j < ws.length
      · obtain ⟨g, hA, hg, hC, hf, w0, w1⟩ := (HR.out _ _ HJ1.out).wd.cell j hlt
        have q0 : (0 : Int) ≤ (j : Int) := by omega
        have q1 : (j : Int) < (ws.length : Int) := by omega
        rw [hA]
        have HB := Lib.hid ((Below.refl wr.heap.size wr).alloc (Nat.le_refl _) (.cells #[.int .i64 (ws[j]'hlt).num, .int .i64 (ws[j]'hlt).ref] 42))
        by_cases hz : (ws[j]'hlt).ref = 0
        · have HE : Hid (refsOf (ws.take (j + 1)) = refsOf (ws.take j)) := Lib.hid (by rw [refsOf_take ws j hlt, if_pos hz, List.append_nil])
          rw [hz] at w1 HB
          generalize (ws[j]'hlt).num = x at *
          gi_wp2
          refine ⟨fun _ h => (by cases h), ?_⟩
          gi_wp2
          go_roundw
          case rel => exact ⟨j + 1, by omega, by go_num, Lib.hid (by rw [HE.out]; exact HS.out _ _ _ HJ1.out HB.out)⟩
          case measure => simp [intOf]; omega
        · have hz2 : ((ws[j]'hlt).ref != 0) = !false := by simpa using hz
          have HE : Hid (refsOf (ws.take (j + 1)) = refsOf (ws.take j) ++ [(ws[j]'hlt).ref]) := Lib.hid (by rw [refsOf_take ws j hlt, if_neg hz])
          obtain ⟨q, hq⟩ := refsOf_split ws j hlt hz (tailOf o)
          obtain ⟨hj2, hx⟩ := nth_mid (congrArg ints hq)
          have hyy := HY.out _ _ (HS.out _ _ _ HJ1.out HB.out) hj2
          rw [hx] at hyy
          generalize (ws[j]'hlt).num = x at *
          generalize (ws[j]'hlt).ref = y at *
          obtain ⟨fn, tmps, assign, body, hy, hR⟩ := hyy
          clear hx hj2 hq
          gi_wp2
          refine ⟨fun h => (by cases h), hR.mono ?_⟩
          rintro e W3 ⟨rfl, hJ3⟩
          gi_wp2
          go_roundw
          case rel => exact ⟨j + 1, by omega, by go_num, Lib.hid (by rw [HE.out, List.length_append]; exact hJ3)⟩
          case measure => simp [intOf]; omega
      · obtain rfl : j = ws.length := by omega
        have d6 := (HR.out _ _ HJ1.out).c6
        rw [List.take_length] at HJ1
        by_cases ht : o.tail = 0
        · have HE : Hid (ints (refsOf ws ++ tailOf o) = ints (refsOf ws)) := Lib.hid (by unfold tailOf; rw [if_pos ht, List.append_nil])
          rw [ht] at d6
          gi_wp2
          go_end0
          exact ⟨⟨_, rfl⟩, by rw [HE.out]; simpa [ints] using HJ1.out⟩
        · have ht2 : (o.tail != 0) = !false := by simpa using ht
          have HE : Hid (ints (refsOf ws ++ tailOf o) = ints (refsOf ws ++ [o.tail])) := Lib.hid (by unfold tailOf; rw [if_neg ht])
          obtain ⟨hj2, hx⟩ := nth_mid (xs := ints (refsOf ws ++ tailOf o)) (p := refsOf ws) (x := o.tail) (q := []) HE.out
          have hyy := HY.out _ _ HJ1.out hj2
          rw [hx] at hyy
          clear hx hj2
          generalize o.tail = y at *
          obtain ⟨fn, tmps, assign, body, hy, hR⟩ := hyy
          gi_wp2
          refine ⟨fun h => (by cases h), hR.mono ?_⟩
          rintro e W3 ⟨rfl, hJ3⟩
          gi_wp2
          go_end0
          exact ⟨⟨_, rfl⟩, by rw [HE.out]; simpa [ints] using hJ3⟩
  · have hk2 : (o.kind == 2) = false := by simpa using hk
    have hk3 : A.wF o ws.length = .slice (A.wA o.row) ws.length (A.wC o.row) := if_neg hk
    rw [hk3] at c3
    clear hk hk3 cs c7
    refine callsIn_of_wp Try.func72 rfl trivial ?_ rfl
    simp only [Try.ntmps72, List.size_toArray, List.length_cons, List.length_nil, Nat.reduceAdd, Nat.reduceSub, Array.replicate_succ, Array.replicate_zero, List.push_toArray, List.append_toArray, List.nil_append, List.cons_append]
    gi_wp2
    gi_loopw [25] (fun p wr => ∃ j : Nat, j ≤ ws.length ∧ p = .int .i64 j ∧ Hid (J (refsOf (ws.take j)).length wr)) (fun i _ => ws.length - (intOf i).toNat)
    case atStart => exact ⟨0, Nat.zero_le _, rfl, HJ⟩
    case round =>
      obtain ⟨j, hj, rfl, HJ1⟩ := hrel
      by_cases hlt : j < ws.length
      · obtain ⟨g, hA, hg, hC, hf, w0, w1⟩ := (HR.out _ _ HJ1.out).wd.cell j hlt
        have q0 : (0 : Int) ≤ (j : Int) := by omega
        have q1 : (j : Int) < (ws.length : Int) := by omega
        rw [hA]
        have HB := Lib.hid ((Below.refl wr.heap.size wr).alloc (Nat.le_refl _) (.cells #[.int .i64 (ws[j]'hlt).num, .int .i64 (ws[j]'hlt).ref] 42))
        by_cases hz : (ws[j]'hlt).ref = 0
        · have HE : Hid (refsOf (ws.take (j + 1)) = refsOf (ws.take j)) := Lib.hid (by rw [refsOf_take ws j hlt, if_pos hz, List.append_nil])
          rw [hz] at w1 HB
          generalize (ws[j]'hlt).num = x at *
          gi_wp2
          refine ⟨fun _ h => (by cases h), ?_⟩
          gi_wp2
          go_roundw
          case rel => exact ⟨j + 1, by omega, by go_num, Lib.hid (by rw [HE.out]; exact HS.out _ _ _ HJ1.out HB.out)⟩
          case measure => simp [intOf]; omega
        · have hz2 : ((ws[j]'hlt).ref != 0) = !false := by simpa using hz
          have HE : Hid (refsOf (ws.take (j + 1)) = refsOf (ws.take j) ++ [(ws[j]'hlt).ref]) := Lib.hid (by rw [refsOf_take ws j hlt, if_neg hz])
          obtain ⟨q, hq⟩ := refsOf_split ws j hlt hz (tailOf o)
          obtain ⟨hj2, hx⟩ := nth_mid (congrArg ints hq)
          have hyy := HY.out _ _ (HS.out _ _ _ HJ1.out HB.out) hj2
          rw [hx] at hyy
          generalize (ws[j]'hlt).num = x at *
          generalize (ws[j]'hlt).ref = y at *
          obtain ⟨fn, tmps, assign, body, hy, hR⟩ := hyy
          clear hx hj2 hq
          gi_wp2
          refine ⟨fun h => (by cases h), hR.mono ?_⟩
          rintro e W3 ⟨rfl, hJ3⟩
          gi_wp2
          go_roundw
          case rel => exact ⟨j + 1, by omega, by go_num, Lib.hid (by rw [HE.out, List.length_append]; exact hJ3)⟩
          case measure => simp [intOf]; omega
      · obtain rfl : j = ws.length := by omega
        have d6 := (HR.out _ _ HJ1.out).c6
        rw [List.take_length] at HJ1
        by_cases ht : o.tail = 0
        · have HE : Hid (ints (refsOf ws ++ tailOf o) = ints (refsOf ws)) := Lib.hid (by unfold tailOf; rw [if_pos ht, List.append_nil])
          rw [ht] at d6
          gi_wp2
          go_end0
          exact ⟨⟨_, rfl⟩, by rw [HE.out]; simpa [ints] using HJ1.out⟩
        · have ht2 : (o.tail != 0) = !false := by simpa using ht
          have HE : Hid (ints (refsOf ws ++ tailOf o) = ints (refsOf ws ++ [o.tail])) := Lib.hid (by unfold tailOf; rw [if_neg ht])
          obtain ⟨hj2, hx⟩ := nth_mid (xs := ints (refsOf ws ++ tailOf o)) (p := refsOf ws) (x := o.tail) (q := []) HE.out
          have hyy := HY.out _ _ HJ1.out hj2
          rw [hx] at hyy
          clear hx hj2
          generalize o.tail = y at *
          obtain ⟨fn, tmps, assign, body, hy, hR⟩ := hyy
          gi_wp2
          refine ⟨fun h => (by cases h), hR.mono ?_⟩
          rintro e W3 ⟨rfl, hJ3⟩
          gi_wp2
          go_end0
          exact ⟨⟨_, rfl⟩, by rw [HE.out]; simpa [ints] using hJ3⟩
end Go.Proofs.Ytodfpclekihbhaa
