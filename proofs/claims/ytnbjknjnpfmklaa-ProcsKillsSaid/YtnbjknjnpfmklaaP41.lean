/- Contract of the law's alike. -/
import Derived.Test.YtnbjknjnpfmklaaP40
import Derived.Deep.RegionHeld3
namespace Go.Proofs.Ytnbjknjnpfmklaa
open Go.RowKit

/-- A list of processes that can be read. -/
def PrsAt (w : World) (A : Option Addr) (l : List Pr) : Prop := ∀ j (h : j < l.length), ∃ g, A = some ⟨g, 0, none⟩ ∧ g < w.heap.size ∧ w.cell? ⟨g, j * 5, none⟩ = some (.int .i64 (l[j]'h).pid) ∧ w.cell? ⟨g, j * 5 + 1, none⟩ = some (.int .i64 (l[j]'h).group) ∧ w.cell? ⟨g, j * 5 + 2, none⟩ = some (.int .i64 (l[j]'h).state) ∧ w.cell? ⟨g, j * 5 + 3, none⟩ = some (.string (l[j]'h).why) ∧ w.cell? ⟨g, j * 5 + 4, none⟩ = some (.int .i64 (l[j]'h).ticks)
theorem PrsAt.of_own {w : World} {B C : Nat} {A : Option Addr} {l : List Pr} (h : w.ownsRow B 45 5 (.slice A l.length C) l.length (flat l)) : PrsAt w A l := fun j hj => by
  rcases h.2 with ⟨h1, h2⟩ | ⟨g, cap, cur, h1, h2, h3, h4, h5, h6, h7⟩
  · omega
  · injection h1 with e1 e2 e3
    have key : ∀ k, k < 5 → w.cell? ⟨g, j * 5 + k, none⟩ = (prC l[j])[k]? := fun k hk => by
      rw [← flat_get l j k hj hk, ← h7, List.getElem?_take_of_lt (by omega)]
      unfold World.cell?
      rw [h3]
      simp
    exact ⟨g, e1, (Array.getElem?_eq_some_iff.1 h3).1, key 0 (by omega), key 1 (by omega), key 2 (by omega), key 3 (by omega), key 4 (by omega)⟩
theorem PrsAt.below {w w' : World} {A : Option Addr} {l : List Pr} (h : PrsAt w A l) (hb : Below w.heap.size w w') : PrsAt w' A l := fun j hj => by
  obtain ⟨g, h1, h2, h3, h4, h5, h6, h7⟩ := h j hj
  exact ⟨g, h1, Nat.lt_of_lt_of_le h2 hb.size, (hb.cell (p := ⟨g, _, none⟩) h2).trans h3, (hb.cell (p := ⟨g, _, none⟩) h2).trans h4, (hb.cell (p := ⟨g, _, none⟩) h2).trans h5, (hb.cell (p := ⟨g, _, none⟩) h2).trans h6, (hb.cell (p := ⟨g, _, none⟩) h2).trans h7⟩

theorem current_b (T : Tb) (tb : Nat) (p : TA) (w : World) (h : TabAt w tb p T) : Calls Try.prog 17 #[.pointer (some ⟨tb, 0, none⟩)] w fun e w' => e = .returned (.int .i64 T.cur) ∧ Below w.heap.size w w' :=
  (current_calls T tb p w h).mono fun _ _ ⟨h1, h2⟩ => ⟨h1, h2 ▸ Below.refl _ _⟩
theorem ticks_b (T : Tb) (tb : Nat) (p : TA) (w : World) (h : TabAt w tb p T) : Calls Try.prog 21 #[.pointer (some ⟨tb, 0, none⟩)] w fun e w' => e = .returned (.int .i64 T.ticks) ∧ Below w.heap.size w w' :=
  (ticks_calls T tb p w h).mono fun _ _ ⟨h1, h2⟩ => ⟨h1, h2 ▸ Below.refl _ _⟩
theorem used_b (T : Tb) (tb : Nat) (p : TA) (w : World) (h : TabAt w tb p T) : Calls Try.prog 12 #[.pointer (some ⟨tb, 0, none⟩)] w fun e w' => e = .returned (.int .i64 (T.used : Int)) ∧ Below w.heap.size w w' :=
  (used_calls T tb p w h).mono fun _ _ ⟨h1, h2⟩ => ⟨h1, h2 ▸ Below.refl _ _⟩
theorem keep3 {W w1 : World} {b o : Nat} {v : Value} (hb : Below W.heap.size W w1) (h : W.cell? ⟨b, o, none⟩ = some v) : w1.cell? ⟨b, o, none⟩ = some v :=
  (hb.cell (p := ⟨b, o, none⟩) (World.block_lt_of_cell? W ⟨b, o, none⟩ h)).trans h
set_option maxRecDepth 100000 in
set_option maxHeartbeats 4000000 in
theorem alike_calls {w wk : World} {tb m : Nat} {H : Nat → Obj → Prop} {T : Tb} {N : Nat} {q : Int} {s : List Int} (B : Both w wk tb m H T T) (a : ActOk N q s T) :
    Calls Try.prog 26 #[.pointer (some ⟨tb, 0, none⟩), .pointer (some ⟨m, 0, none⟩)] wk fun e w' => e = .returned (.bool true) ∧ Both w w' tb m H T T := by
  obtain ⟨p, rp, c, hb0⟩ := B
  have HB := Lib.hid hb0
  have HA := Lib.hid a
  have hal : (aliveL T.P).length ≤ T.P.length := List.length_filter_le _ _
  have hp1 := a.p1
  clear a hb0
  go_enter Try.func26, Try.ntmps26
  go_wp2_with (first
    | (go_at_call 23; refine (procs_calls T tb p _ HB.out.tab HA.out.p2).mono ?_; rintro e w1 ⟨A1, C1, rfl, ho, hb⟩; have HP1 := Lib.hid (PrsAt.of_own ho); have HB1 := Lib.hid (HB.out.below hb); clear ho hb)
    | (go_at_call 50; refine (rprocs_calls T m rp c _ HB1.out.ref HA.out.p2).mono ?_; rintro e w2 ⟨A2, C2, rfl, ho, hb⟩; have HP2 := Lib.hid (PrsAt.of_own ho); replace HP1 := Lib.hid (HP1.out.below hb); have HB2 := Lib.hid (HB1.out.below hb); clear ho hb))
  obtain ⟨d0, d1, d2, d3, d4, d5, d6, d7, df⟩ := HB2.out.ref.cells
  have HBR : Hid (Below w2.heap.size w2 w2) := Lib.hid (Below.refl _ _)
  clear d0 d2 d5 d7 df
  go_region_held3 (fun w' => w'.cell? ⟨m, 1, none⟩ = some (.int .i64 T.cur) ∧ w'.cell? ⟨m, 3, none⟩ = some (.int .i64 T.ticks) ∧ w'.cell? ⟨m, 4, none⟩ = some (.int .i64 (T.used : Int)) ∧ w'.cell? ⟨m, 6, none⟩ = some (.slice rp.lA T.ready.length rp.lC) ∧ Hid (Below w2.heap.size w2 w'))
    (((try go_split_ands); (repeat' apply And.intro) <;> first | exact keep3 hb (by assumption) | assumption | exact Lib.hid (Below.step2 (Hid.out (by assumption)) hb) | exact Lib.hid (Below.drew (Hid.out (by assumption))) | go_keep))
    (first
      | (go_at_call 16; (try go_split_ands); go_loud (refine (ready_calls T tb p _ (HB2.out.below (Hid.out (by assumption))).tab HA.out.r2).mono ?_; rintro e w1 ⟨A3, C3, rfl, ho, hb⟩; have HRA := Lib.hid (RowI.of_own ho); clear ho))
      | (go_at_call 49; (try go_split_ands); refine (same_yes T.ready A3 rp.lA C3 rp.lC _ (by first | exact HRA.out | exact HRA.out.below (Below.refl _ _).drew) (RowI.of_own (HB2.out.below (Hid.out (by assumption))).ref.lst) HA.out.r2).mono ?_; rintro e w1 ⟨rfl, hb⟩)
      | (go_at_call 17; (try go_split_ands); refine (current_b T tb p _ (HB2.out.below (Hid.out (by assumption))).tab).mono ?_; rintro e w1 ⟨rfl, hb⟩)
      | (go_at_call 22; (try go_split_ands); refine (left_calls T tb p _ (HB2.out.below (Hid.out (by assumption))).tab).mono ?_; rintro e w1 ⟨rfl, hb⟩)
      | (go_at_call 51; (try go_split_ands); refine (rleft_calls T m rp c _ (HB2.out.below (Hid.out (by assumption))).ref HB2.out.cnt HA.out.f.l0 HA.out.f.l1 (by have := HA.out.hq; have := HA.out.f.q; omega)).mono ?_; rintro e w1 ⟨rfl, hb⟩)
      | (go_at_call 21; (try go_split_ands); refine (ticks_b T tb p _ (HB2.out.below (Hid.out (by assumption))).tab).mono ?_; rintro e w1 ⟨rfl, hb⟩)
      | (go_at_call 12; (try go_split_ands); refine (used_b T tb p _ (HB2.out.below (Hid.out (by assumption))).tab).mono ?_; rintro e w1 ⟨rfl, hb⟩))
  have HZ : Hid (Below w2.heap.size w2 w1) := by (try go_split_ands); assumption
  have HL := Lib.hid (Nat.le_trans hal hp1)
  clear hal hp1 HRA HBR d1 d3 d4 d6
  generalize aliveL T.P = L at *
  go_wp2
  go_loopw [7] (fun i wr => ∃ j : Nat, j ≤ L.length ∧ i = .int .i64 j ∧ Hid (Below w2.heap.size w2 wr)) (fun i _ => L.length - (intOf i).toNat)
  case atStart => exact ⟨0, by omega, rfl, HZ⟩
  case round =>
    obtain ⟨j, hj, rfl, hB⟩ := hrel
    by_cases hlt : j < L.length
    · obtain ⟨g1, rfl, hg1, x0, x1, x2, x3, x4⟩ := HP1.out.below hB.out j hlt
      obtain ⟨g2, rfl, hg2, y0, y1, y2, y3, y4⟩ := HP2.out.below hB.out j hlt
      generalize L[j] = v at *
      obtain ⟨v0, v1, v2, v3, v4⟩ := v
      simp only at x0 x1 x2 x3 x4 y0 y1 y2 y3 y4
      have j0 : (0 : Int) ≤ (j : Int) := by omega
      have j1 : (j : Int) < (L.length : Int) := by omega
      have j9 := HL.out
      go_wp2
      go_quiet (fail)
      go_wp2
      go_roundw
      case rel => exact ⟨j + 1, by omega, by go_num, Lib.hid (Below.dn hB.out _)⟩
      case measure => simp [intOf]; omega
    · obtain rfl : j = L.length := by omega
      go_wp2
      go_ret
      exact ⟨rfl, Both.of (HB2.out.below hB.out)⟩
end Go.Proofs.Ytnbjknjnpfmklaa
