/- The law's worked example (awake). -/
import Derived.Test.YtnbjknjnpfmklaaP10
import Derived.Test.YtnbjknjnpfmklaaP11
namespace Go.Proofs.Ytnbjknjnpfmklaa
open Go.RowKit

/-- What a walk carries: the table at tb is T; all that it may turn is newer than w. -/
def Cz (w wk : World) (tb : Nat) (T : Tb) : Prop := ∃ p, TabAt wk tb p T ∧ Below w.heap.size w wk ∧ ∀ k, p.fp tb k → w.heap.size ≤ k
theorem Cz.nx {w wk w' : World} {tb : Nat} {p : TA} {T' : Tb} (hB : Below w.heap.size w wk) (hf : ∀ k, p.fp tb k → w.heap.size ≤ k) (h : Nx wk tb p T' w') : Cz w w' tb T' := by
  obtain ⟨p', h1, h2, h3, _⟩ := h
  refine ⟨p', h1, hB.trans (h2.to_below hB.size hf), fun k hk => ?_⟩
  rcases h3 k hk with h | h
  · exact hf k h
  · exact Nat.le_trans hB.size h
theorem Cz.below {w wk w' : World} {tb : Nat} {T : Tb} (h : Cz w wk tb T) (hb : Below wk.heap.size wk w') : Cz w w' tb T := by
  obtain ⟨p, h1, h2, h3⟩ := h
  exact ⟨p, h1.below hb, h2.step2 hb, h3⟩
theorem Cz.out {w wk : World} {tb : Nat} {T : Tb} (h : Cz w wk tb T) : Below w.heap.size w wk := by
  obtain ⟨p, _, h2, _⟩ := h
  exact h2
theorem make_cz {w wk : World} {tb : Nat} {T : Tb} (parent : Int) (h : Cz w wk tb T) (hlast : T.last = (T.P.length : Int)) (hn : T.P.length ≤ 100000) (hr : T.ready.length ≤ 100000) :
    Calls Try.prog 27 #[.pointer (some ⟨tb, 0, none⟩), .int .i64 parent] wk fun e w' => e = .returned (.tuple #[.int .i64 (makeI T parent), .int .i64 (makeE T parent)]) ∧ Cz w w' tb (makeT T parent) := by
  obtain ⟨p, h1, h2, h3⟩ := h
  exact (make_calls T tb p parent wk h1 hlast hn hr).mono fun _ _ ⟨e1, e2⟩ => ⟨e1, Cz.nx h2 h3 e2⟩
theorem turn_cz {w wk : World} {tb : Nat} {T : Tb} (h : Cz w wk tb T) (hr : T.ready.length ≤ 100000) (hs : T.s.length ≤ 100000) :
    Calls Try.prog 15 #[.pointer (some ⟨tb, 0, none⟩)] wk fun e w' => e = .returned (.tuple #[.int .i64 (turnI T), .bool (turnB T)]) ∧ Cz w w' tb (turnT T) := by
  obtain ⟨p, h1, h2, h3⟩ := h
  exact (turn_calls T tb p wk h1 hr hs).mono fun _ _ ⟨e1, e2⟩ => ⟨e1, Cz.nx h2 h3 e2⟩
theorem choose_cz {w wk : World} {tb : Nat} {T : Tb} (n : Int) (h : Cz w wk tb T) (hn : n ≤ 9223372036854775807) (hs : T.s.length ≤ 100000) :
    Calls Try.prog 11 #[.pointer (some ⟨tb, 0, none⟩), .int .i64 n] wk fun e w' => e = .returned (.int .i64 (chooseI T n)) ∧ Cz w w' tb (chooseT T n) := by
  obtain ⟨p, h1, h2, h3⟩ := h
  exact (choose_calls T tb p n wk h1 hn hs).mono fun _ _ ⟨e1, e2⟩ => ⟨e1, Cz.nx h2 h3 e2⟩
structure TickOk (T : Tb) : Prop where
  r : T.ready.length ≤ 100000
  p : isB T 0 = true → T.left ≠ 0 → ∃ q, prAt T.P T.cur = some q ∧ 0 ≤ q.ticks ∧ q.ticks ≤ 9000000000000000000
  l0 : 0 ≤ T.left
  l1 : T.left ≤ 9223372036854775807
  t0 : 0 ≤ T.ticks
  t1 : T.ticks ≤ 9000000000000000000
theorem tick_cz {w wk : World} {tb : Nat} {T : Tb} (h : Cz w wk tb T) (ok : TickOk T) :
    Calls Try.prog 18 #[.pointer (some ⟨tb, 0, none⟩)] wk fun e w' => e = .returned (.bool (tickB T)) ∧ Cz w w' tb (tickT T) := by
  obtain ⟨p, h1, h2, h3⟩ := h
  have key : Calls Try.prog 18 #[.pointer (some ⟨tb, 0, none⟩)] wk fun e w' => e = .returned (.bool (tickB T)) ∧ Nx wk tb p (tickT T) w' := by
    cases h0 : isB T 0 with
    | false => exact tick_none T tb p wk h1 h0
    | true =>
      by_cases hl : T.left = 0
      · exact tick_over T tb p wk h1 h0 hl ok.r
      · obtain ⟨q, hq, b5, b6⟩ := ok.p h0 hl
        exact tick_go T tb p wk h1 h0 hl q hq (by have := ok.l0; omega) ok.l1 ok.t0 ok.t1 b5 b6
  exact key.mono fun _ _ ⟨e1, e2⟩ => ⟨e1, Cz.nx h2 h3 e2⟩
theorem used_cz {w wk : World} {tb : Nat} {T : Tb} (h : Cz w wk tb T) : Calls Try.prog 12 #[.pointer (some ⟨tb, 0, none⟩)] wk fun e w' => e = .returned (.int .i64 (T.used : Int)) ∧ wk = w' := by
  obtain ⟨p, h1, h2, h3⟩ := h
  exact used_calls T tb p wk h1
theorem ticks_cz {w wk : World} {tb : Nat} {T : Tb} (h : Cz w wk tb T) : Calls Try.prog 21 #[.pointer (some ⟨tb, 0, none⟩)] wk fun e w' => e = .returned (.int .i64 T.ticks) ∧ wk = w' := by
  obtain ⟨p, h1, h2, h3⟩ := h
  exact ticks_calls T tb p wk h1
theorem current_cz {w wk : World} {tb : Nat} {T : Tb} (h : Cz w wk tb T) : Calls Try.prog 17 #[.pointer (some ⟨tb, 0, none⟩)] wk fun e w' => e = .returned (.int .i64 T.cur) ∧ wk = w' := by
  obtain ⟨p, h1, h2, h3⟩ := h
  exact current_calls T tb p wk h1
theorem ready_cz {w wk : World} {tb : Nat} {T : Tb} (h : Cz w wk tb T) (hl : T.ready.length ≤ 100000) :
    Calls Try.prog 16 #[.pointer (some ⟨tb, 0, none⟩)] wk fun e w' => ∃ A1 C1, e = .returned (.slice A1 T.ready.length C1) ∧ w'.ownsRow wk.heap.size 3 1 (.slice A1 T.ready.length C1) T.ready.length (ints T.ready) ∧ Below wk.heap.size wk w' ∧ Cz w w' tb T := by
  have h' := h
  obtain ⟨p, h1, h2, h3⟩ := h
  exact (ready_calls T tb p wk h1 hl).mono fun _ _ ⟨A1, C1, e1, e2, e3⟩ => ⟨A1, C1, e1, e2, e3, h'.below e3⟩
theorem new_cz (q : Int) (zs : List Int) (A : Option Addr) (C : Nat) (w wk : World) (hB : Below w.heap.size w wk) (hq : ¬ q < 1) (h : RowI wk A zs) (hl : zs.length ≤ 100000) :
    Calls Try.prog 10 #[.int .i64 q, .slice A zs.length C] wk fun e w' => ∃ tb, e = .returned (.tuple #[.pointer (some ⟨tb, 0, none⟩), .int .i64 0]) ∧ Cz w w' tb (newT q zs) ∧ Below wk.heap.size wk w' :=
  (new_calls q zs A C wk hq h hl).mono fun _ _ ⟨tb, p, e1, e2, e3, _, e4⟩ => ⟨tb, e1, ⟨p, e2, hB.step2 e4, fun k hk => Nat.le_trans hB.size (e3 k hk)⟩, e4⟩

def A0 : Tb := newT 2 [1]
def A1 : Tb := makeT A0 0
def A2 : Tb := makeT A1 1
def A3 : Tb := makeT A2 0
def A4 : Tb := turnT A3
def A5 : Tb := tickT A4
def A6 : Tb := tickT A5
def A7 : Tb := tickT A6
theorem fA : (makeI A0 0 = 1 ∧ makeI A1 1 = 2 ∧ makeI A2 0 = 3) ∧ (turnI A3 = 2 ∧ turnB A3 = true) ∧ (tickB A4 = true ∧ tickB A5 = true ∧ tickB A6 = false) ∧ A7.ready = [1, 3, 2] ∧ A7.ticks = 2 ∧ A7.used = 1 ∧ A7.cur = 0 := by decide +kernel
theorem kA : (A0.last = (A0.P.length : Int) ∧ A0.P.length ≤ 100000 ∧ A0.ready.length ≤ 100000) ∧ (A1.last = (A1.P.length : Int) ∧ A1.P.length ≤ 100000 ∧ A1.ready.length ≤ 100000) ∧ (A2.last = (A2.P.length : Int) ∧ A2.P.length ≤ 100000 ∧ A2.ready.length ≤ 100000) ∧ A3.ready.length ≤ 100000 ∧ A3.s.length ≤ 100000 := by decide +kernel
theorem okA4 : TickOk A4 := ⟨by decide +kernel, fun _ _ => ⟨⟨2, 1, 0, ⟨#[]⟩, 0⟩, by rfl, by decide, by decide⟩, by decide +kernel, by decide +kernel, by decide +kernel, by decide +kernel⟩
theorem okA5 : TickOk A5 := ⟨by decide +kernel, fun _ _ => ⟨⟨2, 1, 0, ⟨#[]⟩, 1⟩, by rfl, by decide, by decide⟩, by decide +kernel, by decide +kernel, by decide +kernel, by decide +kernel⟩
theorem okA6 : TickOk A6 := ⟨by decide +kernel, fun _ h => absurd (show A6.left = 0 by decide +kernel) h, by decide +kernel, by decide +kernel, by decide +kernel, by decide +kernel⟩

set_option maxRecDepth 100000 in
set_option maxHeartbeats 4000000 in
theorem awake_calls (w : World) : Calls Try.prog 9 #[] w fun e w' => e = .returned (.bool true) ∧ Below w.heap.size w w' := by
  obtain ⟨⟨f1, f2, f3⟩, ⟨f4, f5⟩, ⟨f6, f7, f8⟩, f9, f10, f11, f12⟩ := fA
  obtain ⟨⟨k1, k2, k3⟩, ⟨k4, k5, k6⟩, ⟨k7, k8, k9⟩, k10, k11⟩ := kA
  have hB0 : Below w.heap.size w (w.alloc (.cells #[.int .i64 1] 3)) := (Below.refl _ w).alloc (Nat.le_refl _) _
  have hR0 : RowI (w.alloc (.cells #[.int .i64 1] 3)) (some ⟨w.heap.size, 0, none⟩) [1] := fun j hj => ⟨w.heap.size, 0, rfl, by simp, by
    have : j = 0 := by simp at hj; omega
    subst this
    exact cell_of_heap (heap_alloc_new w _) rfl⟩
  have HN := Lib.hid (new_cz 2 [1] (some ⟨w.heap.size, 0, none⟩) 1 w _ hB0 (by decide) hR0 (by decide))
  have M1 := Lib.hid (fun wk tb h => f1 ▸ make_cz (w := w) (wk := wk) (tb := tb) (T := A0) 0 h k1 k2 k3)
  have M2 := Lib.hid (fun wk tb h => f2 ▸ make_cz (w := w) (wk := wk) (tb := tb) (T := A1) 1 h k4 k5 k6)
  have M3 := Lib.hid (fun wk tb h => f3 ▸ make_cz (w := w) (wk := wk) (tb := tb) (T := A2) 0 h k7 k8 k9)
  have M4 := Lib.hid (fun wk tb h => f4 ▸ f5 ▸ turn_cz (w := w) (wk := wk) (tb := tb) (T := A3) h k10 k11)
  have M5 := Lib.hid (fun wk tb h => f6 ▸ tick_cz (w := w) (wk := wk) (tb := tb) (T := A4) h okA4)
  have M6 := Lib.hid (fun wk tb h => f7 ▸ tick_cz (w := w) (wk := wk) (tb := tb) (T := A5) h okA5)
  have M7 := Lib.hid (fun wk tb h => f8 ▸ tick_cz (w := w) (wk := wk) (tb := tb) (T := A6) h okA6)
  have M8 : Hid (∀ wk tb, Cz w wk tb A7 → Calls Try.prog 16 #[.pointer (some ⟨tb, 0, none⟩)] wk fun e w' => ∃ A1 C1, e = .returned (.slice A1 3 C1) ∧ w'.ownsRow wk.heap.size 3 1 (.slice A1 3 C1) 3 (ints [1, 3, 2]) ∧ Below wk.heap.size wk w' ∧ Cz w w' tb A7) := Lib.hid (fun wk tb h => by
    have := ready_cz h (by rw [f9]; decide)
    rw [f9] at this
    exact this)
  have M9 := Lib.hid (fun wk tb h => f10 ▸ ticks_cz (w := w) (wk := wk) (tb := tb) (T := A7) h)
  have M10 := Lib.hid (fun wk tb h => f11 ▸ used_cz (w := w) (wk := wk) (tb := tb) (T := A7) h)
  have M11 := Lib.hid (fun wk tb h => f12 ▸ current_cz (w := w) (wk := wk) (tb := tb) (T := A7) h)
  clear hB0 hR0 f1 f2 f3 f4 f5 f6 f7 f8 f9 f10 f11 f12 k1 k2 k3 k4 k5 k6 k7 k8 k9 k10 k11
  have t1 := trivial
  have t2 := trivial
  have u1 := trivial
  have u2 := trivial
  go_enter Try.func9, Try.ntmps9
  go_wp2_with (first
    | (go_at_call 10; refine HN.out.mono ?_; rintro e wn ⟨tb, rfl, hc, _⟩; have HC := Lib.hid hc; clear hc)
    | (clear t1; go_at_call 27; refine (M1.out _ _ HC.out).mono ?_; rintro e wn ⟨rfl, hc⟩; replace HC := Lib.hid hc; clear hc)
    | (clear t2; go_at_call 27; refine (M2.out _ _ HC.out).mono ?_; rintro e wn ⟨rfl, hc⟩; replace HC := Lib.hid hc; clear hc)
    | (go_at_call 27; refine (M3.out _ _ HC.out).mono ?_; rintro e wn ⟨rfl, hc⟩; replace HC := Lib.hid hc; clear hc)
    | (go_at_call 15; refine (M4.out _ _ HC.out).mono ?_; rintro e wn ⟨rfl, hc⟩; replace HC := Lib.hid hc; clear hc)
    | (clear u1; go_at_call 18; refine (M5.out _ _ HC.out).mono ?_; rintro e wn ⟨rfl, hc⟩; replace HC := Lib.hid hc; clear hc)
    | (clear u2; go_at_call 18; refine (M6.out _ _ HC.out).mono ?_; rintro e wn ⟨rfl, hc⟩; replace HC := Lib.hid hc; clear hc)
    | (go_at_call 18; refine (M7.out _ _ HC.out).mono ?_; rintro e wn ⟨rfl, hc⟩; replace HC := Lib.hid hc; clear hc)
    | (go_at_call 16; refine (M8.out _ _ HC.out).mono ?_; rintro e wn ⟨A1, C1, rfl, ho, _, hc⟩; replace HC := Lib.hid hc; obtain ⟨g, rfl, _, _, _, r0⟩ := own_cell ho 0 (by decide); obtain ⟨g1, e1, _, _, _, r1⟩ := own_cell ho 1 (by decide); obtain ⟨g2, e2, _, _, _, r2⟩ := own_cell ho 2 (by decide); obtain rfl : g = g1 := (by simpa using e1); obtain rfl : g = g2 := (by simpa using e2); change wn.cell? ⟨g, 0, none⟩ = some (.int .i64 1) at r0; change wn.cell? ⟨g, 1, none⟩ = some (.int .i64 3) at r1; change wn.cell? ⟨g, 2, none⟩ = some (.int .i64 2) at r2; clear hc ho e1 e2)
    | (go_at_call 21; refine (M9.out _ _ HC.out).mono ?_; rintro e wn ⟨rfl, rfl⟩)
    | (go_at_call 12; refine (M10.out _ _ HC.out).mono ?_; rintro e wn ⟨rfl, rfl⟩)
    | (go_at_call 17; refine (M11.out _ _ HC.out).mono ?_; rintro e wn ⟨rfl, rfl⟩))
  go_ret
  exact ⟨rfl, HC.out.out⟩
end Go.Proofs.Ytnbjknjnpfmklaa
