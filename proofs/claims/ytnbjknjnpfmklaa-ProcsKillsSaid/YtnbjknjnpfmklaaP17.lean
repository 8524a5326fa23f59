/- Contracts: set, turned, Call, Answer, waits. -/
import Derived.Test.YtnbjknjnpfmklaaP12
namespace Go.Proofs.Ytnbjknjnpfmklaa
open Go.RowKit

def setT (T : Tb) (st : Int) (why : ByteArray) : Tb := { T with P := setP T.P T.cur (fun p => { p with state := st, why := why }) }
set_option maxHeartbeats 4000000 in
theorem set_calls (T : Tb) (tb : Nat) (p : TA) (st : Int) (why : ByteArray) (w : World) (h : TabAt w tb p T) (q : Pr) (hq : prAt T.P T.cur = some q) :
    Calls Try.prog 53 #[.pointer (some ⟨tb, 0, none⟩), .int .i64 st, .string why] w fun e w' => e = .returned (.tuple #[]) ∧ TabAt w' tb p (setT T st why) ∧ Mut (p.fp tb) w w' := by
  have HPUT := Lib.hid (put_setP hq (fun p => { p with state := st, why := why }))
  have HT := Lib.hid h
  have hqd : prD T.P T.cur = q := by unfold prD; rw [hq]; rfl
  obtain ⟨c0, c1, c2, c3, c4, c5, c6, c7, c8, hf⟩ := h.cells
  have hlt := h.lt
  have hk1 := (h.below (Below.refl _ w).drew).look T.cur
  have hk2 := (h.below ((Below.refl _ w).alloc (Nat.le_refl _) (.cells #[.int .i64 0, .int .i64 0, .int .i64 0, .string ⟨#[]⟩, .int .i64 0] 45)).drew).look T.cur
  rw [hqd] at hk1 hk2
  unfold setT
  clear h hq hqd
  generalize setP T.P T.cur (fun p => { p with state := st, why := why }) = P' at *
  obtain ⟨q0, q1, q2, q3, q4⟩ := q
  simp only at HPUT hk1 hk2
  go_enter Try.func53, Try.ntmps53
  go_wp2
  go_region
  all_goals go_wp2
  all_goals obtain ⟨w2, hrun, hm, hg⟩ := upd_run (HT.out.below ((Below.refl _ w).alloc (Nat.le_refl _) (.cells #[.int .i64 q0, .int .i64 q1, .int .i64 st, .string why, .int .i64 q4] 45)).drew.drew).map T.cur ⟨q0, q1, st, why, q4⟩
  all_goals rw [HPUT.out] at hm
  all_goals simp only [prV] at hrun
  all_goals have HM := Lib.hid hm
  all_goals have HG := Lib.hid hg
  all_goals have HT2 := Lib.hid (HT.out.below ((Below.refl _ w).alloc (Nat.le_refl _) (.cells #[.int .i64 q0, .int .i64 q1, .int .i64 st, .string why, .int .i64 q4] 45)).drew.drew)
  all_goals clear hm hg
  all_goals go_region
  all_goals go_end0
  all_goals exact ⟨rfl, HT2.out.store P' HM.out (mut_map HG.out), (Mut.of_below ((Below.refl _ w).alloc (Nat.le_refl _) (.cells #[.int .i64 q0, .int .i64 q1, .int .i64 st, .string why, .int .i64 q4] 45)).drew.drew).then ((mut_map HG.out).mono fun k hk => .inl (.inr (.inl hk)))⟩

/-- turned, Call, Answer. -/
def turnedE (T : Tb) (a : Int) : Int := if isB T a = true then 0 else 6
def turnedT (T : Tb) (a b : Int) : Tb := if isB T a = true then setT T b ⟨#[]⟩ else T
def CurOk (T : Tb) : Prop := T.cur ≠ 0 → ∃ q, prAt T.P T.cur = some q
theorem isB_cur {T : Tb} {st : Int} (h : isB T st = true) : T.cur ≠ 0 := by
  unfold isB at h
  simp at h
  exact h.1
theorem turned_calls (T : Tb) (tb : Nat) (p : TA) (a b : Int) (w : World) (h : TabAt w tb p T) (hc : CurOk T) :
    Calls Try.prog 36 #[.pointer (some ⟨tb, 0, none⟩), .int .i64 a, .int .i64 b] w fun e w' => e = .returned (.int .i64 (turnedE T a)) ∧ Nx w tb p (turnedT T a b) w' := by
  have HT := Lib.hid h
  have HI := Lib.hid (is_calls T tb p a w h)
  unfold turnedE turnedT
  cases h0 : isB T a with
  | false =>
    rw [h0] at HI
    rw [if_neg (by simp), if_neg (by simp)]
    clear h h0 hc
    go_enter Try.func36, Try.ntmps36
    go_wp2_with (go_at_call 34; refine HI.out.mono ?_; rintro e w1 ⟨rfl, hb⟩; have HB := Lib.hid hb; clear hb)
    go_ret
    exact ⟨rfl, Nx.same (HT.out.below HB.out) (Mut.of_below HB.out)⟩
  | true =>
    rw [h0] at HI
    rw [if_pos rfl, if_pos rfl]
    obtain ⟨q, hq⟩ := hc (isB_cur h0)
    have HQ := Lib.hid hq
    clear h h0 hc hq
    go_enter Try.func36, Try.ntmps36
    go_wp2_with (first
      | (go_at_call 34; refine HI.out.mono ?_; rintro e w1 ⟨rfl, hb⟩; have HB := Lib.hid hb; clear hb)
      | (go_at_call 53; refine (set_calls T tb p b _ _ (HT.out.below HB.out) q HQ.out).mono ?_; rintro e w2 ⟨rfl, ht, hm⟩; have HT2 := Lib.hid ht; have HM := Lib.hid hm; clear ht hm))
    go_ret
    exact ⟨rfl, Nx.same HT2.out ((Mut.of_below HB.out).then HM.out)⟩
theorem call_calls (T : Tb) (tb : Nat) (p : TA) (w : World) (h : TabAt w tb p T) (hc : CurOk T) :
    Calls Try.prog 19 #[.pointer (some ⟨tb, 0, none⟩)] w fun e w' => e = .returned (.int .i64 (turnedE T 0)) ∧ Nx w tb p (turnedT T 0 4) w' := by
  have H := Lib.hid (turned_calls T tb p 0 4 w h hc)
  clear h hc
  go_enter Try.func19, Try.ntmps19
  go_wp2_with (go_at_call 36; refine H.out.mono ?_; rintro e w1 ⟨rfl, hb⟩; have HB := Lib.hid hb; clear hb)
  go_ret
  exact ⟨rfl, HB.out⟩
theorem answer_calls (T : Tb) (tb : Nat) (p : TA) (w : World) (h : TabAt w tb p T) (hc : CurOk T) :
    Calls Try.prog 20 #[.pointer (some ⟨tb, 0, none⟩)] w fun e w' => e = .returned (.int .i64 (turnedE T 4)) ∧ Nx w tb p (turnedT T 4 0) w' := by
  have H := Lib.hid (turned_calls T tb p 4 0 w h hc)
  clear h hc
  go_enter Try.func20, Try.ntmps20
  go_wp2_with (go_at_call 36; refine H.out.mono ?_; rintro e w1 ⟨rfl, hb⟩; have HB := Lib.hid hb; clear hb)
  go_ret
  exact ⟨rfl, HB.out⟩
/-- waits. -/
def waitsB (s : Int) : Bool := s == 1 || s == 2 || s == 3
theorem waits_calls (s : Int) (w : World) : Calls Try.prog 52 #[.int .i64 s] w fun e w' => e = .returned (.bool (waitsB s)) ∧ Below w.heap.size w w' := by
  by_cases h : 0 ≤ s ∧ s < 16
  · obtain ⟨h1, h2⟩ := h
    rcases (by omega : s = 0 ∨ s = 1 ∨ s = 2 ∨ s = 3 ∨ s = 4 ∨ s = 5 ∨ s = 6 ∨ s = 7 ∨ s = 8 ∨ s = 9 ∨ s = 10 ∨ s = 11 ∨ s = 12 ∨ s = 13 ∨ s = 14 ∨ s = 15) with rfl | rfl | rfl | rfl | rfl | rfl | rfl | rfl | rfl | rfl | rfl | rfl | rfl | rfl | rfl | rfl
    all_goals clear h1 h2
    all_goals go_enter Try.func52, Try.ntmps52
    all_goals go_wp2
    all_goals go_ret
    all_goals exact ⟨rfl, Below.refl _ _⟩
  · have e1 : waitsB s = false := by unfold waitsB; simp; omega
    rw [e1]
    by_cases h1 : 0 ≤ s
    · have h2 : ¬ s < 16 := fun h2 => h ⟨h1, h2⟩
      clear h
      go_enter Try.func52, Try.ntmps52
      go_wp2
      all_goals go_ret
      all_goals exact ⟨rfl, Below.refl _ _⟩
    · clear h
      go_enter Try.func52, Try.ntmps52
      go_wp2
      all_goals go_ret
      all_goals exact ⟨rfl, Below.refl _ _⟩
end Go.Proofs.Ytnbjknjnpfmklaa
