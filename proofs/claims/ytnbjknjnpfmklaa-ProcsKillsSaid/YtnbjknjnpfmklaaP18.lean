/- Contracts: ends, End, Break, Wait (with the deferred over), Wake. -/
import Derived.Test.YtnbjknjnpfmklaaP17
import Derived.Defers
namespace Go.Proofs.Ytnbjknjnpfmklaa
open Go.RowKit

theorem over_deferred (T : Tb) (tb : Nat) (p : TA) (u : FrameMode) (w : World) (h : TabAt w tb p T) :
    CallsD Try.prog 35 #[.pointer (some ⟨tb, 0, none⟩)] u w fun e u' w' => u' = u ∧ (e = .returned (.tuple #[]) ∧ TabAt w' tb p (overT T) ∧ Mut (· = tb) w w') := by
  have HT := Lib.hid h
  obtain ⟨c0, c1, c2, c3, c4, c5, c6, c7, c8, hf⟩ := h.cells
  clear h
  go_enter_d Try.func35, Try.ntmps35
  go_wp2
  go_end0
  exact ⟨rfl, ((HT.out.upd 6 (.int .i64 0) { T with cur := 0 } (by unfold tabC; simp) rfl rfl rfl).upd 7 (.int .i64 0) (overT T) (by unfold tabC overT; simp) rfl rfl rfl), (Mut.setCell (S := (· = tb)) _ _ _ _ rfl).then (Mut.setCell (S := (· = tb)) _ _ _ _ rfl)⟩

def endsE (T : Tb) : Int := if T.cur = 0 then 6 else 0
def endsT (T : Tb) (st : Int) (why : ByteArray) : Tb := if T.cur = 0 then T else overT (setT T st why)
theorem ends_none (T : Tb) (tb : Nat) (p : TA) (st : Int) (why : ByteArray) (w : World) (h : TabAt w tb p T) (h0 : T.cur = 0) :
    Calls Try.prog 54 #[.pointer (some ⟨tb, 0, none⟩), .int .i64 st, .string why] w fun e w' => e = .returned (.int .i64 (endsE T)) ∧ Nx w tb p (endsT T st why) w' := by
  rw [show endsE T = 6 from if_pos h0, show endsT T st why = T from if_pos h0]
  have HT := Lib.hid h
  obtain ⟨c0, c1, c2, c3, c4, c5, c6, c7, c8, hf⟩ := h.cells
  rw [h0] at c6
  clear h
  go_enter_defers Try.func54, Try.ntmps54
  go_wp2
  all_goals (try simp only [Exit.inBlock, Exit.then])
  all_goals exact ⟨_, results_tmp rfl _ _ _, rfl, Nx.refl HT.out⟩
theorem ends_go (T : Tb) (tb : Nat) (p : TA) (st : Int) (why : ByteArray) (w : World) (h : TabAt w tb p T) (h0 : T.cur ≠ 0) (hc : CurOk T) :
    Calls Try.prog 54 #[.pointer (some ⟨tb, 0, none⟩), .int .i64 st, .string why] w fun e w' => e = .returned (.int .i64 (endsE T)) ∧ Nx w tb p (endsT T st why) w' := by
  rw [show endsE T = 0 from if_neg h0, show endsT T st why = overT (setT T st why) from if_neg h0]
  have HT := Lib.hid h
  obtain ⟨q, hq⟩ := hc h0
  have HS := Lib.hid (set_calls T tb p st why w h q hq)
  have h2 : (T.cur == 0) = false := by simpa using h0
  obtain ⟨c0, c1, c2, c3, c4, c5, c6, c7, c8, hf⟩ := h.cells
  clear h hc hq
  go_enter_defers Try.func54, Try.ntmps54
  go_wp2_with (go_at_call 53; refine HS.out.mono ?_; rintro e w2 ⟨rfl, ht, hm⟩; have HT2 := Lib.hid ht; have HM := Lib.hid hm; clear ht hm)
  (try simp only [Exit.inBlock, Exit.then])
  refine leaves_cons (f := 35) (args := #[.pointer (some ⟨tb, 0, none⟩)]) (by simp) (by simp [go_sem]) ?_
  refine (over_deferred (setT T st why) tb p .returning _ HT2.out).mono ?_
  rintro e u' w'' ⟨rfl, rfl, ht, hm⟩
  exact ⟨_, results_tmp rfl _ _ _, rfl, Nx.same ht (HM.out.then (hm.mono fun k hk => .inl (.inl hk)))⟩
theorem ends_calls (T : Tb) (tb : Nat) (p : TA) (st : Int) (why : ByteArray) (w : World) (h : TabAt w tb p T) (hc : CurOk T) :
    Calls Try.prog 54 #[.pointer (some ⟨tb, 0, none⟩), .int .i64 st, .string why] w fun e w' => e = .returned (.int .i64 (endsE T)) ∧ Nx w tb p (endsT T st why) w' := by
  by_cases h0 : T.cur = 0
  · exact ends_none T tb p st why w h h0
  · exact ends_go T tb p st why w h h0 hc
theorem end_calls (T : Tb) (tb : Nat) (p : TA) (w : World) (h : TabAt w tb p T) (hc : CurOk T) :
    Calls Try.prog 30 #[.pointer (some ⟨tb, 0, none⟩)] w fun e w' => e = .returned (.int .i64 (endsE T)) ∧ Nx w tb p (endsT T 6 ⟨#[]⟩) w' := by
  have H := Lib.hid (ends_calls T tb p 6 ⟨#[]⟩ w h hc)
  clear h hc
  go_enter Try.func30, Try.ntmps30
  go_wp2_with (go_at_call 54; refine H.out.mono ?_; rintro e w1 ⟨rfl, hb⟩; have HB := Lib.hid hb; clear hb)
  go_ret
  exact ⟨rfl, HB.out⟩
theorem break_calls (T : Tb) (tb : Nat) (p : TA) (why : ByteArray) (w : World) (h : TabAt w tb p T) (hc : CurOk T) :
    Calls Try.prog 31 #[.pointer (some ⟨tb, 0, none⟩), .string why] w fun e w' => e = .returned (.int .i64 (endsE T)) ∧ Nx w tb p (endsT T 5 why) w' := by
  have H := Lib.hid (ends_calls T tb p 5 why w h hc)
  clear h hc
  go_enter Try.func31, Try.ntmps31
  go_wp2_with (go_at_call 54; refine H.out.mono ?_; rintro e w1 ⟨rfl, hb⟩; have HB := Lib.hid hb; clear hb)
  go_ret
  exact ⟨rfl, HB.out⟩

/-- Wait. -/
def waitE (T : Tb) (st : Int) : Int := if waitsB st = false then 13 else if isB T 0 = false then 6 else 0
def waitT (T : Tb) (st : Int) : Tb := if waitE T st = 0 then overT (setT T st ⟨#[]⟩) else T
theorem wait_calls (T : Tb) (tb : Nat) (p : TA) (st : Int) (w : World) (h : TabAt w tb p T) (hc : CurOk T) :
    Calls Try.prog 28 #[.pointer (some ⟨tb, 0, none⟩), .int .i64 st] w fun e w' => e = .returned (.int .i64 (waitE T st)) ∧ Nx w tb p (waitT T st) w' := by
  have HT := Lib.hid h
  have HI := Lib.hid (fun w h => is_calls T tb p 0 w h)
  have HW := Lib.hid (fun w => waits_calls st w)
  unfold waitT waitE
  cases h1 : waitsB st with
  | false =>
    rw [if_pos rfl, if_neg (by decide)]
    rw [h1] at HW
    clear h h1 hc
    go_enter_defers Try.func28, Try.ntmps28
    go_wp2_with (go_at_call 52; refine (HW.out _).mono ?_; rintro e w1 ⟨rfl, hb⟩; have HB := Lib.hid hb; clear hb)
    all_goals (try simp only [Exit.inBlock, Exit.then])
    all_goals exact ⟨_, results_tmp rfl _ _ _, rfl, Nx.same (HT.out.below HB.out) (Mut.of_below HB.out)⟩
  | true =>
    rw [h1] at HW
    rw [if_neg (by decide)]
    cases h0 : isB T 0 with
    | false =>
      rw [if_pos rfl, if_neg (by decide)]
      rw [h0] at HI
      clear h h1 h0 hc
      go_enter_defers Try.func28, Try.ntmps28
      go_wp2_with (first
        | (go_at_call 52; refine (HW.out _).mono ?_; rintro e w1 ⟨rfl, hb⟩; have HB := Lib.hid hb; have HT1 := Lib.hid (HT.out.below hb); clear hb)
        | (go_at_call 34; refine (HI.out _ HT1.out).mono ?_; rintro e w2 ⟨rfl, hb⟩; replace HB := Lib.hid (HB.out.step2 hb); clear hb))
      all_goals (try simp only [Exit.inBlock, Exit.then])
      all_goals exact ⟨_, results_tmp rfl _ _ _, rfl, Nx.same (HT.out.below HB.out) (Mut.of_below HB.out)⟩
    | true =>
      rw [if_neg (by decide), if_pos rfl]
      rw [h0] at HI
      obtain ⟨q, hq⟩ := hc (isB_cur h0)
      have HQ := Lib.hid hq
      clear h h1 h0 hc hq
      go_enter_defers Try.func28, Try.ntmps28
      go_wp2_with (first
        | (go_at_call 52; refine (HW.out _).mono ?_; rintro e w1 ⟨rfl, hb⟩; have HB := Lib.hid hb; have HT1 := Lib.hid (HT.out.below hb); clear hb)
        | (go_at_call 34; refine (HI.out _ HT1.out).mono ?_; rintro e w2 ⟨rfl, hb⟩; replace HB := Lib.hid (HB.out.step2 hb); clear hb)
        | (go_at_call 53; refine (set_calls T tb p st _ _ (HT.out.below HB.out) q HQ.out).mono ?_; rintro e w3 ⟨rfl, ht, hm⟩; have HT2 := Lib.hid ht; have HM := Lib.hid hm; clear ht hm))
      (try simp only [Exit.inBlock, Exit.then])
      refine leaves_cons (f := 35) (args := #[.pointer (some ⟨tb, 0, none⟩)]) (by simp) (by simp [go_sem]) ?_
      refine (over_deferred _ tb p .returning _ HT2.out).mono ?_
      rintro e u' w'' ⟨rfl, rfl, ht, hm⟩
      exact ⟨_, results_tmp rfl _ _ _, rfl, Nx.same ht (((Mut.of_below HB.out).then HM.out).then (hm.mono fun k hk => .inl (.inl hk)))⟩
end Go.Proofs.Ytnbjknjnpfmklaa
