/- The law ProcsChooses. -/
import Derived.Test.YtnbjknjnpfmklaaP12
import Derived.Laws.AppendOwnNone
namespace Go.Proofs.Ytnbjknjnpfmklaa
open Go.RowKit

theorem app_list {ops : Array Oper} {rest : List Oper} {o : Oper} {a : Act} {Q : Exit → Act → World → Prop} (hgd : o.guard = none) (s x : Operand)
    (ho : o.op = .call { callee := .builtin .append, args := #[s, x], argTypes := #[22, 22] }) (W : World) (zs : List Int) (A : Option Addr) (C : Nat)
    (hs : a.eval s = .slice (some ⟨W.heap.size, 0, none⟩) 0 0) (hx : a.eval x = .slice A zs.length C) (hA : A = none → C = 0) (hr : RowI W A zs) (hl : zs.length ≤ 100000)
    (h : ∀ A1 C1 w', Hid (w'.ownsRow W.heap.size 3 1 (.slice A1 zs.length C1) zs.length (ints zs)) → Hid (Below W.heap.size W w') → wpList Try.prog ops Q rest (a.put o.dst (.slice A1 zs.length C1)) w') :
    wpList Try.prog ops Q (o :: rest) a (W.alloc (.cells #[] 3)) := by
  obtain ⟨i0, hi, hz0, hz1, hz2⟩ := info_parts info3
  have hB0 : Below W.heap.size W (W.alloc (.cells #[] 3)) := (Below.refl _ W).alloc (Nat.le_refl _) _
  have hown : (W.alloc (.cells #[] 3)).ownsRow W.heap.size 3 1 (.slice (some ⟨W.heap.size, 0, none⟩) 0 0) 0 [] := World.ownsRow_lit W #[] 0 (Nat.le_refl _) (Nat.zero_le _) rfl
  cases A with
  | none =>
    have h0 : zs = [] := by
      rcases Nat.eq_zero_or_pos zs.length with h0 | h0
      · exact List.eq_nil_of_length_eq_zero h0
      · obtain ⟨_, _, h1, _⟩ := hr 0 h0; cases h1
    subst h0
    obtain rfl := hA rfl
    exact wpList_append_own_none hgd s x 22 ho W.heap.size 3 i0 1 Try.underlying22 hi _ 0 [] hs hown hx (h _ _ _ hown hB0)
  | some ad =>
    have hgo : ∀ (ad' : Addr), ad = ad' → (∀ j u, (ints zs)[j]? = some u → (W.alloc (.cells #[] 3)).cell? (ad'.add j) = some u) → wpList Try.prog ops Q (o :: rest) a (W.alloc (.cells #[] 3)) := by
      intro ad' e hc
      subst e
      refine wpList_append_own _ hgd s x 22 ho W.heap.size 3 i0 (.int .i64 0) 1 8 Try.underlying22 hi hz0 hz1 hz2 rfl (by decide) _ 0 [] hs hown ad zs.length C (ints zs) hx (by simp [ints]) hc ?_ (by simp only [maxLen]; omega) (by omega) (by simp) ?_
      · intro u hu; obtain ⟨z, _, rfl⟩ := List.mem_map.1 hu; rfl
      · intro v w' h1 h2 _
        rw [Nat.zero_add, List.nil_append] at h1
        obtain ⟨A1, C1, rfl⟩ := own_slice h1
        exact h A1 C1 w' h1 (hB0.grown h2 (by simp) (fun k hk => by injection hk with hk; exact Nat.le_of_eq hk))
    rcases Nat.eq_zero_or_pos zs.length with h0 | h0
    · obtain rfl := List.eq_nil_of_length_eq_zero h0
      exact hgo ad rfl (fun j u hu => by simp [ints] at hu)
    · obtain ⟨g, off, e1, hg, _⟩ := hr 0 h0
      injection e1 with e1
      refine hgo ⟨g, off, none⟩ e1 (fun j u hu => ?_)
      have hj : j < zs.length := by have := (List.getElem?_eq_some_iff.1 hu).1; simpa [ints] using this
      obtain ⟨g', off', e2, hg', hc⟩ := hr j hj
      rw [e1] at e2
      injection e2 with e2
      injection e2 with e2 e3
      subst e2 e3
      rw [ints_get zs j hj] at hu
      rw [show (⟨g, off, none⟩ : Addr).add j = ⟨g, off + j, none⟩ by unfold Addr.add; split <;> simp_all, hB0.cell (p := ⟨g, off + j, none⟩) hg, hc]
      exact hu

/-- The table behind i choices. -/
def usedT (zs : List Int) (i : Nat) : Tb := { newT 1 zs with used := i }
theorem choose_at (zs : List Int) (i : Nat) (n : Int) (hn : ¬ n < 2) (hi : i < zs.length) : chooseI (usedT zs i) n = (if (zs.getD i 0).tmod n < 0 then (zs.getD i 0).tmod n + n else (zs.getD i 0).tmod n) ∧ chooseT (usedT zs i) n = usedT zs (i + 1) := by
  have h : ¬ (n < 2 ∨ (usedT zs i).s.length ≤ (usedT zs i).used) := by
    rintro (h | h)
    · exact hn h
    · exact absurd hi (Nat.not_lt.2 h)
  exact ⟨if_neg h, if_neg h⟩
theorem choose_end (zs : List Int) (n : Int) : chooseI (usedT zs zs.length) n = 0 ∧ chooseT (usedT zs zs.length) n = usedT zs zs.length := by
  have h : n < 2 ∨ (usedT zs zs.length).s.length ≤ (usedT zs zs.length).used := .inr (Nat.le_refl _)
  exact ⟨if_pos h, if_pos h⟩
theorem choose_two (zs : List Int) (n : Int) (hn : n < 2) : chooseI (newT 1 zs) n = 0 ∧ chooseT (newT 1 zs) n = newT 1 zs := ⟨if_pos (.inl hn), if_pos (.inl hn)⟩

set_option maxHeartbeats 4000000 in
theorem law_chooses_big (zs : List Int) (A : Option Addr) (C : Nat) (n : Int) (w : World) (hl : 60 < zs.length) :
    Calls Try.prog 3 #[.slice A zs.length C, .int .i64 n] w fun e w' => e = .returned (.bool true) ∧ Below w.heap.size w w' := by
  have h1 : (60 : Int) < (zs.length : Int) := by omega
  have t1 := trivial
  go_enter Try.func3, Try.ntmps3
  go_wp2_with (first
    | (clear t1; go_at_call 9; refine (awake_calls _).mono ?_; rintro e wn ⟨rfl, hb⟩; have HB := Lib.hid hb; clear hb)
    | (go_at_call 9; refine (awake_calls _).mono ?_; rintro e wn ⟨rfl, hb⟩; replace HB := Lib.hid (HB.out.step2 hb); clear hb))
  all_goals go_ret
  all_goals exact ⟨rfl, HB.out⟩

set_option maxHeartbeats 4000000 in
theorem law_chooses_two (zs : List Int) (A : Option Addr) (C : Nat) (n : Int) (w : World) (hl : ¬ 60 < zs.length) (hA : A = none → C = 0) (hr : RowI w A zs) (hn : n < 2) :
    Calls Try.prog 3 #[.slice A zs.length C, .int .i64 n] w fun e w' => e = .returned (.bool true) ∧ Below w.heap.size w w' := by
  have HR := Lib.hid hr
  have h1 : ¬ (60 : Int) < (zs.length : Int) := by omega
  have hz : zs.length ≤ 60 := by omega
  obtain ⟨q1, q2⟩ := choose_two zs n hn
  have Q1 := Lib.hid q1
  have Q2 := Lib.hid q2
  clear hr hl q1 q2
  go_enter Try.func3, Try.ntmps3
  go_wp2_with (first
    | (go_at_call 9; refine (awake_calls _).mono ?_; rintro e wn ⟨rfl, hb⟩; have HB := Lib.hid hb; clear hb)
    | (at_builtin; refine app_list rfl _ _ rfl _ zs A C rfl rfl hA (HR.out.below HB.out) (by omega) ?_; intro A1 C1 w2 ho hb; replace HB := Lib.hid (HB.out.step2 hb.out); have HO := Lib.hid ho.out; clear ho hb)
    | (go_at_call 10; refine (new_cz 1 zs A1 C1 w _ HB.out (by decide) (RowI.of_own HO.out) (by omega)).mono ?_; rintro e wn ⟨tb, rfl, hc, _⟩; have HC := Lib.hid hc; clear hc)
    | (go_at_call 11; refine (choose_cz n HC.out (by omega) (show zs.length ≤ 100000 by omega)).mono ?_; rintro e wn ⟨rfl, hc⟩; rw [Q2.out] at hc; rw [Q1.out]; replace HC := Lib.hid hc; clear hc)
    | (go_at_call 12; refine (used_cz HC.out).mono ?_; rintro e wn ⟨rfl, rfl⟩; rw [show ((newT 1 zs).used : Int) = 0 from rfl]))
  all_goals go_ret
  all_goals exact ⟨rfl, HC.out.out⟩
end Go.Proofs.Ytnbjknjnpfmklaa
