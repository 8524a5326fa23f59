/- Contract of the law's played. -/
import Derived.Test.YtnbjknjnpfmklaaP41
import Derived.Test.YtnbjknjnpfmklaaP14
namespace Go.Proofs.Ytnbjknjnpfmklaa
open Go.RowKit

/-- append of a list that came in to an empty one of the call's own, in a region that draws. -/
theorem step_app_list {ops : Array Oper} {o : Oper} {a : Act} {K : Act → World → Prop} {Q : Exit → Act → World → Prop} {E : Prop} {W : World} (hgd : o.guard = none) (s x : Operand)
    (ho : o.op = .call { callee := .builtin .append, args := #[s, x], argTypes := #[22, 22] }) (B g : Nat) (zs : List Int) (A : Option Addr) (C : Nat)
    (hs : a.eval s = .slice (some ⟨g, 0, none⟩) 0 0) (hown : W.ownsRow B 3 1 (.slice (some ⟨g, 0, none⟩) 0 0) 0 []) (hB : B ≤ W.heap.size) (hx : a.eval x = .slice A zs.length C) (hA : A = none → C = 0) (hr : RowI W A zs) (hl : zs.length ≤ 100000)
    (h : ∀ A1 C1 w', Hid (w'.ownsRow B 3 1 (.slice A1 zs.length C1) zs.length (ints zs)) → Hid (W.grownBy w' (some g)) → K (a.put o.dst (.slice A1 zs.length C1)) w') :
    if Region.wanted o (yielded ops a.tmps) = true then Oper.wp Try.prog o a W K Q else E := by
  have hw : Region.wanted o (yielded ops a.tmps) = true := by simp [Region.wanted, hgd]
  rw [if_pos hw]
  obtain ⟨i0, hi, hz0, hz1, hz2⟩ := info_parts info3
  cases A with
  | none =>
    have h0 : zs = [] := by
      rcases Nat.eq_zero_or_pos zs.length with h0 | h0
      · exact List.eq_nil_of_length_eq_zero h0
      · obtain ⟨_, _, h1, _⟩ := hr 0 h0; cases h1
    subst h0
    obtain rfl := hA rfl
    have hrun := run_append_owned_none (P := Try.prog) (w := W) B 22 o.type 3 i0 1 Try.underlying22 hi _ 0 [] hown
    have hK := h (some ⟨g, 0, none⟩) 0 W hown ⟨rfl, rfl, rfl, Nat.le_refl _, fun _ _ _ => rfl⟩
    unfold Oper.wp
    have hx' : a.eval x = .slice none 0 0 := hx
    simp [execOp, ho, resolve, invoke, builtin, hs, hx', hrun, Result.andThen]
    exact hK
  | some ad =>
    have hgo : ∀ (ad' : Addr), ad = ad' → (∀ j u, (ints zs)[j]? = some u → W.cell? (ad'.add j) = some u) → Oper.wp Try.prog o a W K Q := by
      intro ad' e hc
      subst e
      refine wp_append_own _ s x 22 ho B 3 i0 (.int .i64 0) 1 8 Try.underlying22 hi hz0 hz1 hz2 rfl (by decide) _ 0 [] hs hown ad zs.length C (ints zs) hx (by simp [ints]) hc ?_ (by simp only [maxLen]; omega) (by omega) hB ?_
      · intro u hu; obtain ⟨z, _, rfl⟩ := List.mem_map.1 hu; rfl
      · intro v w' h1 h2 _
        rw [Nat.zero_add, List.nil_append] at h1
        obtain ⟨A1, C1, rfl⟩ := own_slice h1
        exact h A1 C1 w' h1 h2
    rcases Nat.eq_zero_or_pos zs.length with h0 | h0
    · obtain rfl := List.eq_nil_of_length_eq_zero h0
      exact hgo ad rfl (fun j u hu => by simp [ints] at hu)
    · obtain ⟨g, off, e1, hg, _⟩ := hr 0 h0
      injection e1 with e1
      refine hgo ⟨g, off, none⟩ e1 (fun j u hu => ?_)
      have hj : j < zs.length := by have := (List.getElem?_eq_some_iff.1 hu).1; simpa [ints] using this
      obtain ⟨g', off', e2, hg', hc⟩ := hr j hj
      rw [e1] at e2
      injection e2 with e2
      injection e2 with e2 e3
      subst e2 e3
      rw [ints_get zs j hj] at hu
      rw [show (⟨g, off, none⟩ : Addr).add j = ⟨g, off + j, none⟩ by unfold Addr.add; split <;> simp_all, hc]
      exact hu

/-- Behind these calls. -/
def playN (T : Tb) (l : List Ac) : Tb := l.foldl (fun T a => actT T (a.what.tmod 12) a.n a.text) T
theorem playN_snoc (T : Tb) (l : List Ac) (j : Nat) (hj : j < l.length) : playN T (l.take (j + 1)) = actT (playN T (l.take j)) ((l[j]'hj).what.tmod 12) (l[j]'hj).n (l[j]'hj).text := by
  unfold playN
  rw [List.take_add_one, List.getElem?_eq_getElem hj, List.foldl_append]
  rfl
theorem Fit.playTake {q : Int} {s : List Int} {T : Tb} (f : Fit 0 q s T) (l : List Ac) (j : Nat) : j ≤ l.length → Fit j q s (playN T (l.take j)) := by
  induction j with
  | zero => intro _; exact f
  | succ j ih =>
    intro hj
    rw [playN_snoc T l j (by omega)]
    exact (ih (by omega)).act _ _ _
theorem Fit.play {q : Int} {s : List Int} {T : Tb} (f : Fit 0 q s T) (l : List Ac) : Fit l.length q s (playN T l) := by
  have := f.playTake l l.length (Nat.le_refl _)
  rwa [List.take_length] at this
/-- What came in as calls. -/
structure ActsOk (l : List Ac) : Prop where
  w0 : ∀ (j : Nat) (h : j < l.length), 0 ≤ (l[j]'h).what
  n1 : ∀ (j : Nat) (h : j < l.length), (l[j]'h).n ≤ 9223372036854775807
theorem act_calls {w wk : World} {tb m : Nat} {T : Tb} {N : Nat} {q : Int} {s : List Int} (B : Both w wk tb m (fun _ _ => False) T T) (a : ActOk N q s T) (k n : Int) (t : ByteArray) (h0 : 0 ≤ k) (hn : n ≤ 9223372036854775807) :
    Calls Try.prog 25 #[.pointer (some ⟨tb, 0, none⟩), .pointer (some ⟨m, 0, none⟩), .agg #[.int .u8 k, .int .i64 n, .string t]] wk fun e w' => e = .returned (.bool true) ∧ Both w w' tb m (fun _ _ => False) (actT T (k.tmod 12) n t) (actT T (k.tmod 12) n t) := by
  have h1 : 0 ≤ k.tmod 12 := Int.tmod_nonneg 12 h0
  have h2 := Int.tmod_lt_of_pos k (show (0 : Int) < 12 by omega)
  obtain h | h | h | h | h | h | h | h | h | h | h | h : k.tmod 12 = 0 ∨ k.tmod 12 = 1 ∨ k.tmod 12 = 2 ∨ k.tmod 12 = 3 ∨ k.tmod 12 = 4 ∨ k.tmod 12 = 5 ∨ k.tmod 12 = 6 ∨ k.tmod 12 = 7 ∨ k.tmod 12 = 8 ∨ k.tmod 12 = 9 ∨ k.tmod 12 = 10 ∨ k.tmod 12 = 11 := by omega
  · rw [h]; exact act_0 B a k n t hn h
  · rw [h]; exact act_1 B a k n t hn h
  · rw [h]; exact act_2 B a k n t hn h
  · rw [h]; exact act_3 B a k n t hn h
  · rw [h]; exact act_4 B a k n t hn h
  · rw [h]; exact act_5 B a k n t hn h
  · rw [h]; exact act_6 B a k n t hn h
  · rw [h]; exact act_7 B a k n t hn h
  · rw [h]; exact act_8 B a k n t hn h
  · rw [h]; exact act_9 B a k n t h
  · rw [h]; exact act_10 B a k n t h
  · rw [h]; exact act_11 B a k n t hn h
/-- A new table of the reference. -/
theorem RefAt.new {w : World} {A : Option Addr} {C : Nat} {q : Int} {zs : List Int} (hr : RowI w A zs) (hs : ∀ a, A = some a → a.block < w.heap.size) : RefAt (w.alloc (.cells #[.int .i64 q, .int .i64 0, .int .i64 0, .int .i64 0, .int .i64 0, .slice A zs.length C, .slice none 0 0, .slice none 0 0] 49)) w.heap.size ⟨A, C, none, 0, none, 0⟩ 0 (newT q zs) where
  blk := heap_alloc_new w _
  scr := hr.below ((Below.refl _ _).alloc (Nat.le_refl _) _)
  lst := World.ownsRow_nil _ _ _ _
  prs := World.ownsRow_nil _ _ _ _
  nl := fun _ h => by cases h
  np := fun _ h => by cases h
  lp := fun _ _ h => by cases h
  ns := fun a ha hk => by
    have := hs a ha
    rcases hk with h | ⟨b, hb, _⟩ | ⟨b, hb, _⟩
    · omega
    · cases hb
    · cases hb
  sl := fun a ha => by have := hs a ha; simp; omega

theorem new_both {w w3 : World} {tb : Nat} {p : TA} {q : Int} {zs : List Int} {A : Option Addr} {C : Nat} (ht : TabAt w3 tb p (newT q zs)) (hr : RowI w3 A zs) (hA : ∀ a, A = some a → a.block < w.heap.size) (hB : Below w.heap.size w w3) (hf : ∀ k, p.fp tb k → w.heap.size ≤ k) :
    Both w (w3.alloc (.cells #[.int .i64 q, .int .i64 0, .int .i64 0, .int .i64 0, .int .i64 0, .slice A zs.length C, .slice none 0 0, .slice none 0 0] 49)) tb w3.heap.size (fun _ _ => False) (newT q zs) (newT q zs) := by
  have hsz := hB.size
  have hrf : ∀ k, RA.fp w3.heap.size ⟨A, C, none, 0, none, 0⟩ k → k = w3.heap.size := fun k hk => by
    rcases hk with h | ⟨b, hb, _⟩ | ⟨b, hb, _⟩
    · exact h
    · cases hb
    · cases hb
  exact ⟨p, ⟨A, C, none, 0, none, 0⟩, 0, ht.below ((Below.refl _ _).alloc (Nat.le_refl _) _), RefAt.new hr (fun a ha => Nat.lt_of_lt_of_le (hA a ha) hsz), fun h => absurd rfl h, hB.alloc hsz _, hf, fun k hk => by rw [hrf k hk]; exact hsz, fun k hk hr => by have := ht.fp_lt k hk; rw [hrf k hr] at this; exact absurd this (Nat.lt_irrefl _), fun a ha hr => by have := ht.sl a ha; rw [hrf _ hr] at this; exact absurd this (Nat.lt_irrefl _), hA, fun _ _ h => h.elim⟩

set_option maxRecDepth 100000 in
set_option maxHeartbeats 4000000 in
theorem played_calls (q : Int) (A lA : Option Addr) (C lC : Nat) (zs : List Int) (l : List Ac) (w : World) (hq2 : q ≤ 9223372036854775807) (hA : A = none → C = 0) (hr : RowI w A zs) (hAl : ∀ a, A = some a → a.block < w.heap.size) (hl : ActsAt w lA l) (hz : zs.length ≤ 60) (hll : l.length ≤ 200) (hact : ActsOk l) :
    Calls Try.prog 14 #[.agg #[.int .i64 q, .slice A zs.length C], .slice lA l.length lC] w fun e w' => ∃ tb, e = .returned (.pointer (some ⟨tb, 0, none⟩)) ∧ Cz w w' tb (playN (newT (max q 1) zs) l) := by
  have HR := Lib.hid hr
  have HL := Lib.hid hl
  have HAL := Lib.hid hAl
  have HQ1 : Hid (¬ max q 1 < 1) := Lib.hid (by omega)
  have HACT := Lib.hid hact
  have HPL : Hid (∀ j, j ≤ l.length → ActOk j (max q 1) zs (playN (newT (max q 1) zs) (l.take j))) := Lib.hid (fun j hj => ⟨(Fit.new (max q 1) zs (by omega)).playTake l j hj, by omega, by omega, by omega⟩)
  clear hr hl hAl hact
  go_enter Try.func14, Try.ntmps14
  have HOWN : Hid (((w.alloc (.cells #[.int .i64 q, .slice A zs.length C] 32)).alloc (.cells #[] 3)).drew.ownsRow (w.heap.size + 1) 3 1 (.slice (some ⟨w.heap.size + 1, 0, none⟩) 0 0) 0 []) := Lib.hid (by
    have h1 := World.ownsRow_lit (e := 3) (size := 1) (w.alloc (.cells #[.int .i64 q, .slice A zs.length C] 32)) #[] 0 (Nat.le_refl _) (Nat.zero_le _) rfl
    rw [show (w.alloc (.cells #[.int .i64 q, .slice A zs.length C] 32)).heap.size = w.heap.size + 1 by simp] at h1
    exact h1)
  go_wp2
  have r0 : (w.alloc (.cells #[.int .i64 q, .slice A zs.length C] 32)).cell? ⟨w.heap.size, 0, none⟩ = some (.int .i64 q) := cell_of_heap (heap_alloc_new w _) rfl
  have r1 : (w.alloc (.cells #[.int .i64 q, .slice A zs.length C] 32)).cell? ⟨w.heap.size, 1, none⟩ = some (.slice A zs.length C) := cell_of_heap (heap_alloc_new w _) rfl
  have HBW : Hid (Below w.heap.size w (w.alloc (.cells #[.int .i64 q, .slice A zs.length C] 32))) := Lib.hid ((Below.refl _ w).alloc (Nat.le_refl _) _)
  have HB0 : Hid (Below (w.alloc (.cells #[.int .i64 q, .slice A zs.length C] 32)).heap.size (w.alloc (.cells #[.int .i64 q, .slice A zs.length C] 32)) (w.alloc (.cells #[.int .i64 q, .slice A zs.length C] 32))) := Lib.hid (Below.refl _ _)
  go_region_held3 (fun w' => w'.cell? ⟨w.heap.size, 0, none⟩ = some (.int .i64 q) ∧ w'.cell? ⟨w.heap.size, 1, none⟩ = some (.slice A zs.length C) ∧ Hid (Below (w.alloc (.cells #[.int .i64 q, .slice A zs.length C] 32)).heap.size (w.alloc (.cells #[.int .i64 q, .slice A zs.length C] 32)) w'))
    (((try go_split_ands); (repeat' apply And.intro) <;> first | assumption | exact Lib.hid (Below.drew (Hid.out (by assumption))) | exact Lib.hid (Below.alloc (Hid.out (by assumption)) (by first | (simp; done) | (simp only [heap_al, heap_dr, Array.size_push]; omega)) _) | go_keep))
    (first
    | (refine step_app_list rfl _ _ rfl _ _ zs A C rfl HOWN.out (by simp) rfl hA (HR.out.below (show Below w.heap.size w _ by repeat (first | exact Below.refl _ _ | exact Nat.le_refl _ | (simp only [heap_al, heap_dr, Array.size_push]; omega) | refine Below.alloc ?_ ?_ _ | refine Below.drew ?_))) (by omega) ?_; intro A1 C1 w2 ho hg; have HO := Lib.hid ho.out; have HB2 : Hid (Below (w.alloc (.cells #[.int .i64 q, .slice A zs.length C] 32)).heap.size (w.alloc (.cells #[.int .i64 q, .slice A zs.length C] 32)) w2) := Lib.hid (Below.grown (((Below.refl _ _).alloc (Nat.le_refl _) (.cells #[] 3)).drew) hg.out (by simp) (fun k hk => by injection hk with hk; subst hk; simp)); clear ho hg r0 r1; have r0 : w2.cell? ⟨w.heap.size, 0, none⟩ = some (.int .i64 q) := (HB2.out.cell (p := ⟨w.heap.size, 0, none⟩) (by simp)).trans (cell_of_heap (heap_alloc_new w _) rfl); have r1 : w2.cell? ⟨w.heap.size, 1, none⟩ = some (.slice A zs.length C) := (HB2.out.cell (p := ⟨w.heap.size, 1, none⟩) (by simp)).trans (cell_of_heap (heap_alloc_new w _) rfl))
    | (go_at_call 10; refine (new_calls (max q 1) zs A1 C1 _ (by have := HQ1.out; omega) (RowI.of_own HO.out) (by omega)).mono ?_; rintro e w3 ⟨tb, p, rfl, ht, hf1, hf2, hb⟩; have HT := Lib.hid ht; have HF1 := Lib.hid hf1; have HF2 := Lib.hid hf2; have HB3 := Lib.hid (HB2.out.step2 hb); clear ht hf1 hf2 hb r0 r1; have r0 : w3.cell? ⟨w.heap.size, 0, none⟩ = some (.int .i64 q) := (HB3.out.cell (p := ⟨w.heap.size, 0, none⟩) (by simp)).trans (cell_of_heap (heap_alloc_new w _) rfl); have r1 : w3.cell? ⟨w.heap.size, 1, none⟩ = some (.slice A zs.length C) := (HB3.out.cell (p := ⟨w.heap.size, 1, none⟩) (by simp)).trans (cell_of_heap (heap_alloc_new w _) rfl)))
  all_goals go_wp2
  all_goals (try go_split_ands)
  all_goals have HX := Lib.hid (new_both HT.out (HR.out.below (HBW.out.step2 HB3.out)) HAL.out (HBW.out.step2 HB3.out) (fun k hk => Nat.le_trans (Nat.le_trans HBW.out.size HB2.out.size) (HF1.out k hk)) (A := A) (C := C))
  all_goals clear r0 r1 HB3 HB2 HO HF1 HF2 HT HOWN HBW HB0
  all_goals (
    go_loopw [8] (fun i wr => ∃ j : Nat, j ≤ l.length ∧ i = .int .i64 j ∧ Hid (Both w wr tb w3.heap.size (fun _ _ => False) (playN (newT (max q 1) zs) (l.take j)) (playN (newT (max q 1) zs) (l.take j)))) (fun i _ => l.length - (intOf i).toNat)
    case atStart => exact ⟨0, by omega, rfl, HX⟩
    case round =>
      obtain ⟨j, hj, rfl, hB⟩ := hrel
      by_cases hlt : j < l.length
      · obtain ⟨b, o, rfl, hb, k0, k1, k2⟩ := HL.out.below hB.out.out j hlt
        have HSN := Lib.hid (playN_snoc (newT (max q 1) zs) l j hlt)
        have HOK := Lib.hid (HPL.out j hj)
        have HW0 := Lib.hid (HACT.out.w0 j hlt)
        have HN1 := Lib.hid (HACT.out.n1 j hlt)
        obtain ⟨T2, hT2⟩ : ∃ T2, T2 = playN (newT (max q 1) zs) (l.take (j + 1)) := ⟨_, rfl⟩
        rw [← hT2] at HSN
        have HT2 := Lib.hid hT2
        clear hT2
        generalize (l[j]'hlt).what = kw at *
        generalize (l[j]'hlt).n = kn at *
        generalize (l[j]'hlt).text = kt at *
        generalize playN (newT (max q 1) zs) (l.take j) = T1 at *
        have j0 : (0 : Int) ≤ (j : Int) := by omega
        have j1 : (j : Int) < (l.length : Int) := by omega
        go_wp2_with (go_at_call 25; refine (act_calls hB.out HOK.out kw kn kt HW0.out HN1.out).mono ?_; rintro e w4 ⟨rfl, hb4⟩; have HB4 := Lib.hid hb4; clear hb4)
        go_roundw
        case rel =>
          refine ⟨j + 1, by omega, by go_num, ?_⟩
          rw [← HT2.out, HSN.out]
          exact HB4
        case measure => simp [intOf]; omega
      · obtain rfl : j = l.length := by omega
        go_wp2
        go_ret
        rw [List.take_length] at hB
        exact ⟨tb, rfl, hB.out.cz⟩)
end Go.Proofs.Ytnbjknjnpfmklaa
