/- A range over a bound method: the law for a caller whose body goes on in every round; an iterator that gives a list. -/
import Derived.Test.YtodfpclekihbhaaH0
import Derived.RangeFuncNested
import Derived.RangeFuncBound
import Derived.RangeFuncCalls
import Derived.RangeFuncLeaves
namespace Go.Proofs.Ytodfpclekihbhaa
open Go.RowKit

/-- J abides new blocks. -/
def Stable (J : Nat → World → Prop) : Prop := ∀ j A B, J j A → Below A.heap.size A B → J j B
/-- Called with a yield, a function calls it at each of xs, in order, as long as the rounds keep what it reads. -/
def Gives (F : Fence) (n : Nat) (P : Program) (gf : Nat) (bs : Array Value) (xs : List Value) (Rd : World → Prop) : Prop :=
  ∀ (l : Nat) (J : Nat → World → Prop) (W : World), Stable J → (∀ j W1, J j W1 → Rd W1) →
    (∀ j W1, J j W1 → (h : j < xs.length) → YieldAt F (n - 1) P l #[xs[j]'h] W1 fun e W' => e = .returned (.bool true) ∧ J (j + 1) W') →
    J 0 W → CallsIn F n P gf (bs ++ #[.func (.yield l) #[] #[]]) W fun e W' => (∃ v, e = .returned v) ∧ J xs.length W'
/-- The body goes on. -/
def goesOn (B : Nat) (I : World → Prop) (W : World) : Exit → Act → World → Prop
  | .normal, _, W' => KeepsFrom B W W' ∧ I W'
  | _, _, _ => False

theorem wpIn_range_met {F : Fence} {n : Nat} {P : Program} {g : Operand} {p : Tmp} {assign body : Code} {Q : Exit → Act → World → Prop} {a : Act} {w : World}
    (hro : F.round = none) (h1 : 1 ≤ n) {gf : Nat} {bs : Array Value} (hg : a.eval g = .func (.func gf) bs #[]) (hFg : F.fn gf) (eg : ∀ args w, (callFunc gf args).run P w = .ok (.enter gf args) w)
    {xs : List Value} {Rd : World → Prop} (hseq : Gives F (n - 1) P gf bs xs Rd)
    (I : Nat → World → Prop) (hI : Stable I) (hI2 : ∀ j W l o o', I j W → w.heap.size ≤ l → W.heap[l]? = some o → o.isCells = false → I j (W.putObj l o')) (hrd : ∀ j W, I j W → Rd W) (h0 : I 0 w) (a₁ : Value → Act)
    (hassign : ∀ (l : Nat) (x : Value) (W : World) (K : Act → World → Prop), K (a₁ x) W →
      assign.wpIn (F.inRound l) (n - 1 - 1) P (Exit.then K (fun _ _ _ => False)) { tmps := a.tmps.setIfInBounds p x, defers := [] } W)
    (hbody : ∀ (l j : Nat) (h : j < xs.length) (W : World), I j W → body.wpIn (F.inRound l) (n - 1 - 1) P (goesOn w.heap.size (I (j + 1)) W) (a₁ (xs[j]'h)) W)
    (hdone : ∀ (D : Nat) (W : World), w.heap.size ≤ D → I xs.length W → W.heap[D]? = some (.deferred (some [])) → Q .normal { a with defers := { target := .collected D, args := #[] } :: a.defers } W) :
    (Code.rangeFunc g #[p] assign body).wpIn F n P Q a w := by
  refine wpIn_rangeFunc ?_
  intro fn hfn
  rw [hro]
  have hk : ∃ rk : LoopState → Loop, rk = fun st => { state := st, pending := none, fn, tmps := a.tmps, params := #[p], assign, body, defers := w.heap.size } := ⟨_, rfl⟩
  obtain ⟨rk, hrk⟩ := hk
  have hw1 : ∃ V, V = (w.alloc (.deferred (some []))).alloc (.loop (rk .ready)) := ⟨_, rfl⟩
  obtain ⟨V, hV⟩ := hw1
  have s1 : (w.alloc (.deferred (some []))).heap.size = w.heap.size + 1 := World.size_alloc _ _
  have bV : Below w.heap.size w V := by rw [hV]; exact ((Below.refl _ w).alloc (Nat.le_refl _) _).alloc (by rw [s1]; omega) _
  have l1 : V.heap[w.heap.size + 1]? = some (.loop (rk .ready)) := by rw [hV, ← s1]; exact World.alloc_heap_new _ _
  have d1 : V.heap[w.heap.size]? = some (.deferred (some [])) := by rw [hV]; exact (Below.heap_alloc _ _ _ (by rw [s1]; omega)).trans (World.alloc_heap_new w _)
  refine ⟨w.heap.size + 1, [{ target := .collected w.heap.size, args := #[] }], V, { target := .fn (.func gf) #[], args := bs ++ #[.func (.yield (w.heap.size + 1)) #[] #[]] }, V, gf, bs ++ #[.func (.yield (w.heap.size + 1)) #[] #[]], V, ?_, ?_, ?_, ?_, fun _ => h1, ?_⟩
  · rw [hV, hrk]; exact run_enterLoop_outer _ _ _ _ _
  · simp only [resolve, hg]
    simp [go_sem]
  · intro f' hf'; simp [Target.leads] at hf'; subst hf'; exact hFg
  · simp [invoke, go_sem, eg]
  · have hst : Stable fun j W => I j W ∧ W.heap[w.heap.size + 1]? = some (.loop (rk .ready)) ∧ W.heap[w.heap.size]? = some (.deferred (some [])) := fun j A B h hb =>
      ⟨hI j A B h.1 hb, (hb.block _ (Array.getElem?_eq_some_iff.1 h.2.1).1).trans h.2.1, (hb.block _ (Array.getElem?_eq_some_iff.1 h.2.2).1).trans h.2.2⟩
    refine (hseq (w.heap.size + 1) _ V hst (fun j W h => hrd j W h.1) ?_ ⟨hI 0 w V h0 bV, l1, d1⟩).mono ?_
    · rintro j W ⟨hi, hl, hd⟩ hj
      have hlt : w.heap.size + 1 < W.heap.size := (Array.getElem?_eq_some_iff.1 hl).1
      have hy := run_yield (P := P) (args := #[xs[j]'hj]) hl (by rw [hrk]; rfl)
      rw [hrk] at hy
      refine ⟨fn, a.tmps.setIfInBounds p (xs[j]'hj), assign, body, by simpa using hy, roundIn_of_wpIn hfn ?_⟩
      refine hassign _ (xs[j]'hj) W _ ?_
      refine ⟨_, run_beginRound hl (by rw [hrk]), ?_⟩
      have l2 : (W.putObj (w.heap.size + 1) (.loop (rk .busy))).heap[w.heap.size + 1]? = some (.loop (rk .busy)) := World.putObj_heap_same hlt
      have d2 : (W.putObj (w.heap.size + 1) (.loop (rk .busy))).heap[w.heap.size]? = some (.deferred (some [])) := (World.putObj_heap_other (by omega)).trans hd
      have e2 : ({ rk .ready with state := .busy } : Loop) = rk .busy := by rw [hrk]
      rw [e2]
      refine wpIn_mono (hbody _ j hj _ (hI2 j W _ _ _ hi (by omega) hl rfl)) ?_
      intro e a3 W3 hp
      cases e with
      | normal =>
        obtain ⟨hk3, hi3⟩ := hp
        have l3 := hk3.same _ _ (by omega) l2 rfl
        have d3 := hk3.same _ _ (Nat.le_refl _) d2 rfl
        have hr := run_endRound (P := P) none l3
        have e3 : ({ rk .busy with state := if (none : Option Code).isNone then .ready else .done, pending := none } : Loop) = rk .ready := by rw [hrk]; rfl
        rw [e3] at hr
        exact ⟨_, _, hr, rfl, hI2 _ _ _ _ _ hi3 (by omega) l3 rfl, World.putObj_heap_same (Array.getElem?_eq_some_iff.1 l3).1, (World.putObj_heap_other (by omega)).trans d3⟩
      | ret => exact hp.elim
      | exit id => exact hp.elim
      | goto t => exact hp.elim
      | panic ch => exact hp.elim
      | outgrown => exact hp.elim
    · rintro e W2 ⟨⟨v, rfl⟩, hi, hl, hd⟩
      have hend := run_endLoop (P := P) hl (by rw [hrk]; simp)
      have hpn : (rk .ready).pending = none := by rw [hrk]
      refine ⟨none, _, by rw [← hpn]; exact hend, hdone _ _ (Nat.le_refl _) (hI2 _ _ _ _ _ hi (by omega) hl rfl) ((World.putObj_heap_other (by omega)).trans hd)⟩
end Go.Proofs.Ytodfpclekihbhaa
