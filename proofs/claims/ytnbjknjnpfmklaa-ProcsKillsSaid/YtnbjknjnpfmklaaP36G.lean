/- A region that draws its order: loads first, as long as the stores that hit their cells wait for them. -/
import Derived.Test.YtnbjknjnpfmklaaP36
import Derived.OrdersHeld
import Derived.RegionTactic
namespace Go.Proofs.Ytnbjknjnpfmklaa
open Go.RowKit

section
variable {P : Program} {ops : Array Oper} {Q : Exit → Act → World → Prop} {md : Region.Mode} {S : World → Prop} {D : List Nat}

/-- None of D has come up. -/
def offD (D : List Nat) (listed : Array Bool) : Bool := D.all fun d => !(listed.getD d true)
/-- Each of D waits for number i. -/
def waitD (md : Region.Mode) (ops : Array Oper) (D : List Nat) (i : Nat) : Bool := D.all fun d => match ops[d]? with
  | none => false
  | some o => o.after.any fun e => Region.binds md e && e.on == i
/-- Whatever order is picked, and S holds behind every operation ahead of D. -/
def wpG (P : Program) (md : Region.Mode) (ops : Array Oper) (Q : Exit → Act → World → Prop) (S : World → Prop) (D : List Nat) : Nat → Array Bool → Act → World → Prop
  | 0, listed, a, w => Region.ready md ops listed = [] ∧ Q .normal a w
  | fuel + 1, listed, a, w => (Region.ready md ops listed = [] → Q .normal a w) ∧
    ∀ i ∈ Region.ready md ops listed, wpOp P ops Q i (fun a' w' => (offD D (listed.setIfInBounds i true) = true → S w') ∧ wpG P md ops Q S D fuel (listed.setIfInBounds i true) a' w') a w
theorem wpG_any : ∀ (fuel : Nat) (listed : Array Bool) (a : Act) (w : World), wpG P md ops Q S D fuel listed a w → wpAny P md ops Q fuel listed a w
  | 0, _, _, _, h => h
  | fuel + 1, _, _, _, h => ⟨h.1, fun i hi => wpOp_mono (fun _ _ h' => wpG_any fuel _ _ _ h'.2) (h.2 i hi)⟩
theorem off_set {listed : Array Bool} {j : Nat} (h : offD D listed = true) (hj : j ∉ D) : offD D (listed.setIfInBounds j true) = true := by
  unfold offD at *
  rw [List.all_eq_true] at *
  intro d hd
  have := h d hd
  rw [getD_set_ne true (fun e : j = d => hj (e ▸ hd))]
  exact this
theorem wait_not {listed : Array Bool} {i j : Nat} (hw : waitD md ops D i = true) (hj : j ∈ Region.ready md ops listed) (hi : listed.getD i false = false) : j ∉ D := fun hd => by
  unfold waitD at hw
  rw [List.all_eq_true] at hw
  have h1 := hw j hd
  obtain ⟨_, o, ho, hall⟩ := mem_ready.1 hj
  simp only [ho] at h1
  obtain ⟨e, he, h2⟩ := Array.any_eq_true'.1 h1
  simp only [Bool.and_eq_true, beq_iff_eq] at h2
  have h3 := hall e he h2.1
  rw [h2.2, hi] at h3
  cases h3
theorem ready_un {listed : Array Bool} {i : Nat} (h : i ∈ Region.ready md ops listed) : listed.getD i false = false := by
  have h0 := (mem_ready.1 h).1
  rcases Nat.lt_or_ge i listed.size with h' | h'
  · simp [h'] at h0 ⊢; exact h0
  · simp [Array.getElem?_eq_none h'] at h0 ⊢
theorem wpG_first {i : Nat} {oi : Oper} {v : Value} (hi : ops[i]? = some oi) (hsel : ∀ (j : Nat) (o : Oper) cs b, ops[j]? = some o → o.op ≠ .select cs b) (hw : waitD md ops D i = true)
    (hQ : ∀ c a w, Q (.panic c) (a.put oi.dst v) w → Q (.panic c) a w) :
    ∀ (fuel : Nat) (listed : Array Bool) (a : Act) (w : World), offD D listed = true →
      (∀ j oj, ops[j]? = some oj → j ≠ i → listed.getD j true = false → (∀ e ∈ oj.after, Region.binds md e = true → e.on ≠ i) → oi.apart ops oj = true) →
      i ∈ Region.ready md ops listed → YieldsIf P ops S oi v a → S w →
      wpG P md ops Q S D fuel (listed.setIfInBounds i true) (a.put oi.dst v) w → wpG P md ops Q S D (fuel + 1) listed a w := by
  intro fuel
  induction fuel with
  | zero =>
    intro listed a w _ _ hr hy hS H
    refine ⟨fun h => (by rw [h] at hr; cases hr), fun j hj => ?_⟩
    by_cases hji : j = i
    · subst hji; exact hy.wpOp hi hS ⟨fun _ => hS, H⟩
    · have h1 := ready_mono hj hji
      rw [H.1] at h1
      cases h1
  | succ fuel ih =>
    intro listed a w hoff hfree hr hy hS H
    refine ⟨fun h => (by rw [h] at hr; cases hr), fun j hj => ?_⟩
    by_cases hji : j = i
    · subst hji; exact hy.wpOp hi hS ⟨fun _ => hS, H⟩
    · have hun := ready_un hr
      have hjD := wait_not hw hj hun
      have hiD := wait_not hw hr hun
      have h1 := H.2 j (ready_mono hj hji)
      obtain ⟨hjun, oj, hoj, hall⟩ := mem_ready.1 hj
      have hnot : ∀ e ∈ oj.after, Region.binds md e = true → e.on ≠ i := fun e he hb heq => by
        have h2 := hall e he hb
        rw [heq, hun] at h2
        cases h2
      have h2 := wpOp_putIf hoj (hfree j oj hoj hji hjun hnot) (fun cs b => hsel i oi cs b hi) (fun cs b => hsel j oj cs b hoj) hQ hy h1
      have hoffj := off_set hoff hjD
      have hoffi := off_set (off_set hoff hiD) hjD
      refine wpOp_mono (fun a' w' h3 => ⟨fun _ => h3.2.1 hoffi, ih (listed.setIfInBounds j true) a' w' hoffj (fun k ok hk hki hku hno => hfree k ok hk hki ?_ hno) (ready_mono hr (Ne.symm hji)) h3.1 (h3.2.1 hoffi) ?_⟩) h2
      · by_cases hjk : j = k
        · subst hjk; exact hjun
        · rw [getD_set_ne true hjk] at hku; exact hku
      · rw [Array.setIfInBounds_comm _ _ hji]
        exact h3.2.2
/-- Take number i first. -/
theorem wpG_take {i : Nat} {oi : Oper} {v : Value} {fuel : Nat} {listed : Array Bool} {a : Act} {w : World} (hi : ops[i]? = some oi) (hs : Region.noSelect ops = true) (hf : Region.free md ops listed i = true) (hr : (Region.ready md ops listed).contains i = true)
    (hw : waitD md ops D i = true) (ho : offD D listed = true) (d : Option Tmp) (hd : oi.dst = d) (hQ : ∀ c a w, Q (.panic c) (a.put d v) w → Q (.panic c) a w) (hy : YieldsIf P ops S oi v a) (hS : S w)
    (h : wpG P md ops Q S D fuel (listed.setIfInBounds i true) (a.put d v) w) : wpG P md ops Q S D (fuel + 1) listed a w :=
  wpG_first hi (Region.noSelect_spec hs) hw (hd ▸ hQ) fuel listed a w ho (Region.free_spec hi hf) (by simpa using hr) hy hS (hd ▸ h)
theorem wpG_firstY {i : Nat} {oi : Oper} {v : Value} (hi : ops[i]? = some oi) (hsel : ∀ (j : Nat) (o : Oper) cs b, ops[j]? = some o → o.op ≠ .select cs b) (hiD : i ∉ D)
    (hQ : ∀ c a w, Q (.panic c) (a.put oi.dst v) w → Q (.panic c) a w) :
    ∀ (fuel : Nat) (listed : Array Bool) (a : Act) (w : World),
      (∀ j oj, ops[j]? = some oj → j ≠ i → listed.getD j true = false → (∀ e ∈ oj.after, Region.binds md e = true → e.on ≠ i) → oi.apart ops oj = true) →
      i ∈ Region.ready md ops listed → YieldsIf P ops (fun _ => True) oi v a → (offD D listed = true → S w) →
      wpG P md ops Q S D fuel (listed.setIfInBounds i true) (a.put oi.dst v) w → wpG P md ops Q S D (fuel + 1) listed a w := by
  intro fuel
  have hoff : ∀ l : Array Bool, offD D (l.setIfInBounds i true) = true → offD D l = true := fun l h => by
    unfold offD at *
    rw [List.all_eq_true] at *
    intro d hd
    have h1 := h d hd
    rw [getD_set_ne true (fun e : i = d => hiD (e ▸ hd))] at h1
    exact h1
  induction fuel with
  | zero =>
    intro listed a w _ hr hy hS H
    refine ⟨fun h => (by rw [h] at hr; cases hr), fun j hj => ?_⟩
    by_cases hji : j = i
    · subst hji; exact hy.wpOp hi trivial ⟨fun h => hS (hoff _ h), H⟩
    · have h1 := ready_mono hj hji
      rw [H.1] at h1
      cases h1
  | succ fuel ih =>
    intro listed a w hfree hr hy hS H
    refine ⟨fun h => (by rw [h] at hr; cases hr), fun j hj => ?_⟩
    by_cases hji : j = i
    · subst hji; exact hy.wpOp hi trivial ⟨fun h => hS (hoff _ h), H⟩
    · have hun := ready_un hr
      have h1 := H.2 j (ready_mono hj hji)
      obtain ⟨hjun, oj, hoj, hall⟩ := mem_ready.1 hj
      have hnot : ∀ e ∈ oj.after, Region.binds md e = true → e.on ≠ i := fun e he hb heq => by
        have h2 := hall e he hb
        rw [heq, hun] at h2
        cases h2
      have h2 := wpOp_putIf hoj (hfree j oj hoj hji hjun hnot) (fun cs b => hsel i oi cs b hi) (fun cs b => hsel j oj cs b hoj) hQ hy h1
      refine wpOp_mono (fun a' w' h3 => ?_) h2
      have hS' : offD D (listed.setIfInBounds j true) = true → S w' := fun h => h3.2.1 (by
        rw [Array.setIfInBounds_comm _ _ (Ne.symm hji)]
        exact off_set h hiD)
      refine ⟨hS', ih (listed.setIfInBounds j true) a' w' (fun k ok hk hki hku hno => hfree k ok hk hki ?_ hno) (ready_mono hr (Ne.symm hji)) h3.1 hS' ?_⟩
      · by_cases hjk : j = k
        · subst hjk; exact hjun
        · rw [getD_set_ne true hjk] at hku; exact hku
      · rw [Array.setIfInBounds_comm _ _ hji]
        exact h3.2.2
/-- Take number i first, what yields in whatever world. -/
theorem wpG_takeY {i : Nat} {oi : Oper} {v : Value} {fuel : Nat} {listed : Array Bool} {a : Act} {w : World} (hi : ops[i]? = some oi) (hs : Region.noSelect ops = true) (hf : Region.free md ops listed i = true) (hr : (Region.ready md ops listed).contains i = true)
    (hD : D.contains i = false) (d : Option Tmp) (hd : oi.dst = d) (hQ : ∀ c a w, Q (.panic c) (a.put d v) w → Q (.panic c) a w) (hy : Yields P ops oi v a) (hS : offD D listed = true → S w)
    (h : wpG P md ops Q S D fuel (listed.setIfInBounds i true) (a.put d v) w) : wpG P md ops Q S D (fuel + 1) listed a w :=
  wpG_firstY hi (Region.noSelect_spec hs) (by simpa using hD) (hd ▸ hQ) fuel listed a w (Region.free_spec hi hf) (by simpa using hr) (Yields.yieldsIf hy) hS (hd ▸ h)
/-- One alone may come up. -/
theorem wpG_one {i : Nat} {o : Oper} {fuel : Nat} {listed : Array Bool} {a : Act} {w : World} (hr : Region.ready md ops listed = [i]) (ho : ops[i]? = some o)
    (h : ∀ K : Act → World → Prop, (∀ a' w', (offD D (listed.setIfInBounds i true) = true → S w') → wpG P md ops Q S D fuel (listed.setIfInBounds i true) a' w' → K a' w') → if Region.wanted o (yielded ops a.tmps) = true then Oper.wp P o a w K Q else K (a.put o.dst undef) w) : wpG P md ops Q S D (fuel + 1) listed a w := by
  refine ⟨fun h0 => (by rw [hr] at h0; cases h0), fun j hj => ?_⟩
  rw [hr] at hj
  obtain rfl : j = i := by simpa using hj
  exact wpOp_step ho fun K hK => h K fun a' w' h1 h2 => hK _ _ ⟨h1, h2⟩
/-- Two may come up. -/
theorem wpG_two {i j : Nat} {o o' : Oper} {fuel : Nat} {listed : Array Bool} {a : Act} {w : World} (hr : Region.ready md ops listed = [i, j]) (ho : ops[i]? = some o) (ho' : ops[j]? = some o')
    (h : ∀ K : Act → World → Prop, (∀ a' w', (offD D (listed.setIfInBounds i true) = true → S w') → wpG P md ops Q S D fuel (listed.setIfInBounds i true) a' w' → K a' w') → if Region.wanted o (yielded ops a.tmps) = true then Oper.wp P o a w K Q else K (a.put o.dst undef) w)
    (h' : ∀ K : Act → World → Prop, (∀ a' w', (offD D (listed.setIfInBounds j true) = true → S w') → wpG P md ops Q S D fuel (listed.setIfInBounds j true) a' w' → K a' w') → if Region.wanted o' (yielded ops a.tmps) = true then Oper.wp P o' a w K Q else K (a.put o'.dst undef) w) : wpG P md ops Q S D (fuel + 1) listed a w := by
  refine ⟨fun h0 => (by rw [hr] at h0; cases h0), fun k hk => ?_⟩
  rw [hr] at hk
  rcases List.mem_cons.1 hk with rfl | hk
  · exact wpOp_step ho fun K hK => h K fun a' w' h1 h2 => hK _ _ ⟨h1, h2⟩
  · obtain rfl : k = j := by simpa using hk
    exact wpOp_step ho' fun K hK => h' K fun a' w' h1 h2 => hK _ _ ⟨h1, h2⟩
theorem wpG_done {listed : Array Bool} {a : Act} {w : World} (hr : Region.ready md ops listed = []) (h : Q .normal a w) : ∀ fuel, wpG P md ops Q S D fuel listed a w
  | 0 => ⟨hr, h⟩
  | _ + 1 => ⟨fun _ => h, by rw [hr]; simp⟩
/-- The beginning. -/
theorem wp_regionG {id : Nat} {a : Act} {w : World} (S : World → Prop) (D : List Nat) (hm : P.follows .mixedOrders = true) (h : wpG P .any ops Q S D ops.size (Array.replicate ops.size false) a w.drew) : (Code.region id ops true).wp P Q a w :=
  wp_region_any hm (wpG_any _ _ _ _ h)
end
end Go.Proofs.Ytnbjknjnpfmklaa
