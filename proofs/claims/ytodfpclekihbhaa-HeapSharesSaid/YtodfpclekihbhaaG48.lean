/- Texts on the heap, merged: G0, S5, S5b. -/
import Derived.Test.YtodfpclekihbhaaG01
import Derived.OrdersHeld
import Derived.RegionTactic
import Derived.Test.YtodfpclekihbhaaG47
import Derived.Laws.CopyOwn
/- A region that draws its order: loads first, as long as the stores that hit their cells wait for them. -/
namespace Go.Proofs.Ytodfpclekihbhaa
open Go.RowKit

section
variable {P : Program} {ops : Array Oper} {Q : Exit → Act → World → Prop} {md : Region.Mode} {S : World → Prop} {D : List Nat}

/-- None of D has come up. -/
def offD (D : List Nat) (listed : Array Bool) : Bool := D.all fun d => !(listed.getD d true)
/-- Each of D waits for number i. -/
def waitD (md : Region.Mode) (ops : Array Oper) (D : List Nat) (i : Nat) : Bool := D.all fun d => match ops[d]? with
  | none => false
  | some o => o.after.any fun e => Region.binds md e && e.on == i
/-- Whatever order is picked, and S holds behind every operation ahead of D. -/
def wpG (P : Program) (md : Region.Mode) (ops : Array Oper) (Q : Exit → Act → World → Prop) (S : World → Prop) (D : List Nat) : Nat → Array Bool → Act → World → Prop
  | 0, listed, a, w => Region.ready md ops listed = [] ∧ Q .normal a w
  | fuel + 1, listed, a, w => (Region.ready md ops listed = [] → Q .normal a w) ∧
    ∀ i ∈ Region.ready md ops listed, wpOp P ops Q i (fun a' w' => (offD D (listed.setIfInBounds i true) = true → S w') ∧ wpG P md ops Q S D fuel (listed.setIfInBounds i true) a' w') a w
theorem wpG_any : ∀ (fuel : Nat) (listed : Array Bool) (a : Act) (w : World), wpG P md ops Q S D fuel listed a w → wpAny P md ops Q fuel listed a w
  | 0, _, _, _, h => h
  | fuel + 1, _, _, _, h => ⟨h.1, fun i hi => wpOp_mono (fun _ _ h' => wpG_any fuel _ _ _ h'.2) (h.2 i hi)⟩
theorem off_set {listed : Array Bool} {j : Nat} (h : offD D listed = true) (hj : j ∉ D) : offD D (listed.setIfInBounds j true) = true := by
  unfold offD at *
  rw [List.all_eq_true] at *
  intro d hd
  have := h d hd
  rw [getD_set_ne true (fun e : j = d => hj (e ▸ hd))]
  exact this
theorem wait_not {listed : Array Bool} {i j : Nat} (hw : waitD md ops D i = true) (hj : j ∈ Region.ready md ops listed) (hi : listed.getD i false = false) : j ∉ D := fun hd => by
  unfold waitD at hw
  rw [List.all_eq_true] at hw
  have h1 := hw j hd
  obtain ⟨_, o, ho, hall⟩ := mem_ready.1 hj
  simp only [ho] at h1
  obtain ⟨e, he, h2⟩ := Array.any_eq_true'.1 h1
  simp only [Bool.and_eq_true, beq_iff_eq] at h2
  have h3 := hall e he h2.1
  rw [h2.2, hi] at h3
  cases h3
theorem ready_un {listed : Array Bool} {i : Nat} (h : i ∈ Region.ready md ops listed) : listed.getD i false = false := by
  have h0 := (mem_ready.1 h).1
  rcases Nat.lt_or_ge i listed.size with h' | h'
  · simp [h'] at h0 ⊢; exact h0
  · simp [Array.getElem?_eq_none h'] at h0 ⊢
theorem wpG_first {i : Nat} {oi : Oper} {v : Value} (hi : ops[i]? = some oi) (hsel : ∀ (j : Nat) (o : Oper) cs b, ops[j]? = some o → o.op ≠ .select cs b) (hw : waitD md ops D i = true)
    (hQ : ∀ c a w, Q (.panic c) (a.put oi.dst v) w → Q (.panic c) a w) :
    ∀ (fuel : Nat) (listed : Array Bool) (a : Act) (w : World), offD D listed = true →
      (∀ j oj, ops[j]? = some oj → j ≠ i → listed.getD j true = false → (∀ e ∈ oj.after, Region.binds md e = true → e.on ≠ i) → oi.apart ops oj = true) →
      i ∈ Region.ready md ops listed → YieldsIf P ops S oi v a → S w →
      wpG P md ops Q S D fuel (listed.setIfInBounds i true) (a.put oi.dst v) w → wpG P md ops Q S D (fuel + 1) listed a w := by
  intro fuel
  induction fuel with
  | zero =>
    intro listed a w _ _ hr hy hS H
    refine ⟨fun h => (by rw [h] at hr; cases hr), fun j hj => ?_⟩
    by_cases hji : j = i
    · subst hji; exact hy.wpOp hi hS ⟨fun _ => hS, H⟩
    · have h1 := ready_mono hj hji
      rw [H.1] at h1
      cases h1
  | succ fuel ih =>
    intro listed a w hoff hfree hr hy hS H
    refine ⟨fun h => (by rw [h] at hr; cases hr), fun j hj => ?_⟩
    by_cases hji : j = i
    · subst hji; exact hy.wpOp hi hS ⟨fun _ => hS, H⟩
    · have hun := ready_un hr
      have hjD := wait_not hw hj hun
      have hiD := wait_not hw hr hun
      have h1 := H.2 j (ready_mono hj hji)
      obtain ⟨hjun, oj, hoj, hall⟩ := mem_ready.1 hj
      have hnot : ∀ e ∈ oj.after, Region.binds md e = true → e.on ≠ i := fun e he hb heq => by
        have h2 := hall e he hb
        rw [heq, hun] at h2
        cases h2
      have h2 := wpOp_putIf hoj (hfree j oj hoj hji hjun hnot) (fun cs b => hsel i oi cs b hi) (fun cs b => hsel j oj cs b hoj) hQ hy h1
      have hoffj := off_set hoff hjD
      have hoffi := off_set (off_set hoff hiD) hjD
      refine wpOp_mono (fun a' w' h3 => ⟨fun _ => h3.2.1 hoffi, ih (listed.setIfInBounds j true) a' w' hoffj (fun k ok hk hki hku hno => hfree k ok hk hki ?_ hno) (ready_mono hr (Ne.symm hji)) h3.1 (h3.2.1 hoffi) ?_⟩) h2
      · by_cases hjk : j = k
        · subst hjk; exact hjun
        · rw [getD_set_ne true hjk] at hku; exact hku
      · rw [Array.setIfInBounds_comm _ _ hji]
        exact h3.2.2
/-- Take number i first. -/
theorem wpG_take {i : Nat} {oi : Oper} {v : Value} {fuel : Nat} {listed : Array Bool} {a : Act} {w : World} (hi : ops[i]? = some oi) (hs : Region.noSelect ops = true) (hf : Region.free md ops listed i = true) (hr : (Region.ready md ops listed).contains i = true)
    (hw : waitD md ops D i = true) (ho : offD D listed = true) (d : Option Tmp) (hd : oi.dst = d) (hQ : ∀ c a w, Q (.panic c) (a.put d v) w → Q (.panic c) a w) (hy : YieldsIf P ops S oi v a) (hS : S w)
    (h : wpG P md ops Q S D fuel (listed.setIfInBounds i true) (a.put d v) w) : wpG P md ops Q S D (fuel + 1) listed a w :=
  wpG_first hi (Region.noSelect_spec hs) hw (hd ▸ hQ) fuel listed a w ho (Region.free_spec hi hf) (by simpa using hr) hy hS (hd ▸ h)
theorem wpG_firstY {i : Nat} {oi : Oper} {v : Value} (hi : ops[i]? = some oi) (hsel : ∀ (j : Nat) (o : Oper) cs b, ops[j]? = some o → o.op ≠ .select cs b) (hiD : i ∉ D)
    (hQ : ∀ c a w, Q (.panic c) (a.put oi.dst v) w → Q (.panic c) a w) :
    ∀ (fuel : Nat) (listed : Array Bool) (a : Act) (w : World),
      (∀ j oj, ops[j]? = some oj → j ≠ i → listed.getD j true = false → (∀ e ∈ oj.after, Region.binds md e = true → e.on ≠ i) → oi.apart ops oj = true) →
      i ∈ Region.ready md ops listed → YieldsIf P ops (fun _ => True) oi v a → (offD D listed = true → S w) →
      wpG P md ops Q S D fuel (listed.setIfInBounds i true) (a.put oi.dst v) w → wpG P md ops Q S D (fuel + 1) listed a w := by
  intro fuel
  have hoff : ∀ l : Array Bool, offD D (l.setIfInBounds i true) = true → offD D l = true := fun l h => by
    unfold offD at *
    rw [List.all_eq_true] at *
    intro d hd
    have h1 := h d hd
    rw [getD_set_ne true (fun e : i = d => hiD (e ▸ hd))] at h1
    exact h1
  induction fuel with
  | zero =>
    intro listed a w _ hr hy hS H
    refine ⟨fun h => (by rw [h] at hr; cases hr), fun j hj => ?_⟩
    by_cases hji : j = i
    · subst hji; exact hy.wpOp hi trivial ⟨fun h => hS (hoff _ h), H⟩
    · have h1 := ready_mono hj hji
      rw [H.1] at h1
      cases h1
  | succ fuel ih =>
    intro listed a w hfree hr hy hS H
    refine ⟨fun h => (by rw [h] at hr; cases hr), fun j hj => ?_⟩
    by_cases hji : j = i
    · subst hji; exact hy.wpOp hi trivial ⟨fun h => hS (hoff _ h), H⟩
    · have hun := ready_un hr
      have h1 := H.2 j (ready_mono hj hji)
      obtain ⟨hjun, oj, hoj, hall⟩ := mem_ready.1 hj
      have hnot : ∀ e ∈ oj.after, Region.binds md e = true → e.on ≠ i := fun e he hb heq => by
        have h2 := hall e he hb
        rw [heq, hun] at h2
        cases h2
      have h2 := wpOp_putIf hoj (hfree j oj hoj hji hjun hnot) (fun cs b => hsel i oi cs b hi) (fun cs b => hsel j oj cs b hoj) hQ hy h1
      refine wpOp_mono (fun a' w' h3 => ?_) h2
      have hS' : offD D (listed.setIfInBounds j true) = true → S w' := fun h => h3.2.1 (by
        rw [Array.setIfInBounds_comm _ _ (Ne.symm hji)]
        exact off_set h hiD)
      refine ⟨hS', ih (listed.setIfInBounds j true) a' w' (fun k ok hk hki hku hno => hfree k ok hk hki ?_ hno) (ready_mono hr (Ne.symm hji)) h3.1 hS' ?_⟩
      · by_cases hjk : j = k
        · subst hjk; exact hjun
        · rw [getD_set_ne true hjk] at hku; exact hku
      · rw [Array.setIfInBounds_comm _ _ hji]
        exact h3.2.2
/-- Take number i first, what yields in whatever world. -/
theorem wpG_takeY {i : Nat} {oi : Oper} {v : Value} {fuel : Nat} {listed : Array Bool} {a : Act} {w : World} (hi : ops[i]? = some oi) (hs : Region.noSelect ops = true) (hf : Region.free md ops listed i = true) (hr : (Region.ready md ops listed).contains i = true)
    (hD : D.contains i = false) (d : Option Tmp) (hd : oi.dst = d) (hQ : ∀ c a w, Q (.panic c) (a.put d v) w → Q (.panic c) a w) (hy : Yields P ops oi v a) (hS : offD D listed = true → S w)
    (h : wpG P md ops Q S D fuel (listed.setIfInBounds i true) (a.put d v) w) : wpG P md ops Q S D (fuel + 1) listed a w :=
  wpG_firstY hi (Region.noSelect_spec hs) (by simpa using hD) (hd ▸ hQ) fuel listed a w (Region.free_spec hi hf) (by simpa using hr) (Yields.yieldsIf hy) hS (hd ▸ h)
/-- One alone may come up. -/
theorem wpG_one {i : Nat} {o : Oper} {fuel : Nat} {listed : Array Bool} {a : Act} {w : World} (hr : Region.ready md ops listed = [i]) (ho : ops[i]? = some o)
    (h : ∀ K : Act → World → Prop, (∀ a' w', (offD D (listed.setIfInBounds i true) = true → S w') → wpG P md ops Q S D fuel (listed.setIfInBounds i true) a' w' → K a' w') → if Region.wanted o (yielded ops a.tmps) = true then Oper.wp P o a w K Q else K (a.put o.dst undef) w) : wpG P md ops Q S D (fuel + 1) listed a w := by
  refine ⟨fun h0 => (by rw [hr] at h0; cases h0), fun j hj => ?_⟩
  rw [hr] at hj
  obtain rfl : j = i := by simpa using hj
  exact wpOp_step ho fun K hK => h K fun a' w' h1 h2 => hK _ _ ⟨h1, h2⟩
/-- Two may come up. -/
theorem wpG_two {i j : Nat} {o o' : Oper} {fuel : Nat} {listed : Array Bool} {a : Act} {w : World} (hr : Region.ready md ops listed = [i, j]) (ho : ops[i]? = some o) (ho' : ops[j]? = some o')
    (h : ∀ K : Act → World → Prop, (∀ a' w', (offD D (listed.setIfInBounds i true) = true → S w') → wpG P md ops Q S D fuel (listed.setIfInBounds i true) a' w' → K a' w') → if Region.wanted o (yielded ops a.tmps) = true then Oper.wp P o a w K Q else K (a.put o.dst undef) w)
    (h' : ∀ K : Act → World → Prop, (∀ a' w', (offD D (listed.setIfInBounds j true) = true → S w') → wpG P md ops Q S D fuel (listed.setIfInBounds j true) a' w' → K a' w') → if Region.wanted o' (yielded ops a.tmps) = true then Oper.wp P o' a w K Q else K (a.put o'.dst undef) w) : wpG P md ops Q S D (fuel + 1) listed a w := by
  refine ⟨fun h0 => (by rw [hr] at h0; cases h0), fun k hk => ?_⟩
  rw [hr] at hk
  rcases List.mem_cons.1 hk with rfl | hk
  · exact wpOp_step ho fun K hK => h K fun a' w' h1 h2 => hK _ _ ⟨h1, h2⟩
  · obtain rfl : k = j := by simpa using hk
    exact wpOp_step ho' fun K hK => h' K fun a' w' h1 h2 => hK _ _ ⟨h1, h2⟩
theorem wpG_done {listed : Array Bool} {a : Act} {w : World} (hr : Region.ready md ops listed = []) (h : Q .normal a w) : ∀ fuel, wpG P md ops Q S D fuel listed a w
  | 0 => ⟨hr, h⟩
  | _ + 1 => ⟨fun _ => h, by rw [hr]; simp⟩
/-- The beginning. -/
theorem wp_regionG {id : Nat} {a : Act} {w : World} (S : World → Prop) (D : List Nat) (hm : P.follows .mixedOrders = true) (h : wpG P .any ops Q S D ops.size (Array.replicate ops.size false) a w.drew) : (Code.region id ops true).wp P Q a w :=
  wp_region_any hm (wpG_any _ _ _ _ h)
end
end Go.Proofs.Ytodfpclekihbhaa

/- HeapShares: the two appends as steps of a region that draws. -/
namespace Go.Proofs.Ytodfpclekihbhaa
open Go.RowKit Go.Shelf

section
variable {ops : Array Oper} {o : Oper} {a : Act} {K : Act → World → Prop} {Q : Exit → Act → World → Prop} {E : Prop}
variable {w0 w : World} {hb : Nat} {H : Hp} {N Pb C9 C8 : Nat} {R l9 : List Int} {A9 A8 : Option Addr} {vs : List Value} {X : Nat → Prop}
/-- Blocks of cells of another kind are as they were. -/
def KeptT (w w' : World) (t : TypeId) : Prop := ∀ (b : Nat) (cs : Array Value) (u : TypeId) (fr : Nat × Nat), w.heap[b]? = some (Obj.cells cs u fr) → u ≠ t → w'.heap[b]? = some (Obj.cells cs u fr)
theorem box_al {w : World} {b : Nat} {cs : Array Value} {t : TypeId} {fr : Nat × Nat} (o : Obj) (h : w.heap[b]? = some (Obj.cells cs t fr)) : (w.alloc o).heap[b]? = some (Obj.cells cs t fr) := (((Below.refl _ _).alloc (Nat.le_refl _) o).block _ (lt_of_heap h)).trans h
theorem step_app9 (hgd : o.guard = none) (s x : Operand) (ho : o.op = .call { callee := .builtin .append, args := #[s, x], argTypes := #[35, 35] })
    (hsa : SA X w0 w hb H N Pb R A9 C9 l9 A8 C8 vs) {m : Nat} (hm : l9.length = m) (r : Int) (hs : a.eval s = .slice A9 m C9) (q : Nat) (hx : a.eval x = .slice (some ⟨q, 0, none⟩) 1 1) (hq : w.heap[q]? = some (.cells #[.int .i64 r] 26 (0, 0))) (hn : m ≤ 1000)
    (h : ∀ g cap w', Hid (SA X w0 w' hb H N Pb R (some ⟨g, 0, none⟩) cap (l9 ++ [r]) A8 C8 vs) → Hid (KeptT w w' 26) → K (a.put o.dst (.slice (some ⟨g, 0, none⟩) (m + 1) cap)) w') :
    if Region.wanted o (yielded ops a.tmps) = true then Oper.wp Try.prog o a w K Q else E := by
  subst hm
  obtain ⟨i0, hi, hz0, hz1, hz2⟩ := info_parts Try.infoRef
  refine step_append_lies w hgd s x 35 ho 0 26 i0 _ 1 8 Try.underlying35 hi hz0 hz1 hz2 rfl (by decide) _ l9.length (ints l9) hs hsa.sm.ra ⟨q, 0, none⟩ 1 1 [.int .i64 r] hx rfl ?c1 ?c2 (by decide) ?c3 ?c4 (Nat.zero_le _) _ rfl ?_
  case c1 => exact World.news_of_block (cs := #[.int .i64 r]) (t := 26) (fr := (0, 0)) hq
  case c2 => intro u hu; simp at hu; subst hu; rfl
  case c3 => simp only [maxLen]; omega
  case c4 => omega
  intro g cap w' h2 h3 h4 h5
  refine h g cap w' (Lib.hid (hsa.push9 h2 h3 h4 h5)) (Lib.hid fun b cs u fr hb hu => ?_)
  refine (h3.block b (lt_of_heap hb) fun e => ?_).trans hb
  · obtain ⟨ad, ha, hab⟩ := ownB e.symm
    obtain ⟨_, ds, hds⟩ := own_head hsa.sm.ra ad ha
    rw [hab] at hds
    exact ne_ty hb hds hu rfl
theorem step_app8 (hgd : o.guard = none) (s x : Operand) (ho : o.op = .call { callee := .builtin .append, args := #[s, x], argTypes := #[34, 34] })
    (hsa : SA X w0 w hb H N Pb R A9 C9 l9 A8 C8 vs) {m : Nat} (hm : vs.length = m) {v : Value} (hv : v.oneCell' = true) (hs : a.eval s = .slice A8 m C8) (q : Nat) (hx : a.eval x = .slice (some ⟨q, 0, none⟩) 1 1) (hq : w.heap[q]? = some (.cells #[v] 33 (0, 0))) (hn : m ≤ 1000)
    (h : ∀ g cap w', Hid (SA X w0 w' hb H N Pb R A9 C9 l9 (some ⟨g, 0, none⟩) cap (vs ++ [v])) → Hid (KeptT w w' 33) → K (a.put o.dst (.slice (some ⟨g, 0, none⟩) (m + 1) cap)) w') :
    if Region.wanted o (yielded ops a.tmps) = true then Oper.wp Try.prog o a w K Q else E := by
  subst hm
  obtain ⟨i0, hi, hz0, hz1, hz2⟩ := info_parts Try.infoI64s
  refine step_append_lies w hgd s x 34 ho 0 33 i0 _ 1 24 Try.underlying34 hi hz0 hz1 hz2 rfl (by decide) _ vs.length vs hs hsa.sm.pl ⟨q, 0, none⟩ 1 1 [v] hx rfl ?c1 ?c2 (by decide) ?c3 ?c4 (Nat.zero_le _) _ rfl ?_
  case c1 => exact World.news_of_block (cs := #[v]) (t := 33) (fr := (0, 0)) hq
  case c2 => intro u hu; simp at hu; subst hu; exact hv
  case c3 => simp only [maxLen]; omega
  case c4 => omega
  intro g cap w' h2 h3 h4 h5
  refine h g cap w' (Lib.hid (hsa.push8 h2 h3 h4 h5)) (Lib.hid fun b cs u fr hb hu => ?_)
  refine (h3.block b (lt_of_heap hb) fun e => ?_).trans hb
  · obtain ⟨ad, ha, hab⟩ := ownB e.symm
    obtain ⟨_, ds, hds⟩ := own_head hsa.sm.pl ad ha
    rw [hab] at hds
    exact ne_ty hb hds hu rfl
end
end Go.Proofs.Ytodfpclekihbhaa

/- HeapShares: the builtin copy within the plain list, as a step. -/
namespace Go.Proofs.Ytodfpclekihbhaa
open Go.RowKit Go.Shelf

section
variable {ops : Array Oper} {rest : List Oper} {o : Oper} {a : Act} {Q : Exit → Act → World → Prop}
variable {w0 w : World} {hb : Nat} {H : Hp} {N Pb C9 C8 : Nat} {R l9 : List Int} {A9 A8 : Option Addr} {vs : List Value} {X : Nat → Prop}
theorem Mut.setRow (w : World) (g : Nat) (cs : Array Value) : Mut (· = g) w (w.setRow g cs) :=
  ⟨rfl, rfl, rfl, by simp, fun k _ hk => setRow_other w g k cs hk⟩
theorem KeptT.of_mut {w w' : World} {t : TypeId} {g : Nat} {cs : Array Value} {fr : Nat × Nat} (hm : Mut (· = g) w w') (hg : w.heap[g]? = some (Obj.cells cs t fr)) : KeptT w w' t := fun b ds u fr hb hu => by
  refine (hm.block b (lt_of_heap hb) fun e => ?_).trans hb
  subst e
  rw [hg] at hb
  injection hb with hb
  injection hb with _ hb
  exact hu hb.symm
theorem Try.sizeI64 : (Try.prog.info? 2).map (·.size) = some 1 := by kernel_rfl
theorem wpList_copy8 (hgd : o.guard = none) (d s : Operand) (ho : o.op = .call { callee := .builtin .copy, args := #[d, s], argTypes := #[33, 33] })
    (hsa : SA X w0 w hb H N Pb R A9 C9 l9 A8 C8 vs) (dp sp : Option Addr) (dLen dCap sLen sCap : Nat) (hd : a.eval d = .slice dp dLen dCap) (hs : a.eval s = .slice sp sLen sCap) (off : Nat) (cs : List Int) (hn : cs.length = Nat.min sLen dLen)
    (hpos : 0 < cs.length → dp = some ⟨Pb, off, none⟩ ∧ ∃ so, sp = some ⟨Pb, so, none⟩ ∧ cs = (R.drop so).take cs.length) (hfit : off + cs.length ≤ R.length)
    (h : ∀ w', Hid (SA X w0 w' hb H N Pb (putL R off cs) A9 C9 l9 A8 C8 vs) → Hid (KeptT w w' 2) → wpList Try.prog ops Q rest (a.put o.dst (goInt cs.length)) w') : wpList Try.prog ops Q (o :: rest) a w := by
  refine wpList_plain hgd fun K hK => ?_
  by_cases h0 : cs.length = 0
  · obtain rfl : cs = [] := List.eq_nil_of_length_eq_zero h0
    have hrun := run_copy_none (P := Try.prog) w 33 33 o.type 2 dp sp dLen dCap sLen sCap Try.underlying33 Try.sizeI64 (by simpa using hn.symm)
    unfold Oper.wp
    simp [execOp, ho, resolve, invoke, builtin, hd, hs, hrun, Result.andThen]
    exact hK _ _ (h w (Lib.hid (by rw [putL_nil]; exact hsa)) (Lib.hid fun _ _ _ _ hb _ => hb))
  · obtain ⟨rfl, so, rfl, hsrc⟩ := hpos (by omega)
    have hp := hsa.sm.pb
    have hrun := run_copy_row (P := Try.prog) w 33 33 o.type 2 Pb off dLen dCap ⟨Pb, so, none⟩ sLen sCap _ 2 (cs.map (Value.int .i64)) Try.underlying33 Try.sizeI64 hp (by simpa using hn) (fun j v hj => by
      rw [List.getElem?_map] at hj
      obtain ⟨x, hx, rfl⟩ := Option.map_eq_some_iff.1 hj
      rw [hsrc, List.getElem?_take] at hx
      split at hx
      · rw [List.getElem?_drop] at hx
        have e : (⟨Pb, so, none⟩ : Addr).add j = ⟨Pb, so + j, none⟩ := by
          unfold Addr.add
          split
          · rename_i h; subst h; rfl
          · rfl
        rw [e]
        exact cell_of_heap hp (by simp [hx])
      · cases hx) (by simpa using hfit) (fun v hv => by
      obtain ⟨x, _, rfl⟩ := List.mem_map.1 hv
      rfl)
    have hm := Mut.setRow w Pb ((R.map (Value.int .i64)).toArray.toList.take off ++ cs.map (Value.int .i64) ++ (R.map (Value.int .i64)).toArray.toList.drop (off + (cs.map (Value.int .i64)).length)).toArray
    have h1 := hsa.plain (R' := putL R off cs) hm (by
      rw [setRow_heap w Pb _ _ 2 _ hp]
      simp [putL])
    unfold Oper.wp
    simp only [List.length_map] at hrun h1 hm
    simp [execOp, ho, resolve, invoke, builtin, hd, hs, hrun, Result.andThen]
    refine hK _ _ (h _ (Lib.hid ?_) (Lib.hid (KeptT.of_mut (g := Pb) ?_ hp)))
    · simpa using h1
    · simpa using hm
end
theorem Sh.copy_part {H : Hp} {R : List Int} {rs : List (Nat × Nat)} {m k q f t : Nat} (hk : k < rs.length) (h : Sh H R (rs ++ [((rs[k]'hk).1 + f, (rs[k]'hk).1 + t)])) (hm : rs.length = m) (hft : f ≤ t) (hq : q + (t - f) ≤ (rs[k]'hk).2 - (rs[k]'hk).1) :
    copyH H ((k : Int) + 1) q ((m : Int) + 1) = ((copyH H ((k : Int) + 1) q ((m : Int) + 1)).1, 0) ∧ Sh (copyH H ((k : Int) + 1) q ((m : Int) + 1)).1 (putL R ((rs[k]'hk).1 + q) ((R.drop ((rs[k]'hk).1 + f)).take (t - f))) (rs ++ [((rs[k]'hk).1 + f, (rs[k]'hk).1 + t)]) := by
  subst hm
  have e1 : (rs ++ [((rs[k]'hk).1 + f, (rs[k]'hk).1 + t)])[k]'(by simp; omega) = rs[k]'hk := List.getElem_append_left hk
  have e2 : (rs ++ [((rs[k]'hk).1 + f, (rs[k]'hk).1 + t)])[rs.length]'(by simp) = ((rs[k]'hk).1 + f, (rs[k]'hk).1 + t) := by rw [List.getElem_append_right (Nat.le_refl _)]; simp
  have h1 := h.copy (j := k) (k := rs.length) (by simp; omega) (by simp) (at_ := q) (by rw [e1, e2]; simp only; omega)
  rw [e1, e2] at h1
  simp only at h1
  rw [show (rs[k]'hk).1 + t - ((rs[k]'hk).1 + f) = t - f by omega] at h1
  exact h1
theorem Sh.put_part {H : Hp} {R : List Int} {rs : List (Nat × Nat)} {m q f t : Nat} {lo : Nat} {v : Int} (h : Sh H R (rs ++ [(lo + f, lo + t)])) (hm : rs.length = m) (hq : q < t - f) :
    putH H ((m : Int) + 1) q 0 ⟨v, 0⟩ = ((putH H ((m : Int) + 1) q 0 ⟨v, 0⟩).1, 0) ∧ Sh (putH H ((m : Int) + 1) q 0 ⟨v, 0⟩).1 (R.set (lo + f + q) v) (rs ++ [(lo + f, lo + t)]) := by
  subst hm
  have e2 : (rs ++ [(lo + f, lo + t)])[rs.length]'(by simp) = (lo + f, lo + t) := by rw [List.getElem_append_right (Nat.le_refl _)]; simp
  have h1 := h.put (j := rs.length) (by simp) (el := q) (v := v) (by rw [e2]; simp only; omega)
  rw [e2] at h1
  exact h1
set_option maxRecDepth 100000 in
theorem run_slice_64l (w : World) (A : Option Addr) (D C q : Nat) (h1 : q ≤ D) : (Instr.slice 33 (.slice A D C) (some (.int .i64 (q : Int))) none none).run Try.prog w = .ok (.slice (if C = q then A else A.map (·.add (q * 1))) (D - q) (C - q)) w := by
  obtain ⟨i0, hi, hz0, hz1, hz2⟩ := info_parts Try.infoI64
  rw [run_slice_l w 33 A D C Try.underlying33 .i64 (q : Int) (by omega) (by omega)]
  simp [go_sem, sliced]
set_option maxRecDepth 100000 in
theorem run_slice_64lh (w : World) (A : Option Addr) (D C f t : Nat) (h1 : f ≤ t) (h2 : t ≤ C) : (Instr.slice 33 (.slice A D C) (some (.int .i64 (f : Int))) (some (.int .i64 (t : Int))) none).run Try.prog w = .ok (.slice (if C = f then A else A.map (·.add (f * 1))) (t - f) (C - f)) w := by
  obtain ⟨i0, hi, hz0, hz1, hz2⟩ := info_parts Try.infoI64
  rw [run_slice_lh w 33 A D C Try.underlying33 .i64 .i64 (f : Int) (t : Int) (by omega) (by omega) (by omega)]
  simp [go_sem, sliced]
end Go.Proofs.Ytodfpclekihbhaa

