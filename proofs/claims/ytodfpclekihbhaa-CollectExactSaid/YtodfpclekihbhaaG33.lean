/- Texts on the heap, merged: V9, V10, V12. -/
import Derived.Test.YtodfpclekihbhaaG32
import Derived.Test.YtodfpclekihbhaaG26
import Derived.Test.YtodfpclekihbhaaG22
/- Two heaps side by side. -/
namespace Go.Proofs.Ytodfpclekihbhaa
open Go.RowKit Go.Shelf

/-- The heaps HA and HB lie at ha and hb, apart from each other and from K. -/
structure Car2 (w0 : World) (ha hb : Nat) (K : Nat → Prop) (HA_ HB_ : Hp) (w : World) : Prop where
  ex : ∃ Aa Sa Ab Sb, HpAt w ha Aa HA_ Sa ∧ HpAt w hb Ab HB_ Sb ∧ (∀ k, Sa k → Off w0 K k) ∧ (∀ k, Sb k → Off w0 K k) ∧ ∀ k, Sa k → ¬ Sb k
  bel : Below w0.heap.size w0 w
  klt : ∀ k, K k → k < w.heap.size
variable {w0 w w' : World} {ha hb : Nat} {K : Nat → Prop} {H G : Hp}
theorem Car2.swap (c : Car2 w0 ha hb K H G w) : Car2 w0 hb ha K G H w := by
  obtain ⟨⟨Aa, Sa, Ab, Sb, h1, h2, h3, h4, h5⟩, b, k⟩ := c
  exact ⟨⟨Ab, Sb, Aa, Sa, h2, h1, h4, h3, fun x hx hy => h5 x hy hx⟩, b, k⟩
theorem Car2.below (c : Car2 w0 ha hb K H G w) (h : Below w.heap.size w w') : Car2 w0 ha hb K H G w' := by
  obtain ⟨⟨Aa, Sa, Ab, Sb, h1, h2, h3, h4, h5⟩, b, k⟩ := c
  exact ⟨⟨Aa, Sa, Ab, Sb, h1.below h, h2.below h, h3, h4, h5⟩, b.trans (h.mono b.size), fun x hx => Nat.lt_of_lt_of_le (k x hx) h.size⟩
theorem Car2.forget {K' : Nat → Prop} (c : Car2 w0 ha hb K H G w) (h : ∀ k, K' k → K k) : Car2 w0 ha hb K' H G w := by
  obtain ⟨⟨Aa, Sa, Ab, Sb, h1, h2, h3, h4, h5⟩, b, k⟩ := c
  exact ⟨⟨Aa, Sa, Ab, Sb, h1, h2, fun x hx => ⟨(h3 x hx).1, fun e => (h3 x hx).2 (h x e)⟩, fun x hx => ⟨(h4 x hx).1, fun e => (h4 x hx).2 (h x e)⟩, h5⟩, b, fun x hx => k x (h x hx)⟩
/-- New blocks are kept. -/
theorem Car2.keep {P : Nat → Prop} (c : Car2 w0 ha hb K H G w) (h : Below w.heap.size w w') (hP : ∀ k, P k → w.heap.size ≤ k ∧ k < w'.heap.size) : Car2 w0 ha hb (fun k => K k ∨ P k) H G w' := by
  obtain ⟨⟨Aa, Sa, Ab, Sb, h1, h2, h3, h4, h5⟩, b, k⟩ := c
  refine ⟨⟨Aa, Sa, Ab, Sb, h1.below h, h2.below h, fun x hx => ⟨(h3 x hx).1, ?_⟩, fun x hx => ⟨(h4 x hx).1, ?_⟩, h5⟩, b.trans (h.mono b.size), ?_⟩
  · rintro (e | e)
    · exact (h3 x hx).2 e
    · have := h1.Slt _ hx; have := (hP x e).1; omega
  · rintro (e | e)
    · exact (h4 x hx).2 e
    · have := h2.Slt _ hx; have := (hP x e).1; omega
  · rintro x (e | e)
    · exact Nat.lt_of_lt_of_le (k x e) h.size
    · exact (hP x e).2
/-- The first heap by itself. -/
theorem Car2.left (c : Car2 w0 ha hb K H G w) : ∃ K', (∀ k, K k → K' k) ∧ Car w0 ha K' H w ∧ ∀ H' w', CPost w0 w ha K' H' w' → Car2 w0 ha hb K H' G w' ∧ Mut (Off w0 K) w w' := by
  obtain ⟨⟨Aa, Sa, Ab, Sb, h1, h2, h3, h4, h5⟩, b, k⟩ := c
  refine ⟨fun x => K x ∨ Sb x, fun _ => .inl, ⟨⟨Aa, Sa, h1, fun x hx => ⟨(h3 x hx).1, fun e => e.elim (h3 x hx).2 (h5 x hx)⟩⟩, b, fun x hx => hx.elim (k x) (h2.Slt x)⟩, ?_⟩
  rintro H' w' ⟨⟨⟨A', S', g1, g2⟩, g3, g4⟩, hm⟩
  have hm2 : Mut (Off w0 K) w w' := hm.mono fun x hx => .inl ⟨hx.1, fun e => hx.2 (.inl e)⟩
  exact ⟨⟨⟨A', S', Ab, Sb, g1, h2.mut hm fun x hx e => e.2 (.inr hx), fun x hx => ⟨(g2 x hx).1, fun e => (g2 x hx).2 (.inl e)⟩, h4, fun x hx e => (g2 x hx).2 (.inr e)⟩, g3, fun x hx => g4 x (.inl hx)⟩, hm2⟩
theorem Car2.seenNd (c : Car2 w0 ha hb K H G w) : (H.seen.map (·.1)).Nodup := by
  obtain ⟨⟨Aa, Sa, Ab, Sb, h1, _⟩, _⟩ := c
  exact seen_nd h1
/-- The first heap's calls. -/
theorem Car2.lcall {P : Program} {f : FuncId} {args : Array Value} {R : Ending → World → Prop} (c : Car2 w0 ha hb K H G w) (h : ∀ K', Car w0 ha K' H w → Calls P f args w fun e w' => ∃ H', CPost w0 w ha K' H' w' ∧ (Car2 w0 ha hb K H' G w' → Mut (Off w0 K) w w' → R e w')) : Calls P f args w R := by
  obtain ⟨K', _, c1, c2⟩ := c.left
  exact (h K' c1).mono fun e w' ⟨H', h1, h2⟩ => h2 (c2 H' w' h1).1 (c2 H' w' h1).2
theorem Car2.lquiet {P : Program} {f : FuncId} {args : Array Value} {R : Ending → World → Prop} (c : Car2 w0 ha hb K H G w) (h : ∀ K', Car w0 ha K' H w → Calls P f args w R) : Calls P f args w R := by
  obtain ⟨K', _, c1, _⟩ := c.left
  exact h K' c1
theorem new_car2nd (c : Car w0 ha (fun _ => False) H w) : Calls Try.prog 12 #[] w fun e w' => ∃ hb, e = .returned (.pointer (some ⟨hb, 0, none⟩)) ∧ Car2 w0 ha hb (fun _ => False) H emptyH w' := by
  obtain ⟨⟨A, S, hp, hS⟩, b, _⟩ := c
  refine (new_calls w).mono fun _ w' ⟨hb, A', S', h1, h2, h3, h4⟩ => ⟨hb, h1, ⟨⟨A, S, A', S', hp.below h3, h2, hS, fun k hk => ⟨Nat.le_trans b.size (h4 k hk), fun h => h⟩, fun k h1 h2 => ?_⟩, b.trans (h3.mono b.size), fun k h => h.elim⟩⟩
  have := hp.Slt k h1
  have := h4 k h2
  omega
/-- What a call of the first heap leaves of blocks that are kept. -/
theorem kept_at (hm : Mut (Off w0 K) w w') {k : Nat} {o : Obj} (ho : w.heap[k]? = some o) (hk : K k ∨ k < w0.heap.size) : w'.heap[k]? = some o :=
  (hm.block k (lt_of_heap ho) fun h1 => by
    rcases hk with h2 | h2
    · exact h1.2 h2
    · have := h1.1; omega).trans ho
end Go.Proofs.Ytodfpclekihbhaa

/- slices.Clone, slices.Compact of references. -/
namespace Go.Proofs.Ytodfpclekihbhaa
open Go.RowKit Go.Shelf

theorem own_nilC {w : World} {B n C size : Nat} {e : TypeId} {A : Option Addr} {xs : List Value} (h : w.ownsRow B e size (.slice A n C) n xs) (hA : A = none) : n = 0 ∧ C = 0 := by
  rcases h.2 with ⟨h1, h2⟩ | ⟨g, cap, cur, h1, _⟩
  · injection h1 with _ _ e3; exact ⟨h2, e3⟩
  · injection h1 with e1; rw [hA] at e1; cases e1
theorem clone_refs {w : World} {A : Option Addr} {l : List Int} {C B : Nat} (h : w.ownsRow B 26 1 (.slice A l.length C) l.length (ints l)) (hl : l.length ≤ 100000000) :
    Calls Try.prog 51 #[.slice A l.length C] w fun e w' => ∃ A' C', e = .returned (.slice A' l.length C') ∧ w'.ownsRow w.heap.size 26 1 (.slice A' l.length C') l.length (ints l) ∧ Below w.heap.size w w' :=
  (cloneRef A l.length C (ints l) w (by simp [ints]) (fun a ha j u hj => by
    obtain ⟨hj1, hj2⟩ := List.getElem?_eq_some_iff.1 hj
    have hj3 : j < l.length := by simpa [ints] using hj1
    obtain ⟨g, o, h1, h2, h3⟩ := (RdI.of_own h) j hj3
    rw [ha] at h1
    injection h1 with h1
    subst h1
    have e1 : (⟨g, o, none⟩ : Addr).add j = ⟨g, o + j, none⟩ := by
      unfold Addr.add
      split
      · rename_i h; subst h; rfl
      · rfl
    rw [e1, h3, ← hj2]
    simp [ints]) (fun u hu => by obtain ⟨z, _, rfl⟩ := List.mem_map.1 hu; rfl) (own_nilC h) hl).mono fun _ _ ⟨A', C', h1, h2, h3, _⟩ => ⟨A', C', h1, h2, h3⟩
theorem compact_refs {w : World} {A : Option Addr} {l : List Int} (C : Nat) (h : RdI w A l) (hl : l.length ≤ 100000000) (hs : l.Nodup) :
    Calls Try.prog 50 #[.slice A l.length C] w fun e w' => e = .returned (.slice A l.length C) ∧ Below w.heap.size w w' := by
  have H := Lib.hid h
  have HS : Hid (∀ j (h1 : j + 1 < l.length), (l[j + 1]'h1) ≠ (l[j]'(by omega))) := Lib.hid fun j h1 e => by
    have := List.pairwise_iff_getElem.1 hs j (j + 1) (by omega) h1 (by omega)
    exact this e.symm
  clear h hs
  by_cases h2 : l.length < 2
  · have q1 : (l.length : Int) < 2 := by omega
    go_enter Try.func50, Try.ntmps50
    go_wp2
    all_goals go_ret
    all_goals exact ⟨rfl, Below.refl _ _⟩
  · have q1 : decide ((l.length : Int) < 2) = false := decide_eq_false (by omega)
    have q2 : ¬ l.length < 2 := h2
    go_enter Try.func50, Try.ntmps50
    go_wp2
    go_loopw [3] (fun p wr => ∃ i : Nat, i + 1 ≤ l.length ∧ p = .int .i64 ((i : Int) + 1) ∧ Hid (Below w.heap.size w wr)) (fun i _ => l.length - (intOf i).toNat)
    case atStart => exact ⟨0, by omega, rfl, Lib.hid (Below.refl _ _)⟩
    case round =>
      obtain ⟨i, hi, rfl, HB⟩ := hrel
      by_cases hlt : i + 1 < l.length
      · obtain ⟨g, o, hA, hg, c1⟩ := (H.out.below HB.out) (i + 1) hlt
        obtain ⟨g', o', hA', hg', c2⟩ := (H.out.below HB.out) i (by omega)
        rw [hA] at hA'
        cases hA'
        have hx := HS.out i hlt
        have HAE := Lib.hid hA
        rw [hA]
        clear hA hg' hg
        generalize l[i + 1]'hlt = x at *
        generalize l[i] = y at *
        have hxy : (x == y) = false := by simpa using hx
        obtain ⟨iN, hiN⟩ : ∃ q, q = i + 1 := ⟨_, rfl⟩
        obtain ⟨jN, hjN⟩ : ∃ q, q = i := ⟨_, rfl⟩
        have ea : ((i : Int) + 1).toNat = iN := by omega
        have pa : (0 : Int) ≤ (i : Int) + 1 := by omega
        have ba : (i : Int) + 1 < (l.length : Int) := by omega
        have ra : IntKind.i64.wrap ((i : Int) + 1) = (i : Int) + 1 := by rw [IntKind.wrap_i64]; omega
        have ec : ((i : Int)).toNat = jN := by omega
        have pc : (0 : Int) ≤ (i : Int) := by omega
        have bc : (i : Int) < (l.length : Int) := by omega
        have rc : IntKind.i64.wrap ((i : Int)) = (i : Int) := by rw [IntKind.wrap_i64]; omega
        have la : ∀ n, (wr.drewN n).cell? ⟨g, o + iN, none⟩ = some (.int .i64 x) := by rw [hiN]; exact fun n => c1
        have lb : ∀ n, (wr.drewN n).cell? ⟨g, o + jN, none⟩ = some (.int .i64 y) := by rw [hjN]; exact fun n => c2
        clear hiN hjN c1 c2 hx
        go_wp2_with fail
        go_quiet (fail)
        clear la lb ea ec
        go_wp2
        go_roundw
        case rel => exact ⟨i + 1, by omega, by first | rfl | go_num, Lib.hid (HB.out.dn _)⟩
        case measure => simp [intOf]; omega
      · have e : i + 1 = l.length := by omega
        have e2 : (i : Int) + 1 = (l.length : Int) := by omega
        rw [e2]
        clear hlt hi e e2
        go_wp2
        go_ret
        exact ⟨rfl, HB.out⟩
end Go.Proofs.Ytodfpclekihbhaa

/- Two heaps side by side: their calls. -/
namespace Go.Proofs.Ytodfpclekihbhaa
open Go.RowKit Go.Shelf

theorem Ok.do {H : Hp} {N : Nat} (h : Ok H N) (o : OpM) (hs : OpSm o) : Ok (doM H o).1 (N + 1) := by
  by_cases k0 : o.k = 0
  · have e : doM H o = three (textH H (textOf o.tx).1 (textOf o.tx).2 (strLen (textOf o.tx).1 (textOf o.tx).2)) := by unfold doM; rw [if_pos k0]
    rw [e]
    exact h.text _ _ _
  by_cases k1 : o.k = 1
  · have e : doM H o = three (arrayH H o.cls o.refs o.a) := by unfold doM; rw [if_neg k0, if_pos k1]
    rw [e]
    exact h.array _ _ _ fun _ => hs.room k1
  by_cases k2 : o.k = 2
  · have e : doM H o = three (partH H o.r o.a o.b) := by unfold doM; rw [if_neg k0, if_neg k1, if_pos k2]
    rw [e]
    exact h.part _ _ _
  by_cases k3 : o.k = 3
  · have e : doM H o = three (makeH H o.a o.cls o.refs) := by unfold doM; rw [if_neg k0, if_neg k1, if_neg k2, if_pos k3]
    rw [e]
    exact h.make _ _ _
  by_cases k4 : o.k = 4
  · have e : doM H o = three (consH H o.cls o.refs o.words o.r) := by unfold doM; rw [if_neg k0, if_neg k1, if_neg k2, if_neg k3, if_pos k4]
    rw [e]
    exact h.cons _ _ _ _
  by_cases k5 : o.k = 5
  · have e : doM H o = two (setH H o.r o.a (o.words.headD ⟨0, 0⟩)) := by unfold doM; rw [if_neg k0, if_neg k1, if_neg k2, if_neg k3, if_neg k4, if_pos k5]
    rw [e]
    exact (h.set _ _ _).mono (Nat.le_succ _)
  by_cases k6 : o.k = 6
  · have e : doM H o = two (putH H o.r o.a o.b (o.words.headD ⟨0, 0⟩)) := by unfold doM; rw [if_neg k0, if_neg k1, if_neg k2, if_neg k3, if_neg k4, if_neg k5, if_pos k6]
    rw [e]
    exact (h.put _ _ _ _).mono (Nat.le_succ _)
  by_cases k7 : o.k = 7
  · have e : doM H o = two (copyH H o.r o.a o.x) := by unfold doM; rw [if_neg k0, if_neg k1, if_neg k2, if_neg k3, if_neg k4, if_neg k5, if_neg k6, if_pos k7]
    rw [e]
    exact (h.copy _ _ _).mono (Nat.le_succ _)
  by_cases k8 : o.k = 8
  · have e : doM H o = two (clearH H o.r) := by unfold doM; rw [if_neg k0, if_neg k1, if_neg k2, if_neg k3, if_neg k4, if_neg k5, if_neg k6, if_neg k7, if_pos k8]
    rw [e]
    exact (h.clear _).mono (Nat.le_succ _)
  by_cases k9 : o.k = 9
  · have e : doM H o = two (holdH H o.r) := by unfold doM; rw [if_neg k0, if_neg k1, if_neg k2, if_neg k3, if_neg k4, if_neg k5, if_neg k6, if_neg k7, if_neg k8, if_pos k9]
    rw [e]
    exact h.hold _
  by_cases k10 : o.k = 10
  · have e : doM H o = two (dropH H o.r) := by unfold doM; rw [if_neg k0, if_neg k1, if_neg k2, if_neg k3, if_neg k4, if_neg k5, if_neg k6, if_neg k7, if_neg k8, if_neg k9, if_pos k10]
    rw [e]
    exact (h.drop _).mono (Nat.le_succ _)
  by_cases k11 : o.k = 11
  · have e : doM H o = (watchH H o.on, 0, [], 0) := by unfold doM; rw [if_neg k0, if_neg k1, if_neg k2, if_neg k3, if_neg k4, if_neg k5, if_neg k6, if_neg k7, if_neg k8, if_neg k9, if_neg k10, if_pos k11]
    rw [e]
    exact (h.watch _).mono (Nat.le_succ _)
  by_cases k12 : o.k = 12
  · have e : doM H o = ((seenH H).1, 0, (seenH H).2, 0) := by unfold doM; rw [if_neg k0, if_neg k1, if_neg k2, if_neg k3, if_neg k4, if_neg k5, if_neg k6, if_neg k7, if_neg k8, if_neg k9, if_neg k10, if_neg k11, if_pos k12]
    rw [e]
    exact h.seenOp.mono (Nat.le_succ _)
  have e : doM H o = (H, 0, [], 0) := by unfold doM; rw [if_neg k0, if_neg k1, if_neg k2, if_neg k3, if_neg k4, if_neg k5, if_neg k6, if_neg k7, if_neg k8, if_neg k9, if_neg k10, if_neg k11, if_neg k12]
  rw [e]
  exact h.mono (Nat.le_succ _)
variable {w0 w : World} {ha hb : Nat} {K : Nat → Prop} {H G : Hp} {N : Nat}
theorem Car2.do (c : Car2 w0 ha hb K H G w) (ok : Ok H N) (hN : N ≤ 900) (o : OpM) (hr : OpRd w o) (hs : OpSm o) :
    Calls Try.prog 44 #[.pointer (some ⟨ha, 0, none⟩), .agg #[.int .i64 o.k, .int .i64 o.r, .int .i64 o.x, .int .i64 o.a, .int .i64 o.b, .string o.tx, .int .i64 o.cls, .slice o.ra o.refs.length o.rC, .slice o.wa o.words.length o.wC, .bool o.on]] w fun e w' => (∃ SA SC, e = .returned (.tuple #[.int .i64 (doM H o).2.1, .slice SA (doM H o).2.2.1.length SC, .int .i64 (doM H o).2.2.2])) ∧ Car2 w0 ha hb K (doM H o).1 G w' ∧ Mut (Off w0 K) w w' :=
  c.lcall fun _ c1 => (do_is c1 ok hN o hr hs).mono fun _ _ ⟨SA, SC, h1, _, h3⟩ => ⟨_, h3, fun h4 h5 => ⟨⟨SA, SC, h1⟩, h4, h5⟩⟩
theorem Car2.seenOp (c : Car2 w0 ha hb K H G w) (ok : Ok H N) (hN : N ≤ 900) :
    Calls Try.prog 42 #[.pointer (some ⟨ha, 0, none⟩)] w fun e w' => (∃ LA LC, e = .returned (.slice LA (seenH H).2.length LC) ∧ w'.ownsRow w.heap.size 26 1 (.slice LA (seenH H).2.length LC) (seenH H).2.length (ints (seenH H).2)) ∧ Car2 w0 ha hb K (seenH H).1 G w' ∧ Mut (Off w0 K) w w' :=
  c.lcall fun _ c1 => (c1.seen ok (by omega)).mono fun _ _ ⟨LA, LC, h1, h2, h3⟩ => ⟨_, h3, fun h4 h5 => ⟨⟨LA, LC, h1, h2⟩, h4, h5⟩⟩
theorem Car2.watch (c : Car2 w0 ha hb K H G w) (on : Bool) :
    Calls Try.prog 36 #[.pointer (some ⟨ha, 0, none⟩), .bool on] w fun e w' => e = .returned (.tuple #[]) ∧ Car2 w0 ha hb K (watchH H on) G w' :=
  c.lcall fun _ c1 => (c1.watch on).mono fun _ _ ⟨h1, h3⟩ => ⟨_, h3, fun h4 _ => ⟨h1, h4⟩⟩
theorem Car2.all (c : Car2 w0 ha hb K H G w) (ok : Ok H N) (hN : N ≤ 900) : Calls Try.prog 40 #[.pointer (some ⟨ha, 0, none⟩)] w (RfPost w (allH H)) := c.lquiet fun _ c1 => c1.all ok (by omega)
theorem Car2.refs (c : Car2 w0 ha hb K H G w) (ok : Ok H N) (hN : N ≤ 900) (r : Int) : Calls Try.prog 41 #[.pointer (some ⟨ha, 0, none⟩), .int .i64 r] w (RfPost w (refsH H r)) := c.lquiet fun _ c1 => c1.refs ok (by omega) r
theorem Car2.count (c : Car2 w0 ha hb K H G w) (ok : Ok H N) (hN : N ≤ 900) (r : Int) : Calls Try.prog 39 #[.pointer (some ⟨ha, 0, none⟩), .int .i64 r] w fun e w' => e = .returned (.int .i64 (countH H r)) ∧ Below w.heap.size w w' := c.lquiet fun _ c1 => c1.count ok (by omega) r
theorem Car2.kind (c : Car2 w0 ha hb K H G w) (r : Int) : Calls Try.prog 37 #[.pointer (some ⟨ha, 0, none⟩), .int .i64 r] w fun e w' => e = .returned (.int .i64 (kindH H r)) ∧ w = w' := c.lquiet fun _ c1 => c1.kind r
/-- What is made exists. -/
theorem made_is (H : Hp) (o : OpM) (h11 : o.k ≠ 11) (h0 : (doM H o).2.1 ≠ 0) : Mp.get (doM H o).1.objs (doM H o).2.1 ≠ none ∧ o.k ≠ 9 := by
  have key : ∀ T : Hp × Int × Int, (T.2.1 = 0 ∨ ∃ G ob, T.1 = addH G ob ∧ T.2.1 = (G.last : Int) + 1) → (three T).2.1 ≠ 0 → Mp.get (three T).1.objs (three T).2.1 ≠ none := fun T hT h1 => by
    rcases hT with e | ⟨G, ob, e1, e2⟩
    · exact absurd e h1
    · show Mp.get T.1.objs T.2.1 ≠ none
      rw [e1, e2, addH_objs, Mp.get_put, if_pos rfl]
      simp
  have h9 : o.k ≠ 9 := fun h9 => h0 (by unfold doM; simp [h9]; rfl)
  refine ⟨?_, h9⟩
  by_cases k0 : o.k = 0
  · have e : doM H o = three (textH H (textOf o.tx).1 (textOf o.tx).2 (strLen (textOf o.tx).1 (textOf o.tx).2)) := by unfold doM; rw [if_pos k0]
    rw [e] at h0 ⊢
    refine key _ ?_ h0
    unfold textH
    repeat' split
    all_goals first | exact .inl rfl | exact .inr ⟨newRow H _, _, rfl, rfl⟩
  by_cases k1 : o.k = 1
  · have e : doM H o = three (arrayH H o.cls o.refs o.a) := by unfold doM; rw [if_neg k0, if_pos k1]
    rw [e] at h0 ⊢
    refine key _ ?_ h0
    unfold arrayH
    repeat' split
    all_goals first | exact .inl rfl | exact .inr ⟨newRow H _, _, rfl, rfl⟩
  by_cases k2 : o.k = 2
  · have e : doM H o = three (partH H o.r o.a o.b) := by unfold doM; rw [if_neg k0, if_neg k1, if_pos k2]
    rw [e] at h0 ⊢
    refine key _ ?_ h0
    unfold partH
    repeat' split
    all_goals first | exact .inl rfl | exact .inr ⟨H.updR _ Rw.inc, _, rfl, rfl⟩
  by_cases k3 : o.k = 3
  · have e : doM H o = three (makeH H o.a o.cls o.refs) := by unfold doM; rw [if_neg k0, if_neg k1, if_neg k2, if_pos k3]
    rw [e] at h0 ⊢
    refine key _ ?_ h0
    unfold makeH
    repeat' split
    all_goals first | exact .inl rfl | exact .inr ⟨newRow H _, _, rfl, rfl⟩
  by_cases k4 : o.k = 4
  · have e : doM H o = three (consH H o.cls o.refs o.words o.r) := by unfold doM; rw [if_neg k0, if_neg k1, if_neg k2, if_neg k3, if_pos k4]
    rw [e] at h0 ⊢
    refine key _ ?_ h0
    unfold consH
    repeat' split
    all_goals first | exact .inl rfl | skip
    all_goals exact .inr ⟨newRow _ _, _, rfl, by show (H.last : Int) + 1 = (((_ : Hp).last : Nat) : Int) + 1; rw [show ∀ (G : Hp) x, (newRow G x).last = G.last from fun _ _ => rfl, note_last]⟩
  exfalso
  refine h0 ?_
  unfold doM
  rw [if_neg k0, if_neg k1, if_neg k2, if_neg k3, if_neg k4]
  repeat' split
  all_goals rfl
/-- The blocks of a heap are no lists of references. -/
theorem HpAt.sepRef {w : World} {hb : Nat} {A : HA} {H : Hp} {S : Nat → Prop} (h : HpAt w hb A H S) {P : Nat → Prop} (hP : ∀ k, P k → ∃ cs fr, w.heap[k]? = some (.cells cs 26 fr)) : HpAt w hb A H (fun k => S k ∧ ¬ P k) := by
  have ne : ∀ k cs t fr, w.heap[k]? = some (.cells cs t fr) → t ≠ 26 → ¬ P k := fun k cs t fr h1 h2 h3 => by
    obtain ⟨cs', fr', h4⟩ := hP k h3
    rw [h1] at h4
    injection h4 with h4
    injection h4 with _ h5
    exact h2 h5
  have nm : ∀ k es clk, w.heap[k]? = some (.map es clk) → ¬ P k := fun k es clk h1 h3 => by
    obtain ⟨cs', fr', h4⟩ := hP k h3
    rw [h1] at h4
    injection h4 with h4
    cases h4
  refine { h with Sh := ⟨h.Sh, ne _ _ _ _ h.blk (by decide)⟩, Sm := ⟨h.Sm, ?_⟩, Ss := fun b hb => ⟨h.Ss b hb, ?_⟩, So := fun r o ho => ⟨h.So r o ho, ne _ _ _ _ (h.obj r o ho) (by decide)⟩, Sw := fun k x a hx ha => ⟨h.Sw k x a hx ha, ?_⟩, St := fun k x hx hi => ⟨h.St k x hx hi, ne _ _ _ _ (h.sto k x hx hi) (by decide)⟩, Sp := fun r o a ho he ha => ⟨⟨(h.Sp r o a ho he ha).1, ?_⟩, (h.Sp r o a ho he ha).2⟩, Slt := fun k hk => h.Slt k hk.1 }
  · obtain ⟨es, clk, hm, _⟩ := h.omap; exact nm _ _ _ hm
  · obtain ⟨es, clk, hm, _⟩ := h.smap b hb; exact nm _ _ _ hm
  · obtain ⟨_, cs, hc⟩ := own_head (h.row k x hx) a ha; exact ne _ _ _ _ hc (by decide)
  · obtain ⟨_, cs, fr, hc⟩ := h.Sp r o a ho he ha; exact ne _ _ _ _ hc (by decide)
theorem Car2.sepRef (c : Car2 w0 ha hb K H G w) {P : Nat → Prop} (hP : ∀ k, P k → ∃ cs fr, w.heap[k]? = some (.cells cs 26 fr)) : Car2 w0 ha hb (fun k => K k ∨ P k) H G w := by
  obtain ⟨⟨Aa, Sa, Ab, Sb, h1, h2, h3, h4, h5⟩, b, k⟩ := c
  refine ⟨⟨Aa, _, Ab, _, h1.sepRef hP, h2.sepRef hP, fun x hx => ⟨(h3 x hx.1).1, fun e => e.elim (h3 x hx.1).2 hx.2⟩, fun x hx => ⟨(h4 x hx.1).1, fun e => e.elim (h4 x hx.1).2 hx.2⟩, fun x hx hy => h5 x hx.1 hy.1⟩, b, fun x hx => hx.elim (k x) fun e => ?_⟩
  obtain ⟨cs, fr, h6⟩ := hP x e
  exact lt_of_heap h6
end Go.Proofs.Ytodfpclekihbhaa

