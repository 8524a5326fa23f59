/- Texts on the heap, merged: W22, W23, W24. -/
import Derived.Test.YtodfpclekihbhaaG07
/- slices.Equal, Index, Contains, IsSorted. -/
namespace Go.Proofs.Ytodfpclekihbhaa
open Go.RowKit Go.Shelf

/-- A slice of references that can be read. -/
def RdI (w : World) (A : Option Addr) (l : List Int) : Prop := ∀ j (h : j < l.length), ∃ g o, A = some ⟨g, o, none⟩ ∧ g < w.heap.size ∧ w.cell? ⟨g, o + j, none⟩ = some (.int .i64 (l[j]'h))
theorem RdI.mut {T : Nat → Prop} {w w' : World} {A : Option Addr} {l : List Int} (h : RdI w A l) (hm : Mut T w w') (hn : ∀ a, A = some a → ¬ T a.block) : RdI w' A l := fun j hj => by
  obtain ⟨g, o, h1, h2, h3⟩ := h j hj
  exact ⟨g, o, h1, Nat.lt_of_lt_of_le h2 hm.size, (hm.cell h2 (hn _ h1)).trans h3⟩
theorem RdI.below {w w' : World} {A : Option Addr} {l : List Int} (h : RdI w A l) (hb : Below w.heap.size w w') : RdI w' A l := h.mut (T := fun _ => False) (Mut.of_below hb) fun _ _ h => h
theorem RdI.of_own {w : World} {B n C : Nat} {A : Option Addr} {l : List Int} (h : w.ownsRow B 26 1 (.slice A n C) n (ints l)) : RdI w A l := fun j hj => by
  have hn : n = l.length := by have := h.1; simp [ints] at this; omega
  subst hn
  obtain ⟨g, h1, h2, h3, h4⟩ := ints_get hj h
  exact ⟨g, 0, h1, h2, by rw [Nat.zero_add]; exact h4⟩
theorem BoolsAt.below {w w' : World} {A : Option Addr} {l : List Bool} (h : BoolsAt w A l) (hb : Below w.heap.size w w') : BoolsAt w' A l := h.mut (S := fun _ => False) (Mut.of_below hb) fun _ _ _ h => h
theorem eqlen_ints {w : World} {A A' : Option Addr} {l l' : List Int} (C C' : Nat) (hl : l.length ≤ 100000000) (hl2 : l'.length ≤ 100000000) (hne : l.length ≠ l'.length) :
    Calls Try.prog 49 #[.slice A l.length C, .slice A' l'.length C'] w fun e w' => e = .returned (.bool (decide (l = l'))) ∧ Below w.heap.size w w' := by
  have HE : Hid (decide (l = l') = false) := Lib.hid (decide_eq_false fun e => hne (by rw [e]))
  generalize l.length = n at *
  generalize l'.length = m at *
  have k1 : (n != m) = !false := by simpa using hne
  have k2 : ((n : Int) != (m : Int)) = !false := (bne_iff_ne (a := (n : Int)) (b := (m : Int))).2 (by omega)
  clear hne
  go_enter Try.func49, Try.ntmps49
  go_wp2
  all_goals go_ret
  all_goals exact ⟨by rw [HE.out]; rfl, Below.refl _ _⟩
set_option maxHeartbeats 1000000 in
theorem equal_ints {w : World} {A A' : Option Addr} {l l' : List Int} (C C' : Nat) (h : RdI w A l) (h' : RdI w A' l') (hl : l.length ≤ 100000000) (hl2 : l'.length ≤ 100000000) :
    Calls Try.prog 49 #[.slice A l.length C, .slice A' l'.length C'] w fun e w' => e = .returned (.bool (decide (l = l'))) ∧ Below w.heap.size w w' := by
  by_cases hlen : l.length ≠ l'.length
  · exact eqlen_ints C C' hl hl2 hlen
  · have hlen : l.length = l'.length := Classical.not_not.1 hlen
    have HL := Lib.hid hlen
    have H := Lib.hid h
    have H' := Lib.hid h'
    rw [← hlen]
    clear h h' hlen hl2
    go_enter Try.func49, Try.ntmps49
    go_wp2
    go_loopw [13] (fun p wr => ∃ j : Nat, j ≤ l.length ∧ p = .int .i64 j ∧ Hid (l.take j = l'.take j) ∧ Hid (Below w.heap.size w wr)) (fun i _ => l.length - (intOf i).toNat)
    case atStart => exact ⟨0, Nat.zero_le _, rfl, Lib.hid rfl, Lib.hid (Below.refl _ _)⟩
    case round =>
      obtain ⟨j, hj, rfl, HT, HB⟩ := hrel
      by_cases hlt : j < l.length
      · have hlt' : j < l'.length := by rw [← HL.out]; exact hlt
        obtain ⟨g, o, hA, hg, c1⟩ := (H.out.below HB.out) j hlt
        obtain ⟨g', o', hA', hg', c2⟩ := (H'.out.below HB.out) j hlt'
        have q0 : (0 : Int) ≤ (j : Int) := by omega
        have q1 : (j : Int) < (l.length : Int) := by omega
        have HX : Hid (l.take (j + 1) = l.take j ++ [l[j]'hlt] ∧ l'.take (j + 1) = l'.take j ++ [l'[j]'hlt']) := Lib.hid ⟨List.take_succ_eq_append_getElem hlt, List.take_succ_eq_append_getElem hlt'⟩
        by_cases he : l[j]'hlt = l'[j]'hlt'
        · have HX2 : Hid (l.take (j + 1) = l'.take (j + 1)) := Lib.hid (by rw [HX.out.1, HX.out.2, HT.out, he])
          rw [hA, hA']
          rw [he] at c1
          clear hA hA' he HX
          generalize l'[j]'hlt' = y at *
          clear hlt'
          go_wp2
          go_quiet (fail)
          go_wp2
          go_roundw
          case rel => exact ⟨j + 1, by omega, by go_num, HX2, Lib.hid (HB.out.dn _)⟩
          case measure => simp [intOf]; omega
        · have HE : Hid (decide (l = l') = false) := Lib.hid (decide_eq_false fun e => he (by simp only [e]))
          rw [hA, hA']
          clear hA hA' HX
          generalize l'[j]'hlt' = y at *
          generalize l[j]'hlt = x at *
          have k1 : (x != y) = !false := by simpa using he
          clear hlt' he
          go_wp2
          go_quiet (fail)
          go_wp2
          go_ret
          exact ⟨by rw [HE.out]; rfl, HB.out.dn _⟩
      · obtain rfl : j = l.length := by omega
        have HE : Hid (decide (l = l') = true) := Lib.hid (decide_eq_true (by have := HT.out; rwa [List.take_length, HL.out, List.take_length] at this))
        clear hlt
        go_wp2
        go_ret
        exact ⟨by rw [HE.out]; rfl, HB.out⟩
theorem eqlen_bools {w : World} {A A' : Option Addr} {l l' : List Bool} (C C' : Nat) (hl : l.length ≤ 100000000) (hl2 : l'.length ≤ 100000000) (hne : l.length ≠ l'.length) :
    Calls Try.prog 58 #[.slice A l.length C, .slice A' l'.length C'] w fun e w' => e = .returned (.bool (decide (l = l'))) ∧ Below w.heap.size w w' := by
  have HE : Hid (decide (l = l') = false) := Lib.hid (decide_eq_false fun e => hne (by rw [e]))
  generalize l.length = n at *
  generalize l'.length = m at *
  have k1 : (n != m) = !false := by simpa using hne
  have k2 : ((n : Int) != (m : Int)) = !false := (bne_iff_ne (a := (n : Int)) (b := (m : Int))).2 (by omega)
  clear hne
  go_enter Try.func58, Try.ntmps58
  go_wp2
  all_goals go_ret
  all_goals exact ⟨by rw [HE.out]; rfl, Below.refl _ _⟩
set_option maxHeartbeats 1000000 in
theorem equal_bools {w : World} {A A' : Option Addr} {l l' : List Bool} (C C' : Nat) (h : BoolsAt w A l) (h' : BoolsAt w A' l') (hl : l.length ≤ 100000000) (hl2 : l'.length ≤ 100000000) :
    Calls Try.prog 58 #[.slice A l.length C, .slice A' l'.length C'] w fun e w' => e = .returned (.bool (decide (l = l'))) ∧ Below w.heap.size w w' := by
  by_cases hlen : l.length ≠ l'.length
  · exact eqlen_bools C C' hl hl2 hlen
  · have hlen : l.length = l'.length := Classical.not_not.1 hlen
    have HL := Lib.hid hlen
    have H := Lib.hid h
    have H' := Lib.hid h'
    rw [← hlen]
    clear h h' hlen hl2
    go_enter Try.func58, Try.ntmps58
    go_wp2
    go_loopw [13] (fun p wr => ∃ j : Nat, j ≤ l.length ∧ p = .int .i64 j ∧ Hid (l.take j = l'.take j) ∧ Hid (Below w.heap.size w wr)) (fun i _ => l.length - (intOf i).toNat)
    case atStart => exact ⟨0, Nat.zero_le _, rfl, Lib.hid rfl, Lib.hid (Below.refl _ _)⟩
    case round =>
      obtain ⟨j, hj, rfl, HT, HB⟩ := hrel
      by_cases hlt : j < l.length
      · have hlt' : j < l'.length := by rw [← HL.out]; exact hlt
        obtain ⟨g, o, hA, hg, c1⟩ := (H.out.below HB.out) j hlt
        obtain ⟨g', o', hA', hg', c2⟩ := (H'.out.below HB.out) j hlt'
        have q0 : (0 : Int) ≤ (j : Int) := by omega
        have q1 : (j : Int) < (l.length : Int) := by omega
        have HX : Hid (l.take (j + 1) = l.take j ++ [l[j]'hlt] ∧ l'.take (j + 1) = l'.take j ++ [l'[j]'hlt']) := Lib.hid ⟨List.take_succ_eq_append_getElem hlt, List.take_succ_eq_append_getElem hlt'⟩
        by_cases he : l[j]'hlt = l'[j]'hlt'
        · have HX2 : Hid (l.take (j + 1) = l'.take (j + 1)) := Lib.hid (by rw [HX.out.1, HX.out.2, HT.out, he])
          rw [hA, hA']
          rw [he] at c1
          clear hA hA' he HX
          generalize l'[j]'hlt' = y at *
          clear hlt'
          cases y
          all_goals
            go_wp2
            go_quiet (fail)
            go_wp2
            go_roundw
            case rel => exact ⟨j + 1, by omega, by go_num, HX2, Lib.hid (HB.out.dn _)⟩
            case measure => simp [intOf]; omega
        · have HE : Hid (decide (l = l') = false) := Lib.hid (decide_eq_false fun e => he (by simp only [e]))
          rw [hA, hA']
          clear hA hA' HX
          generalize l'[j]'hlt' = y at *
          generalize l[j]'hlt = x at *
          clear hlt'
          cases x <;> cases y
          · exact absurd rfl he
          · clear he
            go_wp2
            go_quiet (fail)
            go_wp2
            go_ret
            exact ⟨by rw [HE.out]; rfl, HB.out.dn _⟩
          · clear he
            go_wp2
            go_quiet (fail)
            go_wp2
            go_ret
            exact ⟨by rw [HE.out]; rfl, HB.out.dn _⟩
          · exact absurd rfl he
      · obtain rfl : j = l.length := by omega
        have HE : Hid (decide (l = l') = true) := Lib.hid (decide_eq_true (by have := HT.out; rwa [List.take_length, HL.out, List.take_length] at this))
        clear hlt
        go_wp2
        go_ret
        exact ⟨by rw [HE.out]; rfl, HB.out⟩
end Go.Proofs.Ytodfpclekihbhaa

/- What a law's walk carries of a heap; its calls. -/
namespace Go.Proofs.Ytodfpclekihbhaa
open Go.RowKit Go.Shelf

/-- Blocks of the call's own that are not kept. -/
def Off (w0 : World) (K : Nat → Prop) : Nat → Prop := fun k => w0.heap.size ≤ k ∧ ¬ K k
/-- The heap H lies at hb; its blocks are of the law's own, and none of K; what lay in w0 is as it was. -/
structure Car (w0 : World) (hb : Nat) (K : Nat → Prop) (H : Hp) (w : World) : Prop where
  ex : ∃ A S, HpAt w hb A H S ∧ ∀ k, S k → Off w0 K k
  bel : Below w0.heap.size w0 w
  klt : ∀ k, K k → k < w.heap.size
variable {w0 w : World} {hb : Nat} {K : Nat → Prop} {H : Hp}
theorem Car.below {w' : World} (c : Car w0 hb K H w) (h : Below w.heap.size w w') : Car w0 hb K H w' := by
  obtain ⟨⟨A, S, hp, hS⟩, hb, hk⟩ := c
  exact ⟨⟨A, S, hp.below h, hS⟩, hb.trans (h.mono hb.size), fun k h1 => Nat.lt_of_lt_of_le (hk k h1) h.size⟩
/-- Kept blocks turn. -/
theorem Car.turn {w' : World} {T : Nat → Prop} (c : Car w0 hb K H w) (h : Mut T w w') (hT : ∀ k, T k → w0.heap.size ≤ k ∧ K k) : Car w0 hb K H w' := by
  obtain ⟨⟨A, S, hp, hS⟩, hb, hk⟩ := c
  exact ⟨⟨A, S, hp.mut h fun k h1 h2 => (hS k h1).2 (hT k h2).2, hS⟩, hb.trans (h.to_below hb.size fun k h1 => (hT k h1).1), fun k h1 => Nat.lt_of_lt_of_le (hk k h1) h.size⟩
/-- A new block is kept. -/
theorem Car.keep {w' : World} (c : Car w0 hb K H w) (h : Below w.heap.size w w') {p : Nat} (hp1 : w.heap.size ≤ p) (hp2 : p < w'.heap.size) : Car w0 hb (fun k => K k ∨ k = p) H w' := by
  obtain ⟨⟨A, S, hp, hS⟩, hb, hk⟩ := c
  refine ⟨⟨A, S, hp.below h, fun k h1 => ⟨(hS k h1).1, ?_⟩⟩, hb.trans (h.mono hb.size), ?_⟩
  · rintro (h2 | rfl)
    · exact (hS k h1).2 h2
    · have := hp.Slt _ h1; omega
  · rintro k (h1 | rfl)
    · exact Nat.lt_of_lt_of_le (hk k h1) h.size
    · exact hp2
theorem Car.forget {K' : Nat → Prop} (c : Car w0 hb K H w) (h : ∀ k, K' k → K k) : Car w0 hb K' H w := by
  obtain ⟨⟨A, S, hp, hS⟩, hb, hk⟩ := c
  exact ⟨⟨A, S, hp, fun k h1 => ⟨(hS k h1).1, fun h2 => (hS k h1).2 (h k h2)⟩⟩, hb, fun k h1 => hk k (h k h1)⟩
/-- What a call leaves to a law. -/
def CPost (w0 w : World) (hb : Nat) (K : Nat → Prop) (H' : Hp) (w' : World) : Prop := Car w0 hb K H' w' ∧ Mut (Off w0 K) w w'
theorem CPost.of_nx {A : HA} {S : Nat → Prop} {H' : Hp} {w' : World} (hS : ∀ k, S k → Off w0 K k) (hb0 : Below w0.heap.size w0 w) (hk : ∀ k, K k → k < w.heap.size) (hlt : ∀ k, S k → k < w.heap.size) (h : Nx w hb S H' w') : CPost w0 w hb K H' w' := by
  obtain ⟨A', S', h1, h2, h3⟩ := h
  refine ⟨⟨⟨A', S', h1, fun k hk2 => ?_⟩, hb0.trans (h2.to_below hb0.size fun k hk2 => (hS k hk2).1), fun k hk2 => Nat.lt_of_lt_of_le (hk k hk2) h2.size⟩, h2.mono fun k hk2 => .inl (hS k hk2)⟩
  rcases h3 k hk2 with h4 | h4
  · exact hS k h4
  · exact ⟨Nat.le_trans hb0.size h4, fun h5 => by have := hk k h5; omega⟩
theorem Car.step {P : Program} {f : FuncId} {args : Array Value} {R : Ending → World → Prop} (c : Car w0 hb K H w) (h : ∀ A S, HpAt w hb A H S → Calls P f args w fun e w' => ∃ H', Nx w hb S H' w' ∧ (CPost w0 w hb K H' w' → R e w')) : Calls P f args w R := by
  obtain ⟨⟨A, S, hp, hS⟩, hb0, hk⟩ := c
  exact (h A S hp).mono fun e w' ⟨H', h1, h2⟩ => h2 (CPost.of_nx (A := A) hS hb0 hk hp.Slt h1)
theorem Car.quiet {P : Program} {f : FuncId} {args : Array Value} {R : Ending → World → Prop} (c : Car w0 hb K H w) (h : ∀ A S, HpAt w hb A H S → Calls P f args w R) : Calls P f args w R := by
  obtain ⟨⟨A, S, hp, hS⟩, hb0, hk⟩ := c
  exact h A S hp
theorem Ok.mu4 {H : Hp} {N : Nat} (h : Ok H N) (hN : N ≤ 1000) : muH H ≤ 40000000 := by have := h.mu; omega
theorem Ok.bd {H : Hp} {N : Nat} (h : Ok H N) (hN : N ≤ 1000) : HoldsLe H 1000000000 := fun r o ho => by have := h.st.holds r o ho; omega
theorem Ok.lst {H : Hp} {N : Nat} (h : Ok H N) (hN : N ≤ 1000) : H.last ≤ 1000000 := by have := h.st.last; omega
theorem Ok.cnt {H : Hp} {N : Nat} (h : Ok H N) (hN : N ≤ 1000) {r : Int} {o : Ob} (ho : Mp.get H.objs r = some o) : 0 ≤ o.holds ∧ o.holds ≤ 1000000000 ∧ 0 ≤ o.rc ∧ o.rc ≤ 1000000000 := by
  have h1 := h.inv.pos r o ho
  have h2 := h.st.holds r o ho
  have h3 := h.inv.cnt r o ho
  rw [List.count_nil] at h3
  have h4 := inH_le H r
  have h5 := h.mu
  have h6 : muH H = wsum H.rows + 2 * H.objs.length := rfl
  exact ⟨h1.1, by omega, by omega, by omega⟩
variable {N : Nat}
theorem Car.make (c : Car w0 hb K H w) (ok : Ok H N) (hN : N ≤ 1000) (kind cls : Int) {ad : Option Addr} {C : Nat} {refs : List Bool} (hr : RdB w ad C refs) :
    Calls Try.prog 29 #[.pointer (some ⟨hb, 0, none⟩), .int .i64 kind, .agg #[.int .i64 cls, .slice ad refs.length C]] w fun e w' => e = .returned (.tuple #[.int .i64 (makeH H kind cls refs).2.1, .int .i64 (makeH H kind cls refs).2.2]) ∧ CPost w0 w hb K (makeH H kind cls refs).1 w' :=
  c.step fun A S hp => (make_calls hp ok.inv ok.row_le (ok.lst hN) kind cls hr).mono fun _ _ ⟨h1, h2⟩ => ⟨_, h2, fun h3 => ⟨h1, h3⟩⟩
theorem Car.set (c : Car w0 hb K H w) (ok : Ok H N) (hN : N ≤ 1000) (r i num ref : Int) :
    Calls Try.prog 32 #[.pointer (some ⟨hb, 0, none⟩), .int .i64 r, .int .i64 i, .agg #[.int .i64 num, .int .i64 ref]] w fun e w' => e = .returned (.int .i64 (setH H r i ⟨num, ref⟩).2) ∧ CPost w0 w hb K (setH H r i ⟨num, ref⟩).1 w' :=
  c.step fun A S hp => (set_calls hp ok.inv (by have := ok.mu4 hN; omega) (ok.bd hN) ok.st.len r i num ref).mono fun _ _ ⟨h1, h2, h3⟩ => ⟨_, Nx.same h2 h3, fun h4 => ⟨h1, h4⟩⟩
theorem Car.put (c : Car w0 hb K H w) (ok : Ok H N) (hN : N ≤ 1000) (r el i num ref : Int) :
    Calls Try.prog 16 #[.pointer (some ⟨hb, 0, none⟩), .int .i64 r, .int .i64 el, .int .i64 i, .agg #[.int .i64 num, .int .i64 ref]] w fun e w' => e = .returned (.int .i64 (putH H r el i ⟨num, ref⟩).2) ∧ CPost w0 w hb K (putH H r el i ⟨num, ref⟩).1 w' :=
  c.step fun A S hp => (put_calls hp ok.inv (by have := ok.mu4 hN; omega) (ok.bd hN) ok.st.len r el i num ref).mono fun _ _ ⟨h1, h2, h3⟩ => ⟨_, Nx.same h2 h3, fun h4 => ⟨h1, h4⟩⟩
theorem Car.drop (c : Car w0 hb K H w) (ok : Ok H N) (hN : N ≤ 1000) (r : Int) :
    Calls Try.prog 35 #[.pointer (some ⟨hb, 0, none⟩), .int .i64 r] w fun e w' => e = .returned (.int .i64 (dropH H r).2) ∧ CPost w0 w hb K (dropH H r).1 w' :=
  c.step fun A S hp => (drop_calls hp ok.inv (by have := ok.mu4 hN; omega) (ok.bd hN) r).mono fun _ _ ⟨h1, h2, h3⟩ => ⟨_, Nx.same h2 h3, fun h4 => ⟨h1, h4⟩⟩
theorem Car.hold (c : Car w0 hb K H w) (ok : Ok H N) (hN : N ≤ 1000) (r : Int) :
    Calls Try.prog 34 #[.pointer (some ⟨hb, 0, none⟩), .int .i64 r] w fun e w' => e = .returned (.int .i64 (holdH H r).2) ∧ CPost w0 w hb K (holdH H r).1 w' :=
  c.step fun A S hp => (hold_calls hp r fun o ho => ⟨(ok.cnt hN ho).1, (ok.cnt hN ho).2.1⟩).mono fun _ _ ⟨h1, h2, h3⟩ => ⟨_, Nx.same h2 h3, fun h4 => ⟨h1, h4⟩⟩
theorem Car.clear (c : Car w0 hb K H w) (ok : Ok H N) (hN : N ≤ 1000) (r : Int) :
    Calls Try.prog 33 #[.pointer (some ⟨hb, 0, none⟩), .int .i64 r] w fun e w' => e = .returned (.int .i64 (clearH H r).2) ∧ CPost w0 w hb K (clearH H r).1 w' :=
  c.step fun A S hp => (clear_calls hp ok.inv (ok.mu4 hN) (ok.bd hN) r).mono fun _ _ ⟨h1, h2, h3⟩ => ⟨_, Nx.same h2 h3, fun h4 => ⟨h1, h4⟩⟩
theorem Car.all (c : Car w0 hb K H w) (ok : Ok H N) (hN : N ≤ 1000) : Calls Try.prog 40 #[.pointer (some ⟨hb, 0, none⟩)] w (RfPost w (allH H)) := c.quiet fun _ _ hp => all_calls hp ok.inv (ok.lst hN)
theorem Car.refs (c : Car w0 hb K H w) (ok : Ok H N) (hN : N ≤ 1000) (r : Int) : Calls Try.prog 41 #[.pointer (some ⟨hb, 0, none⟩), .int .i64 r] w (RfPost w (refsH H r)) := c.quiet fun _ _ hp => refs_calls hp ok.inv (by have := ok.mu4 hN; omega) r
theorem Car.count (c : Car w0 hb K H w) (ok : Ok H N) (hN : N ≤ 1000) (r : Int) : Calls Try.prog 39 #[.pointer (some ⟨hb, 0, none⟩), .int .i64 r] w fun e w' => e = .returned (.int .i64 (countH H r)) ∧ Below w.heap.size w w' := c.quiet fun _ _ hp => Count_calls hp r fun o ho => ok.cnt hN ho
theorem Car.kind (c : Car w0 hb K H w) (r : Int) : Calls Try.prog 37 #[.pointer (some ⟨hb, 0, none⟩), .int .i64 r] w fun e w' => e = .returned (.int .i64 (kindH H r)) ∧ w = w' := c.quiet fun _ _ hp => kind_calls hp r
theorem Car.holds (c : Car w0 hb K H w) (r : Int) : Calls Try.prog 38 #[.pointer (some ⟨hb, 0, none⟩), .int .i64 r] w fun e w' => e = .returned (.int .i64 (holdsH H r)) ∧ w = w' := c.quiet fun _ _ hp => holds_calls hp r
theorem Car.store (c : Car w0 hb K H w) (ok : Ok H N) (r : Int) : Calls Try.prog 46 #[.pointer (some ⟨hb, 0, none⟩), .int .i64 r] w fun e w' => e = .returned (.tuple #[.int .i64 (storeOfH H r).1, .int .i64 (storeOfH H r).2]) ∧ w = w' := c.quiet fun _ _ hp => store_calls hp r fun o ho hk => by
  obtain ⟨x, hx, hA, _⟩ := ok.inv.row r o ho
  exact ⟨x, hx, hA.2 hk⟩
theorem new_car (w0 : World) : Calls Try.prog 12 #[] w0 fun e w' => ∃ hb, e = .returned (.pointer (some ⟨hb, 0, none⟩)) ∧ Car w0 hb (fun _ => False) emptyH w' :=
  (new_calls w0).mono fun _ _ ⟨hb, A, S, h1, h2, h3, h4⟩ => ⟨hb, h1, ⟨A, S, h2, fun k hk => ⟨h4 k hk, fun h => h⟩⟩, h3, fun _ h => h.elim⟩
/-- New, beside other things of the law. -/
theorem new_car2 {K : Nat → Prop} (hb0 : Below w0.heap.size w0 w) (hk : ∀ k, K k → k < w.heap.size) : Calls Try.prog 12 #[] w fun e w' => ∃ hb, e = .returned (.pointer (some ⟨hb, 0, none⟩)) ∧ Car w0 hb K emptyH w' ∧ Below w.heap.size w w' :=
  (new_calls w).mono fun _ _ ⟨hb, A, S, h1, h2, h3, h4⟩ => ⟨hb, h1, ⟨⟨A, S, h2, fun k hk2 => ⟨Nat.le_trans hb0.size (h4 k hk2), fun h => by have := hk k h; have := h4 k hk2; omega⟩⟩, hb0.trans (h3.mono hb0.size), fun k h => Nat.lt_of_lt_of_le (hk k h) h3.size⟩, h3⟩
/-- A kept block is as it was. -/
theorem CPost.at {H' : Hp} {w' : World} (h : CPost w0 w hb K H' w') {k : Nat} {o : Obj} (ho : w.heap[k]? = some o) (hk : K k ∨ k < w0.heap.size) : w'.heap[k]? = some o :=
  (h.2.block k (lt_of_heap ho) fun h1 => by
    rcases hk with h2 | h2
    · exact h1.2 h2
    · have := h1.1; omega).trans ho
end Go.Proofs.Ytodfpclekihbhaa

/- The examples of the chapter hold. -/
namespace Go.Proofs.Ytodfpclekihbhaa
open Go.RowKit Go.Shelf

def kk (a b : Nat) : Nat → Prop := fun k => (False ∨ k = a) ∨ k = b
/-- The law's boxes in the examples: a list of one boolean, and a shape. -/
structure Bx (w : World) (a b : Nat) : Prop where
  k1 : w.heap[a]? = some (.cells #[.bool true] 4 (0, 0))
  k2 : w.heap[b]? = some (.cells #[.int .i64 0, .slice (some ⟨a, 0, none⟩) 1 1] 32 (0, 0))
theorem Bx.rd {w : World} {a b : Nat} (h : Bx w a b) : RdB w (some ⟨a, 0, none⟩) 1 [true] := ⟨fun p hp j u hj => by
    injection hp with hp
    subst hp
    cases j with
    | zero => simp at hj; subst hj; exact cell_of_heap h.k1 rfl
    | succ j => simp at hj, fun e => by cases e⟩
theorem Bx.below {w w' : World} {a b : Nat} (h : Bx w a b) (hb : Below w.heap.size w w') : Bx w' a b := ⟨(hb.block _ (lt_of_heap h.k1)).trans h.k1, (hb.block _ (lt_of_heap h.k2)).trans h.k2⟩
theorem Bx.at {w0 w w' : World} {hb a b : Nat} {H' : Hp} (h : Bx w a b) (c : CPost w0 w hb (kk a b) H' w') : Bx w' a b := ⟨c.at h.k1 (.inl (.inl (.inr rfl))), c.at h.k2 (.inl (.inr rfl))⟩
theorem ok0 : Ok emptyH 0 := Ok.empty
theorem ok1 : Ok (xH [(1, xOb 1 1 0)] [(1, xRw 0)] 1) 1 := by have := ok0.make 4 0 [true]; rw [x1] at this; exact this
theorem ok2 : Ok (xH [(1, xOb 1 1 0), (2, xOb 2 1 0)] [(1, xRw 0), (2, xRw 0)] 2) 2 := by have := ok1.make 4 0 [true]; rw [x2] at this; exact this
theorem ok3 : Ok (xH [(1, xOb 1 1 0), (2, xOb 2 1 1)] [(1, xRw 2), (2, xRw 0)] 2) 2 := by have := ok2.set 1 0 ⟨0, 2⟩; rw [x3] at this; exact this
theorem ok4 : Ok (xH [(1, xOb 1 1 0), (2, xOb 2 0 1)] [(1, xRw 2), (2, xRw 0)] 2) 2 := by have := ok3.drop 2; rw [x4] at this; exact this
theorem ok5 : Ok (xH [] [] 2) 2 := by have := ok4.drop 1; rw [x5] at this; exact this
theorem ok6 : Ok (xH [(3, xOb 3 1 0)] [(3, xRw 0)] 3) 3 := by have := ok5.make 4 0 [true]; rw [x6] at this; exact this
theorem ok7 : Ok (xH [(3, xOb 3 1 1)] [(3, xRw 3)] 3) 3 := by have := ok6.set 3 0 ⟨0, 3⟩; rw [x7] at this; exact this
theorem ok8 : Ok (xH [(3, xOb 3 0 1)] [(3, xRw 3)] 3) 3 := by have := ok7.drop 3; rw [x8] at this; exact this
theorem ok9 : Ok (xH [] [] 3) 3 := by have := ok8.clear 3; rw [x9] at this; exact this
theorem RdI.lit2 (w : World) (x y : Int) : RdI (w.alloc (.cells #[.int .i64 x, .int .i64 y] 26)) (some ⟨w.heap.size, 0, none⟩) [x, y] := fun j hj => by
  refine ⟨w.heap.size, 0, rfl, by simp, cell_of_heap (heap_alloc_new w _) ?_⟩
  match j, hj with
  | 0, _ => rfl
  | 1, _ => rfl
  | (j + 2), h => exact absurd h (by simp only [List.length_cons, List.length_nil]; omega)
set_option maxRecDepth 100000 in
set_option maxHeartbeats 4000000 in
theorem awake17 (w : World) : Calls Try.prog 11 #[] w fun e w' => e = .returned (.bool true) ∧ Below w.heap.size w w' := by
  have tm1 : True := trivial
  have tm2 : True := trivial
  have ts1 : True := trivial
  have td1 : True := trivial
  have ta1 : True := trivial
  have td2 : True := trivial
  have ta2 : True := trivial
  have tm3 : True := trivial
  have ts2 : True := trivial
  have td3 : True := trivial
  go_enter Try.func11, Try.ntmps11
  go_wp2_with (first
    | (go_at_call 12; refine (new_car w).mono ?_; rintro e w0 ⟨hb, rfl, c0⟩
       have C0 : Hid (Car w hb (kk w0.heap.size (w0.heap.size + 1)) emptyH ((w0.alloc (.cells #[.bool true] 4)).alloc (.cells #[.int .i64 0, .slice (some ⟨w0.heap.size, 0, none⟩) 1 1] 32))) := Lib.hid ((c0.keep ((Below.refl _ _).alloc (Nat.le_refl _) _) (Nat.le_refl _) (by simp)).keep ((Below.refl _ _).alloc (Nat.le_refl _) _) (by simp) (by simp))
       have B0 : Hid (Bx ((w0.alloc (.cells #[.bool true] 4)).alloc (.cells #[.int .i64 0, .slice (some ⟨w0.heap.size, 0, none⟩) 1 1] 32)) w0.heap.size (w0.heap.size + 1)) := Lib.hid ⟨(heap2 w0 _ _).1, (heap2 w0 _ _).2⟩
       clear c0)
    | (go_at_call 29; have _t := tm1; refine (C0.out.make ok0 (by decide) 4 0 B0.out.rd).mono ?_; rintro e w1 ⟨he, c1⟩
       rw [x1] at he c1
       subst he
       have C1 := Lib.hid c1.1
       have b1 := B0.out.at c1
       have B1 := Lib.hid b1
       have e10 := cell_of_heap (v := .int .i64 0) b1.k2 (j := 0) rfl
       have e11 := cell_of_heap (v := .slice (some ⟨w0.heap.size, 0, none⟩) 1 1) b1.k2 (j := 1) rfl
       have l1 := lt_of_heap b1.k2
       clear c1 b1 tm1)
    | (go_at_call 29; have _t := tm2; refine (C1.out.make ok1 (by decide) 4 0 B1.out.rd).mono ?_; rintro e w2 ⟨he, c1⟩
       rw [x2] at he c1
       subst he
       have C2 := Lib.hid c1.1
       have b1 := B1.out.at c1
       have B2 := Lib.hid b1
       have e20 := cell_of_heap (v := .int .i64 0) b1.k2 (j := 0) rfl
       have e21 := cell_of_heap (v := .slice (some ⟨w0.heap.size, 0, none⟩) 1 1) b1.k2 (j := 1) rfl
       have l2 := lt_of_heap b1.k2
       clear c1 b1 tm2)
    | (go_at_call 32; have _t := ts1; refine (C2.out.set ok2 (by decide) 1 0 0 2).mono ?_; rintro e w3 ⟨he, c1⟩
       rw [x3] at he c1
       subst he
       have C3 := Lib.hid c1.1
       have b1 := B2.out.at c1
       have B3 := Lib.hid b1
       have e30 := cell_of_heap (v := .int .i64 0) b1.k2 (j := 0) rfl
       have e31 := cell_of_heap (v := .slice (some ⟨w0.heap.size, 0, none⟩) 1 1) b1.k2 (j := 1) rfl
       have l3 := lt_of_heap b1.k2
       clear c1 b1 ts1)
    | (go_at_call 35; have _t := td1; refine (C3.out.drop ok3 (by decide) 2).mono ?_; rintro e w4 ⟨he, c1⟩
       rw [x4] at he c1
       subst he
       have C4 := Lib.hid c1.1
       have b1 := B3.out.at c1
       have B4 := Lib.hid b1
       have e40 := cell_of_heap (v := .int .i64 0) b1.k2 (j := 0) rfl
       have e41 := cell_of_heap (v := .slice (some ⟨w0.heap.size, 0, none⟩) 1 1) b1.k2 (j := 1) rfl
       have l4 := lt_of_heap b1.k2
       clear c1 b1 td1)
    | (go_at_call 40; have _t := ta1; refine (C4.out.all ok4 (by decide)).mono ?_; rintro e w5 ⟨LA, LC, he, ho, hb1⟩
       rw [x4a] at he ho
       subst he
       have O5 := Lib.hid ho
       have C5 := Lib.hid (C4.out.below hb1)
       have b1 := B4.out.below hb1
       have B5 := Lib.hid b1
       have e50 := cell_of_heap (v := .int .i64 0) b1.k2 (j := 0) rfl
       have e51 := cell_of_heap (v := .slice (some ⟨w0.heap.size, 0, none⟩) 1 1) b1.k2 (j := 1) rfl
       have l5 := lt_of_heap b1.k2
       clear ho hb1 b1 ta1)
    | (go_at_call 49; refine (equal_ints (l := [1, 2]) (l' := [1, 2]) _ _ ((RdI.of_own O5.out).below ((Below.refl _ _).alloc (Nat.le_refl _) _)) (RdI.lit2 w5 1 2) (by decide) (by decide)).mono ?_; rintro e w6 ⟨he, hb1⟩
       rw [show decide (([1, 2] : List Int) = [1, 2]) = true from rfl] at he
       subst he
       have C6 := Lib.hid ((C5.out.below ((Below.refl _ _).alloc (Nat.le_refl _) _)).below hb1)
       have b1 := (B5.out.below ((Below.refl _ _).alloc (Nat.le_refl _) _)).below hb1
       have B6 := Lib.hid b1
       have e60 := cell_of_heap (v := .int .i64 0) b1.k2 (j := 0) rfl
       have e61 := cell_of_heap (v := .slice (some ⟨w0.heap.size, 0, none⟩) 1 1) b1.k2 (j := 1) rfl
       have l6 := lt_of_heap b1.k2
       clear hb1 b1)
    | (go_at_call 35; have _t := td2; refine (C6.out.drop ok4 (by decide) 1).mono ?_; rintro e w7 ⟨he, c1⟩
       rw [x5] at he c1
       subst he
       have C7 := Lib.hid c1.1
       have b1 := B6.out.at c1
       have B7 := Lib.hid b1
       have e70 := cell_of_heap (v := .int .i64 0) b1.k2 (j := 0) rfl
       have e71 := cell_of_heap (v := .slice (some ⟨w0.heap.size, 0, none⟩) 1 1) b1.k2 (j := 1) rfl
       have l7 := lt_of_heap b1.k2
       clear c1 b1 td2)
    | (go_at_call 40; have _t := ta2; refine (C7.out.all ok5 (by decide)).mono ?_; rintro e w8 ⟨LA, LC, he, ho, hb1⟩
       rw [x5a] at he ho
       subst he
       have O8 := Lib.hid ho
       have C8 := Lib.hid (C7.out.below hb1)
       have b1 := B7.out.below hb1
       have B8 := Lib.hid b1
       have e80 := cell_of_heap (v := .int .i64 0) b1.k2 (j := 0) rfl
       have e81 := cell_of_heap (v := .slice (some ⟨w0.heap.size, 0, none⟩) 1 1) b1.k2 (j := 1) rfl
       have l8 := lt_of_heap b1.k2
       clear ho hb1 b1 ta2)
    | (go_at_call 29; have _t := tm3; refine (C8.out.make ok5 (by decide) 4 0 B8.out.rd).mono ?_; rintro e w9 ⟨he, c1⟩
       rw [x6] at he c1
       subst he
       have C9 := Lib.hid c1.1
       have b1 := B8.out.at c1
       have B9 := Lib.hid b1
       have e90 := cell_of_heap (v := .int .i64 0) b1.k2 (j := 0) rfl
       have e91 := cell_of_heap (v := .slice (some ⟨w0.heap.size, 0, none⟩) 1 1) b1.k2 (j := 1) rfl
       have l9 := lt_of_heap b1.k2
       clear c1 b1 tm3)
    | (go_at_call 32; have _t := ts2; refine (C9.out.set ok6 (by decide) 3 0 0 3).mono ?_; rintro e w10 ⟨he, c1⟩
       rw [x7] at he c1
       subst he
       have C10 := Lib.hid c1.1
       have b1 := B9.out.at c1
       have B10 := Lib.hid b1
       have e100 := cell_of_heap (v := .int .i64 0) b1.k2 (j := 0) rfl
       have e101 := cell_of_heap (v := .slice (some ⟨w0.heap.size, 0, none⟩) 1 1) b1.k2 (j := 1) rfl
       have l10 := lt_of_heap b1.k2
       clear c1 b1 ts2)
    | (go_at_call 35; have _t := td3; refine (C10.out.drop ok7 (by decide) 3).mono ?_; rintro e w11 ⟨he, c1⟩
       rw [x8] at he c1
       subst he
       have C11 := Lib.hid c1.1
       have b1 := B10.out.at c1
       have B11 := Lib.hid b1
       have e110 := cell_of_heap (v := .int .i64 0) b1.k2 (j := 0) rfl
       have e111 := cell_of_heap (v := .slice (some ⟨w0.heap.size, 0, none⟩) 1 1) b1.k2 (j := 1) rfl
       have l11 := lt_of_heap b1.k2
       clear c1 b1 td3)
    | (go_at_call 39; refine (C11.out.count ok8 (by decide) 3).mono ?_; rintro e w12 ⟨he, hb1⟩
       rw [x8a] at he
       subst he
       have C12 := Lib.hid (C11.out.below hb1)
       have b1 := B11.out.below hb1
       have B12 := Lib.hid b1
       have e120 := cell_of_heap (v := .int .i64 0) b1.k2 (j := 0) rfl
       have e121 := cell_of_heap (v := .slice (some ⟨w0.heap.size, 0, none⟩) 1 1) b1.k2 (j := 1) rfl
       have l12 := lt_of_heap b1.k2
       clear hb1 b1)
    | (go_at_call 33; refine (C12.out.clear ok8 (by decide) 3).mono ?_; rintro e w13 ⟨he, c1⟩
       rw [x9] at he c1
       subst he
       have C13 := Lib.hid c1.1
       have b1 := B12.out.at c1
       have B13 := Lib.hid b1
       have e130 := cell_of_heap (v := .int .i64 0) b1.k2 (j := 0) rfl
       have e131 := cell_of_heap (v := .slice (some ⟨w0.heap.size, 0, none⟩) 1 1) b1.k2 (j := 1) rfl
       have l13 := lt_of_heap b1.k2
       clear c1 b1)
    | (go_at_call 40; refine (C13.out.all ok9 (by decide)).mono ?_; rintro e w14 ⟨LA, LC, he, ho, hb1⟩
       rw [x5a] at he ho
       subst he
       have C14 := Lib.hid (C13.out.below hb1)
       clear ho hb1))
  go_ret
  exact ⟨rfl, C14.out.bel⟩
end Go.Proofs.Ytodfpclekihbhaa

