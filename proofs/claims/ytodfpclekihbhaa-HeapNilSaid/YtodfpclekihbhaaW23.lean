/- What a law's walk carries of a heap; its calls. -/
import Derived.Test.YtodfpclekihbhaaW22
namespace Go.Proofs.Ytodfpclekihbhaa
open Go.RowKit Go.Shelf

/-- Blocks of the call's own that are not kept. -/
def Off (w0 : World) (K : Nat → Prop) : Nat → Prop := fun k => w0.heap.size ≤ k ∧ ¬ K k
/-- The heap H lies at hb; its blocks are of the law's own, and none of K; what lay in w0 is as it was. -/
structure Car (w0 : World) (hb : Nat) (K : Nat → Prop) (H : Hp) (w : World) : Prop where
  ex : ∃ A S, HpAt w hb A H S ∧ ∀ k, S k → Off w0 K k
  bel : Below w0.heap.size w0 w
  klt : ∀ k, K k → k < w.heap.size
variable {w0 w : World} {hb : Nat} {K : Nat → Prop} {H : Hp}
theorem Car.below {w' : World} (c : Car w0 hb K H w) (h : Below w.heap.size w w') : Car w0 hb K H w' := by
  obtain ⟨⟨A, S, hp, hS⟩, hb, hk⟩ := c
  exact ⟨⟨A, S, hp.below h, hS⟩, hb.trans (h.mono hb.size), fun k h1 => Nat.lt_of_lt_of_le (hk k h1) h.size⟩
/-- Kept blocks turn. -/
theorem Car.turn {w' : World} {T : Nat → Prop} (c : Car w0 hb K H w) (h : Mut T w w') (hT : ∀ k, T k → w0.heap.size ≤ k ∧ K k) : Car w0 hb K H w' := by
  obtain ⟨⟨A, S, hp, hS⟩, hb, hk⟩ := c
  exact ⟨⟨A, S, hp.mut h fun k h1 h2 => (hS k h1).2 (hT k h2).2, hS⟩, hb.trans (h.to_below hb.size fun k h1 => (hT k h1).1), fun k h1 => Nat.lt_of_lt_of_le (hk k h1) h.size⟩
/-- A new block is kept. -/
theorem Car.keep {w' : World} (c : Car w0 hb K H w) (h : Below w.heap.size w w') {p : Nat} (hp1 : w.heap.size ≤ p) (hp2 : p < w'.heap.size) : Car w0 hb (fun k => K k ∨ k = p) H w' := by
  obtain ⟨⟨A, S, hp, hS⟩, hb, hk⟩ := c
  refine ⟨⟨A, S, hp.below h, fun k h1 => ⟨(hS k h1).1, ?_⟩⟩, hb.trans (h.mono hb.size), ?_⟩
  · rintro (h2 | rfl)
    · exact (hS k h1).2 h2
    · have := hp.Slt _ h1; omega
  · rintro k (h1 | rfl)
    · exact Nat.lt_of_lt_of_le (hk k h1) h.size
    · exact hp2
theorem Car.forget {K' : Nat → Prop} (c : Car w0 hb K H w) (h : ∀ k, K' k → K k) : Car w0 hb K' H w := by
  obtain ⟨⟨A, S, hp, hS⟩, hb, hk⟩ := c
  exact ⟨⟨A, S, hp, fun k h1 => ⟨(hS k h1).1, fun h2 => (hS k h1).2 (h k h2)⟩⟩, hb, fun k h1 => hk k (h k h1)⟩
/-- What a call leaves to a law. -/
def CPost (w0 w : World) (hb : Nat) (K : Nat → Prop) (H' : Hp) (w' : World) : Prop := Car w0 hb K H' w' ∧ Mut (Off w0 K) w w'
theorem CPost.of_nx {A : HA} {S : Nat → Prop} {H' : Hp} {w' : World} (hS : ∀ k, S k → Off w0 K k) (hb0 : Below w0.heap.size w0 w) (hk : ∀ k, K k → k < w.heap.size) (hlt : ∀ k, S k → k < w.heap.size) (h : Nx w hb S H' w') : CPost w0 w hb K H' w' := by
  obtain ⟨A', S', h1, h2, h3⟩ := h
  refine ⟨⟨⟨A', S', h1, fun k hk2 => ?_⟩, hb0.trans (h2.to_below hb0.size fun k hk2 => (hS k hk2).1), fun k hk2 => Nat.lt_of_lt_of_le (hk k hk2) h2.size⟩, h2.mono fun k hk2 => .inl (hS k hk2)⟩
  rcases h3 k hk2 with h4 | h4
  · exact hS k h4
  · exact ⟨Nat.le_trans hb0.size h4, fun h5 => by have := hk k h5; omega⟩
theorem Car.step {P : Program} {f : FuncId} {args : Array Value} {R : Ending → World → Prop} (c : Car w0 hb K H w) (h : ∀ A S, HpAt w hb A H S → Calls P f args w fun e w' => ∃ H', Nx w hb S H' w' ∧ (CPost w0 w hb K H' w' → R e w')) : Calls P f args w R := by
  obtain ⟨⟨A, S, hp, hS⟩, hb0, hk⟩ := c
  exact (h A S hp).mono fun e w' ⟨H', h1, h2⟩ => h2 (CPost.of_nx (A := A) hS hb0 hk hp.Slt h1)
theorem Car.quiet {P : Program} {f : FuncId} {args : Array Value} {R : Ending → World → Prop} (c : Car w0 hb K H w) (h : ∀ A S, HpAt w hb A H S → Calls P f args w R) : Calls P f args w R := by
  obtain ⟨⟨A, S, hp, hS⟩, hb0, hk⟩ := c
  exact h A S hp
theorem Ok.mu4 {H : Hp} {N : Nat} (h : Ok H N) (hN : N ≤ 1000) : muH H ≤ 40000000 := by have := h.mu; omega
theorem Ok.bd {H : Hp} {N : Nat} (h : Ok H N) (hN : N ≤ 1000) : HoldsLe H 1000000000 := fun r o ho => by have := h.st.holds r o ho; omega
theorem Ok.lst {H : Hp} {N : Nat} (h : Ok H N) (hN : N ≤ 1000) : H.last ≤ 1000000 := by have := h.st.last; omega
theorem Ok.cnt {H : Hp} {N : Nat} (h : Ok H N) (hN : N ≤ 1000) {r : Int} {o : Ob} (ho : Mp.get H.objs r = some o) : 0 ≤ o.holds ∧ o.holds ≤ 1000000000 ∧ 0 ≤ o.rc ∧ o.rc ≤ 1000000000 := by
  have h1 := h.inv.pos r o ho
  have h2 := h.st.holds r o ho
  have h3 := h.inv.cnt r o ho
  rw [List.count_nil] at h3
  have h4 := inH_le H r
  have h5 := h.mu
  have h6 : muH H = wsum H.rows + 2 * H.objs.length := rfl
  exact ⟨h1.1, by omega, by omega, by omega⟩
variable {N : Nat}
theorem Car.make (c : Car w0 hb K H w) (ok : Ok H N) (hN : N ≤ 1000) (kind cls : Int) {ad : Option Addr} {C : Nat} {refs : List Bool} (hr : RdB w ad C refs) :
    Calls Try.prog 29 #[.pointer (some ⟨hb, 0, none⟩), .int .i64 kind, .agg #[.int .i64 cls, .slice ad refs.length C]] w fun e w' => e = .returned (.tuple #[.int .i64 (makeH H kind cls refs).2.1, .int .i64 (makeH H kind cls refs).2.2]) ∧ CPost w0 w hb K (makeH H kind cls refs).1 w' :=
  c.step fun A S hp => (make_calls hp ok.inv ok.row_le (ok.lst hN) kind cls hr).mono fun _ _ ⟨h1, h2⟩ => ⟨_, h2, fun h3 => ⟨h1, h3⟩⟩
theorem Car.set (c : Car w0 hb K H w) (ok : Ok H N) (hN : N ≤ 1000) (r i num ref : Int) :
    Calls Try.prog 32 #[.pointer (some ⟨hb, 0, none⟩), .int .i64 r, .int .i64 i, .agg #[.int .i64 num, .int .i64 ref]] w fun e w' => e = .returned (.int .i64 (setH H r i ⟨num, ref⟩).2) ∧ CPost w0 w hb K (setH H r i ⟨num, ref⟩).1 w' :=
  c.step fun A S hp => (set_calls hp ok.inv (by have := ok.mu4 hN; omega) (ok.bd hN) ok.st.len r i num ref).mono fun _ _ ⟨h1, h2, h3⟩ => ⟨_, Nx.same h2 h3, fun h4 => ⟨h1, h4⟩⟩
theorem Car.put (c : Car w0 hb K H w) (ok : Ok H N) (hN : N ≤ 1000) (r el i num ref : Int) :
    Calls Try.prog 16 #[.pointer (some ⟨hb, 0, none⟩), .int .i64 r, .int .i64 el, .int .i64 i, .agg #[.int .i64 num, .int .i64 ref]] w fun e w' => e = .returned (.int .i64 (putH H r el i ⟨num, ref⟩).2) ∧ CPost w0 w hb K (putH H r el i ⟨num, ref⟩).1 w' :=
  c.step fun A S hp => (put_calls hp ok.inv (by have := ok.mu4 hN; omega) (ok.bd hN) ok.st.len r el i num ref).mono fun _ _ ⟨h1, h2, h3⟩ => ⟨_, Nx.same h2 h3, fun h4 => ⟨h1, h4⟩⟩
theorem Car.drop (c : Car w0 hb K H w) (ok : Ok H N) (hN : N ≤ 1000) (r : Int) :
    Calls Try.prog 35 #[.pointer (some ⟨hb, 0, none⟩), .int .i64 r] w fun e w' => e = .returned (.int .i64 (dropH H r).2) ∧ CPost w0 w hb K (dropH H r).1 w' :=
  c.step fun A S hp => (drop_calls hp ok.inv (by have := ok.mu4 hN; omega) (ok.bd hN) r).mono fun _ _ ⟨h1, h2, h3⟩ => ⟨_, Nx.same h2 h3, fun h4 => ⟨h1, h4⟩⟩
theorem Car.hold (c : Car w0 hb K H w) (ok : Ok H N) (hN : N ≤ 1000) (r : Int) :
    Calls Try.prog 34 #[.pointer (some ⟨hb, 0, none⟩), .int .i64 r] w fun e w' => e = .returned (.int .i64 (holdH H r).2) ∧ CPost w0 w hb K (holdH H r).1 w' :=
  c.step fun A S hp => (hold_calls hp r fun o ho => ⟨(ok.cnt hN ho).1, (ok.cnt hN ho).2.1⟩).mono fun _ _ ⟨h1, h2, h3⟩ => ⟨_, Nx.same h2 h3, fun h4 => ⟨h1, h4⟩⟩
theorem Car.clear (c : Car w0 hb K H w) (ok : Ok H N) (hN : N ≤ 1000) (r : Int) :
    Calls Try.prog 33 #[.pointer (some ⟨hb, 0, none⟩), .int .i64 r] w fun e w' => e = .returned (.int .i64 (clearH H r).2) ∧ CPost w0 w hb K (clearH H r).1 w' :=
  c.step fun A S hp => (clear_calls hp ok.inv (ok.mu4 hN) (ok.bd hN) r).mono fun _ _ ⟨h1, h2, h3⟩ => ⟨_, Nx.same h2 h3, fun h4 => ⟨h1, h4⟩⟩
theorem Car.all (c : Car w0 hb K H w) (ok : Ok H N) (hN : N ≤ 1000) : Calls Try.prog 40 #[.pointer (some ⟨hb, 0, none⟩)] w (RfPost w (allH H)) := c.quiet fun _ _ hp => all_calls hp ok.inv (ok.lst hN)
theorem Car.refs (c : Car w0 hb K H w) (ok : Ok H N) (hN : N ≤ 1000) (r : Int) : Calls Try.prog 41 #[.pointer (some ⟨hb, 0, none⟩), .int .i64 r] w (RfPost w (refsH H r)) := c.quiet fun _ _ hp => refs_calls hp ok.inv (by have := ok.mu4 hN; omega) r
theorem Car.count (c : Car w0 hb K H w) (ok : Ok H N) (hN : N ≤ 1000) (r : Int) : Calls Try.prog 39 #[.pointer (some ⟨hb, 0, none⟩), .int .i64 r] w fun e w' => e = .returned (.int .i64 (countH H r)) ∧ Below w.heap.size w w' := c.quiet fun _ _ hp => Count_calls hp r fun o ho => ok.cnt hN ho
theorem Car.kind (c : Car w0 hb K H w) (r : Int) : Calls Try.prog 37 #[.pointer (some ⟨hb, 0, none⟩), .int .i64 r] w fun e w' => e = .returned (.int .i64 (kindH H r)) ∧ w = w' := c.quiet fun _ _ hp => kind_calls hp r
theorem Car.holds (c : Car w0 hb K H w) (r : Int) : Calls Try.prog 38 #[.pointer (some ⟨hb, 0, none⟩), .int .i64 r] w fun e w' => e = .returned (.int .i64 (holdsH H r)) ∧ w = w' := c.quiet fun _ _ hp => holds_calls hp r
theorem Car.store (c : Car w0 hb K H w) (ok : Ok H N) (r : Int) : Calls Try.prog 46 #[.pointer (some ⟨hb, 0, none⟩), .int .i64 r] w fun e w' => e = .returned (.tuple #[.int .i64 (storeOfH H r).1, .int .i64 (storeOfH H r).2]) ∧ w = w' := c.quiet fun _ _ hp => store_calls hp r fun o ho hk => by
  obtain ⟨x, hx, hA, _⟩ := ok.inv.row r o ho
  exact ⟨x, hx, hA.2 hk⟩
theorem new_car (w0 : World) : Calls Try.prog 12 #[] w0 fun e w' => ∃ hb, e = .returned (.pointer (some ⟨hb, 0, none⟩)) ∧ Car w0 hb (fun _ => False) emptyH w' :=
  (new_calls w0).mono fun _ _ ⟨hb, A, S, h1, h2, h3, h4⟩ => ⟨hb, h1, ⟨A, S, h2, fun k hk => ⟨h4 k hk, fun h => h⟩⟩, h3, fun _ h => h.elim⟩
/-- New, beside other things of the law. -/
theorem new_car2 {K : Nat → Prop} (hb0 : Below w0.heap.size w0 w) (hk : ∀ k, K k → k < w.heap.size) : Calls Try.prog 12 #[] w fun e w' => ∃ hb, e = .returned (.pointer (some ⟨hb, 0, none⟩)) ∧ Car w0 hb K emptyH w' ∧ Below w.heap.size w w' :=
  (new_calls w).mono fun _ _ ⟨hb, A, S, h1, h2, h3, h4⟩ => ⟨hb, h1, ⟨⟨A, S, h2, fun k hk2 => ⟨Nat.le_trans hb0.size (h4 k hk2), fun h => by have := hk k h; have := h4 k hk2; omega⟩⟩, hb0.trans (h3.mono hb0.size), fun k h => Nat.lt_of_lt_of_le (hk k h) h3.size⟩, h3⟩
/-- A kept block is as it was. -/
theorem CPost.at {H' : Hp} {w' : World} (h : CPost w0 w hb K H' w') {k : Nat} {o : Obj} (ho : w.heap[k]? = some o) (hk : K k ∨ k < w0.heap.size) : w'.heap[k]? = some o :=
  (h.2.block k (lt_of_heap ho) fun h1 => by
    rcases hk with h2 | h2
    · exact h1.2 h2
    · have := h1.1; omega).trans ho
end Go.Proofs.Ytodfpclekihbhaa
