/- Texts on the heap, merged: W47, W48. -/
import Derived.Test.YtodfpclekihbhaaG19
import Derived.Test.YtodfpclekihbhaaG20
/- law17: small; a law's calls in memory. -/
namespace Go.Proofs.Ytodfpclekihbhaa
open Go.RowKit Go.Shelf

/-- The cells of a call. -/
structure OpC (w : World) (g o : Nat) (m : OpM) : Prop where
  lt : g < w.heap.size
  c0 : w.cell? ⟨g, o, none⟩ = some (.int .i64 m.k)
  c1 : w.cell? ⟨g, o + 1, none⟩ = some (.int .i64 m.r)
  c2 : w.cell? ⟨g, o + 2, none⟩ = some (.int .i64 m.x)
  c3 : w.cell? ⟨g, o + 3, none⟩ = some (.int .i64 m.a)
  c4 : w.cell? ⟨g, o + 4, none⟩ = some (.int .i64 m.b)
  c5 : w.cell? ⟨g, o + 5, none⟩ = some (.string m.tx)
  c6 : w.cell? ⟨g, o + 6, none⟩ = some (.int .i64 m.cls)
  c7 : w.cell? ⟨g, o + 7, none⟩ = some (.slice m.ra m.refs.length m.rC)
  c8 : w.cell? ⟨g, o + 8, none⟩ = some (.slice m.wa m.words.length m.wC)
  c9 : w.cell? ⟨g, o + 9, none⟩ = some (.bool m.on)
theorem OpC.below {w w' : World} {g o : Nat} {m : OpM} (h : OpC w g o m) (hb : Below w.heap.size w w') : OpC w' g o m :=
  ⟨Nat.lt_of_lt_of_le h.lt hb.size, keep3 hb h.c0, keep3 hb h.c1, keep3 hb h.c2, keep3 hb h.c3, keep3 hb h.c4, keep3 hb h.c5, keep3 hb h.c6, keep3 hb h.c7, keep3 hb h.c8, keep3 hb h.c9⟩
/-- Calls in memory. -/
def OpsAt (w : World) (A : Option Addr) (l : List OpM) : Prop := ∀ j (h : j < l.length), OpRd w (l[j]'h) ∧ ∃ g o, A = some ⟨g, o, none⟩ ∧ OpC w g (o + j * 10) (l[j]'h)
theorem OpsAt.below {w w' : World} {A : Option Addr} {l : List OpM} (h : OpsAt w A l) (hb : Below w.heap.size w w') : OpsAt w' A l := fun j hj => by
  obtain ⟨h1, g, o, h2, h3⟩ := h j hj
  exact ⟨h1.below hb, g, o, h2, h3.below hb⟩
/-- The cells of a call, as a box has them. -/
def OpM.box (m : OpM) : Array Value := #[.int .i64 m.k, .int .i64 m.r, .int .i64 m.x, .int .i64 m.a, .int .i64 m.b, .string m.tx, .int .i64 m.cls, .slice m.ra m.refs.length m.rC, .slice m.wa m.words.length m.wC, .bool m.on]
/-- What small answers. -/
def SmallR (l : List OpM) (e : Ending) : Prop := ∃ b, e = .returned (.bool b) ∧ (b = true → l.length ≤ 50 ∧ ∀ j (h : j < l.length), OpSm (l[j]'h))
theorem OpSm.mk' {o : OpM} (h1 : ¬ 300 < o.refs.length) (h2 : ¬ 300 < o.words.length) (h3 : ¬ 200 < o.tx.size) (h4 : ¬ (o.k = 1 ∧ 40 < o.a ∧ o.a ≤ 65536 ∧ 0 < o.refs.length ∧ o.a ≤ 1048576 / (o.refs.length : Int))) : OpSm o :=
  ⟨by omega, by omega, by omega, fun a b c d e => h4 ⟨a, b, c, d, e⟩⟩
set_option maxRecDepth 100000 in
set_option maxHeartbeats 4000000 in
theorem small_calls {w : World} {A : Option Addr} (C : Nat) {l : List OpM} (h : OpsAt w A l) (hn : l.length ≤ 9223372036854775807) :
    Calls Try.prog 43 #[.slice A l.length C] w fun e w' => SmallR l e ∧ Below w.heap.size w w' := by
  have H := Lib.hid h
  clear h
  go_enter Try.func43, Try.ntmps43
  go_wp2
  go_loopw [8] (fun p wr => ∃ j : Nat, j ≤ l.length ∧ p = .int .i64 j ∧ Hid (Below w.heap.size w wr) ∧ Hid (∀ i (h : i < l.length), i < j → OpSm (l[i]'h))) (fun i _ => l.length - (intOf i).toNat)
  case atStart => exact ⟨0, Nat.zero_le _, rfl, Lib.hid (Below.refl _ _), Lib.hid fun i _ h => absurd h (Nat.not_lt_zero _)⟩
  case round =>
    obtain ⟨j, hj, rfl, HB, HS⟩ := hrel
    by_cases hlt : j < l.length
    · obtain ⟨_, g, o, hA, hc⟩ := H.out.below HB.out j hlt
      have q0 : (0 : Int) ≤ (j : Int) := by omega
      have q1 : (j : Int) < (l.length : Int) := by omega
      have HX : Hid (OpSm (l[j]'hlt) → ∀ i (h : i < l.length), i < j + 1 → OpSm (l[i]'h)) := Lib.hid fun hs i h hi => by
        by_cases e : i = j
        · subst e; exact hs
        · exact HS.out i h (by omega)
      rw [hA]
      clear hA HS
      generalize l[j]'hlt = m at *
      have HSM := Lib.hid (@OpSm.mk' m)
      obtain ⟨k, r, x, a, b, tx, cls, ra, refs, rC, wa, words, wC, on⟩ := m
      obtain ⟨hg, c0, c1, c2, c3, c4, c5, c6, c7, c8, c9⟩ := hc
      simp only at c0 c1 c2 c3 c4 c5 c6 c7 c8 c9
      have HB2 : Hid (Below w.heap.size w (wr.alloc (.cells #[.int .i64 k, .int .i64 r, .int .i64 x, .int .i64 a, .int .i64 b, .string tx, .int .i64 cls, .slice ra refs.length rC, .slice wa words.length wC, .bool on] 76))) := Lib.hid (HB.out.trans ((Below.refl _ _).alloc HB.out.size _))
      by_cases d1 : 300 < refs.length
      · have d1' : (300 : Int) < (refs.length : Int) := by omega
        go_wp2
        go_ret
        exact ⟨⟨false, rfl, nofun⟩, HB2.out⟩
      have d1' : decide ((300 : Int) < (refs.length : Int)) = false := decide_eq_false (by omega)
      by_cases d2 : 300 < words.length
      · have d2' : (300 : Int) < (words.length : Int) := by omega
        go_wp2
        go_ret
        exact ⟨⟨false, rfl, nofun⟩, HB2.out⟩
      have d2' : decide ((300 : Int) < (words.length : Int)) = false := decide_eq_false (by omega)
      by_cases d3 : 200 < tx.size
      · have d3' : (200 : Int) < (tx.size : Int) := by omega
        go_wp2
        go_ret
        exact ⟨⟨false, rfl, nofun⟩, HB2.out⟩
      have d3' : decide ((200 : Int) < (tx.size : Int)) = false := decide_eq_false (by omega)
      by_cases e1 : k = 1
      rotate_left
      · have e1' : (k == 1) = false := by simpa using e1
        go_wp2
        go_quiet (fail)
        go_wp2
        go_roundw
        case rel => exact ⟨j + 1, by omega, by go_num, Lib.hid (by first | exact HB2.out | exact HB2.out.drew | exact HB2.out.dn _), Lib.hid (HX.out (HSM.out d1 d2 d3 (by omega)))⟩
        case measure => simp [intOf]; omega
      subst e1
      by_cases e2 : 40 < a
      rotate_left
      · have e2' : decide (40 < a) = false := decide_eq_false e2
        go_wp2
        go_quiet (fail)
        go_wp2
        go_roundw
        case rel => exact ⟨j + 1, by omega, by go_num, Lib.hid (by first | exact HB2.out | exact HB2.out.drew | exact HB2.out.dn _), Lib.hid (HX.out (HSM.out d1 d2 d3 (by omega)))⟩
        case measure => simp [intOf]; omega
      by_cases e3 : a ≤ 65536
      rotate_left
      · have e3' : decide (a ≤ 65536) = false := decide_eq_false e3
        go_wp2
        go_quiet (fail)
        go_wp2
        go_roundw
        case rel => exact ⟨j + 1, by omega, by go_num, Lib.hid (by first | exact HB2.out | exact HB2.out.drew | exact HB2.out.dn _), Lib.hid (HX.out (HSM.out d1 d2 d3 (by omega)))⟩
        case measure => simp [intOf]; omega
      by_cases e4 : 0 < refs.length
      rotate_left
      · have e4' : decide (0 < refs.length) = false := decide_eq_false e4
        go_wp2
        go_quiet (fail)
        go_wp2
        go_roundw
        case rel => exact ⟨j + 1, by omega, by go_num, Lib.hid (by first | exact HB2.out | exact HB2.out.drew | exact HB2.out.dn _), Lib.hid (HX.out (HSM.out d1 d2 d3 (by omega)))⟩
        case measure => simp [intOf]; omega
      by_cases e5 : a ≤ 1048576 / (refs.length : Int)
      · go_wp2
        go_quiet (fail)
        go_wp2
        go_ret
        exact ⟨⟨false, rfl, nofun⟩, (by first | exact HB2.out | exact HB2.out.drew | exact HB2.out.dn _)⟩
      · have e5' : decide (a ≤ 1048576 / (refs.length : Int)) = false := decide_eq_false e5
        go_wp2
        go_quiet (fail)
        go_wp2
        go_roundw
        case rel => exact ⟨j + 1, by omega, by go_num, Lib.hid (by first | exact HB2.out | exact HB2.out.drew | exact HB2.out.dn _), Lib.hid (HX.out (HSM.out d1 d2 d3 (by omega)))⟩
        case measure => simp [intOf]; omega
    · obtain rfl : j = l.length := by omega
      clear hlt hj
      by_cases h50 : l.length ≤ 50
      · have d1 : (l.length : Int) ≤ 50 := by omega
        go_wp2
        go_ret
        exact ⟨⟨_, rfl, fun _ => ⟨h50, fun i h => HS.out i h h⟩⟩, HB.out⟩
      · have d1 : decide ((l.length : Int) ≤ 50) = false := decide_eq_false (by omega)
        go_wp2
        go_ret
        exact ⟨⟨_, rfl, fun e => by simp at e <;> omega⟩, HB.out⟩
end Go.Proofs.Ytodfpclekihbhaa

/- What a law's walk keeps beside a heap: lists of objects. -/
namespace Go.Proofs.Ytodfpclekihbhaa
open Go.RowKit Go.Shelf

variable {w0 w : World} {hb : Nat} {K : Nat → Prop} {H : Hp} {N : Nat}
/-- The blocks of a slice are kept. -/
def KA (K : Nat → Prop) (A : Option Addr) : Nat → Prop := fun k => K k ∨ ∃ a, A = some a ∧ a.block = k
theorem Car.keepA {w' : World} (c : Car w0 hb K H w) (h : Below w.heap.size w w') {A : Option Addr} {n C size : Nat} {e : TypeId} {xs : List Value} (ho : w'.ownsRow w.heap.size e size (.slice A n C) n xs) : Car w0 hb (KA K A) H w' := by
  obtain ⟨⟨A', S, hp, hS⟩, hb, hk⟩ := c
  refine ⟨⟨A', S, hp.below h, fun k h1 => ⟨(hS k h1).1, ?_⟩⟩, hb.trans (h.mono hb.size), ?_⟩
  · rintro (h2 | ⟨a, ha, rfl⟩)
    · exact (hS k h1).2 h2
    · have := hp.Slt _ h1
      have := (own_blk ho a ha).1
      omega
  · rintro k (h1 | ⟨a, ha, rfl⟩)
    · exact Nat.lt_of_lt_of_le (hk k h1) h.size
    · exact (own_blk ho a ha).2
theorem RdI.cp {w' : World} {H' : Hp} {A : Option Addr} {l : List Int} (h : RdI w A l) (hc : CPost w0 w hb K H' w') (hK : ∀ a, A = some a → K a.block) : RdI w' A l :=
  h.mut hc.2 fun a ha h1 => h1.2 (hK a ha)
theorem KA.has {A : Option Addr} : ∀ a, A = some a → KA K A a.block := fun a ha => .inr ⟨a, ha, rfl⟩
/-- A list of objects lies in memory that is kept. -/
structure CarL (w0 : World) (hb : Nat) (K : Nat → Prop) (H : Hp) (N : Nat) (A : Option Addr) (l : List Int) (w : World) : Prop where
  car : Car w0 hb (KA K A) H w
  ok : Ok H N
  rd : RdI w A l
theorem CarL.of {w' : World} (c : Car w0 hb K H w) (ok : Ok H N) {A : Option Addr} {C : Nat} {l : List Int} (ho : w'.ownsRow w.heap.size 26 1 (.slice A l.length C) l.length (ints l)) (h : Below w.heap.size w w') : CarL w0 hb K H N A l w' :=
  ⟨c.keepA h ho, ok, RdI.of_own ho⟩
theorem CarL.below {w' : World} {A : Option Addr} {l : List Int} (h : CarL w0 hb K H N A l w) (h1 : Below w.heap.size w w') : CarL w0 hb K H N A l w' := ⟨h.car.below h1, h.ok, h.rd.below h1⟩
theorem CarL.next {w' : World} {A : Option Addr} {l : List Int} {H' : Hp} (h : CarL w0 hb K H N A l w) (hc : CPost w0 w hb (KA K A) H' w') (ok : Ok H' N) : CarL w0 hb K H' N A l w' := ⟨hc.1, ok, h.rd.cp hc KA.has⟩
theorem all_len {H : Hp} (h : Ok H N) : (allH H).length ≤ N := by
  unfold allH keysS
  rw [List.length_mergeSort, List.length_map]
  exact h.objs_le
theorem take_mem {l : List Int} {j : Nat} (hj : j < l.length) {P : Int → Prop} (h : ∀ x ∈ l.take j, P x) (h1 : P (l[j]'hj)) : ∀ x ∈ l.take (j + 1), P x := fun x hx => by
  rw [List.take_succ_eq_append_getElem hj] at hx
  rcases List.mem_append.1 hx with hx | hx
  · exact h x hx
  · obtain rfl : x = l[j]'hj := by simpa using hx
    exact h1
end Go.Proofs.Ytodfpclekihbhaa

