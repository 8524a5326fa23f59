/- law18: small; a law's acts in memory. -/
import Derived.Test.YtodfpclekihbhaaG43
import Derived.Test.YtodfpclekihbhaaG21
namespace Go.Proofs.Ytodfpclekihbhaa
open Go.RowKit Go.Shelf

/-- An act. -/
structure ActM where
  op : OpM
  beg : Bool
  units : Int
structure ActC (w : World) (g o : Nat) (m : ActM) : Prop where
  op : OpC w g o m.op
  c10 : w.cell? ⟨g, o + 10, none⟩ = some (.bool m.beg)
  c11 : w.cell? ⟨g, o + 11, none⟩ = some (.int .i64 m.units)
theorem ActC.below {w w' : World} {g o : Nat} {m : ActM} (h : ActC w g o m) (hb : Below w.heap.size w w') : ActC w' g o m := ⟨h.op.below hb, keep3 hb h.c10, keep3 hb h.c11⟩
def ActsAt (w : World) (A : Option Addr) (l : List ActM) : Prop := ∀ j (h : j < l.length), OpRd w (l[j]'h).op ∧ ∃ g o, A = some ⟨g, o, none⟩ ∧ ActC w g (o + j * 12) (l[j]'h)
theorem ActsAt.below {w w' : World} {A : Option Addr} {l : List ActM} (h : ActsAt w A l) (hb : Below w.heap.size w w') : ActsAt w' A l := fun j hj => by
  obtain ⟨h1, g, o, h2, h3⟩ := h j hj
  exact ⟨h1.below hb, g, o, h2, h3.below hb⟩
structure ActSm (m : ActM) : Prop where
  op : OpSm m.op
  un : m.units ≤ 100
/-- What small answers. -/
def SmallA (l : List ActM) (e : Ending) : Prop := ∃ b, e = .returned (.bool b) ∧ (b = true → l.length ≤ 50 ∧ ∀ j (h : j < l.length), ActSm (l[j]'h))
theorem ActSm.mk' {m : ActM} (h1 : ¬ 20 < m.op.refs.length) (h2 : ¬ 20 < m.op.words.length) (h3 : ¬ 100 < m.op.tx.size) (h4 : ¬ (m.op.k = 1 ∧ 20 < m.op.a)) (h5 : ¬ 100 < m.units) : ActSm m :=
  ⟨⟨by omega, by omega, by omega, fun a b c d e => h4 ⟨a, by omega⟩⟩, by omega⟩
set_option maxRecDepth 100000 in
set_option maxHeartbeats 4000000 in
theorem small18_calls {w : World} {A : Option Addr} (C : Nat) {l : List ActM} (h : ActsAt w A l) (hn : l.length ≤ 9223372036854775807) :
    Calls Try.prog 52 #[.slice A l.length C] w fun e w' => SmallA l e ∧ Below w.heap.size w w' := by
  have H := Lib.hid h
  clear h
  go_enter Try.func52, Try.ntmps52
  go_wp2
  go_loopw [8] (fun p wr => ∃ j : Nat, j ≤ l.length ∧ p = .int .i64 j ∧ Hid (Below w.heap.size w wr) ∧ Hid (∀ i (h : i < l.length), i < j → ActSm (l[i]'h))) (fun i _ => l.length - (intOf i).toNat)
  case atStart => exact ⟨0, Nat.zero_le _, rfl, Lib.hid (Below.refl _ _), Lib.hid fun i _ h => absurd h (Nat.not_lt_zero _)⟩
  case round =>
    obtain ⟨j, hj, rfl, HB, HS⟩ := hrel
    by_cases hlt : j < l.length
    · obtain ⟨_, g, o, hA, hc⟩ := H.out.below HB.out j hlt
      have q0 : (0 : Int) ≤ (j : Int) := by omega
      have q1 : (j : Int) < (l.length : Int) := by omega
      have HX : Hid (ActSm (l[j]'hlt) → ∀ i (h : i < l.length), i < j + 1 → ActSm (l[i]'h)) := Lib.hid fun hs i h hi => by
        by_cases e : i = j
        · subst e; exact hs
        · exact HS.out i h (by omega)
      rw [hA]
      clear hA HS
      generalize l[j]'hlt = m at *
      have HSM := Lib.hid (@ActSm.mk' m)
      obtain ⟨⟨k, r, x, a, b, tx, cls, ra, refs, rC, wa, words, wC, on⟩, beg, units⟩ := m
      obtain ⟨⟨hg, c0, c1, c2, c3, c4, c5, c6, c7, c8, c9⟩, c10, c11⟩ := hc
      simp only at c0 c1 c2 c3 c4 c5 c6 c7 c8 c9 c10 c11
      have HB2 : Hid (Below w.heap.size w (wr.alloc (.cells #[.int .i64 k, .int .i64 r, .int .i64 x, .int .i64 a, .int .i64 b, .string tx, .int .i64 cls, .slice ra refs.length rC, .slice wa words.length wC, .bool on, .bool beg, .int .i64 units] 90))) := Lib.hid (HB.out.trans ((Below.refl _ _).alloc HB.out.size _))
      by_cases d1 : 20 < refs.length
      · have d1' : (20 : Int) < (refs.length : Int) := by omega
        go_wp2
        go_ret
        exact ⟨⟨false, rfl, nofun⟩, HB2.out⟩
      have d1' : decide ((20 : Int) < (refs.length : Int)) = false := decide_eq_false (by omega)
      by_cases d2 : 20 < words.length
      · have d2' : (20 : Int) < (words.length : Int) := by omega
        go_wp2
        go_ret
        exact ⟨⟨false, rfl, nofun⟩, HB2.out⟩
      have d2' : decide ((20 : Int) < (words.length : Int)) = false := decide_eq_false (by omega)
      by_cases d3 : 100 < tx.size
      · have d3' : (100 : Int) < (tx.size : Int) := by omega
        go_wp2
        go_ret
        exact ⟨⟨false, rfl, nofun⟩, HB2.out⟩
      have d3' : decide ((100 : Int) < (tx.size : Int)) = false := decide_eq_false (by omega)
      by_cases d5 : 100 < units
      · by_cases e1 : k = 1
        · subst e1
          by_cases e2 : 20 < a
          · go_wp2
            go_ret
            exact ⟨⟨false, rfl, nofun⟩, HB2.out⟩
          · have e2' : decide (20 < a) = false := decide_eq_false e2
            go_wp2
            go_ret
            exact ⟨⟨false, rfl, nofun⟩, HB2.out⟩
        · have e1' : (k == 1) = false := by simpa using e1
          go_wp2
          go_ret
          exact ⟨⟨false, rfl, nofun⟩, HB2.out⟩
      have d5' : decide (100 < units) = false := decide_eq_false d5
      by_cases e1 : k = 1
      rotate_left
      · have e1' : (k == 1) = false := by simpa using e1
        go_wp2
        go_roundw
        case rel => exact ⟨j + 1, by omega, by go_num, HB2, Lib.hid (HX.out (HSM.out d1 d2 d3 (fun h => e1 h.1) d5))⟩
        case measure => simp [intOf]; omega
      subst e1
      by_cases e2 : 20 < a
      · go_wp2
        go_ret
        exact ⟨⟨false, rfl, nofun⟩, HB2.out⟩
      · have e2' : decide (20 < a) = false := decide_eq_false e2
        go_wp2
        go_roundw
        case rel => exact ⟨j + 1, by omega, by go_num, HB2, Lib.hid (HX.out (HSM.out d1 d2 d3 (fun h => e2 h.2) d5))⟩
        case measure => simp [intOf]; omega
    · obtain rfl : j = l.length := by omega
      clear hlt hj
      by_cases h50 : l.length ≤ 50
      · have d1 : (l.length : Int) ≤ 50 := by omega
        go_wp2
        go_ret
        exact ⟨⟨_, rfl, fun _ => ⟨h50, fun i h => HS.out i h h⟩⟩, HB.out⟩
      · have d1 : decide ((l.length : Int) ≤ 50) = false := decide_eq_false (by omega)
        go_wp2
        go_ret
        exact ⟨⟨_, rfl, fun e => by simp at e <;> omega⟩, HB.out⟩
theorem Ok.do18 {H : Hp} {N : Nat} (h : Ok H N) (o : OpM) (hs : OpSm o) : Ok (do18M H o).1 (N + 1) := by
  by_cases h11 : o.k = 11
  · have e : do18M H o = (H, 0, 0) := by unfold do18M; simp [h11]
    rw [e]; exact h.mono (Nat.le_succ _)
  by_cases h12 : o.k = 12
  · have e : do18M H o = (H, 0, 0) := by unfold do18M; simp [h12]
    rw [e]; exact h.mono (Nat.le_succ _)
  have e : (do18M H o).1 = (doM H o).1 := by
    unfold do18M doM three two
    by_cases h0 : o.k = 0
    · simp [h0]
    by_cases h1 : o.k = 1
    · simp [h1]
    by_cases h2 : o.k = 2
    · simp [h2]
    by_cases h3 : o.k = 3
    · simp [h3]
    by_cases h4 : o.k = 4
    · simp [h4]
    by_cases h5 : o.k = 5
    · simp [h5]
    by_cases h6 : o.k = 6
    · simp [h6]
    by_cases h7 : o.k = 7
    · simp [h7]
    by_cases h8 : o.k = 8
    · simp [h8]
    by_cases h9 : o.k = 9
    · simp [h9]
    by_cases h10 : o.k = 10
    · simp [h10]
    simp [h0, h1, h2, h3, h4, h5, h6, h7, h8, h9, h10, h11, h12]
  rw [e]
  exact h.do o hs
theorem do18_box {w0 w : World} {hb : Nat} {K : Nat → Prop} {H : Hp} {N : Nat} (c : Car w0 hb K H w) (ok : Ok H N) (hN : N ≤ 900) (o : OpM) (hr : OpRd w o) (hs : OpSm o) :
    Calls Try.prog 53 #[.pointer (some ⟨hb, 0, none⟩), .agg #[.int .i64 o.k, .int .i64 o.r, .int .i64 o.x, .int .i64 o.a, .int .i64 o.b, .string o.tx, .int .i64 o.cls, .slice o.ra o.refs.length o.rC, .slice o.wa o.words.length o.wC, .bool o.on]] w (DoI w0 w hb K (do18M H o)) := by
  have h1 := hs.refs
  have h2 := hs.words
  have h3 := hs.tx
  exact do18_any c ok hN o.k o.r o.x o.a o.b o.tx (by omega) o.cls o.refs o.words o.on hr.rb (by omega) hr.rw (by omega)
end Go.Proofs.Ytodfpclekihbhaa

