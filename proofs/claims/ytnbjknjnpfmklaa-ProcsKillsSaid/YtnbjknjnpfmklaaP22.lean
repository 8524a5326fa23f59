/- Contracts: few, sameInts (the law's own functions). -/
import Derived.Test.YtnbjknjnpfmklaaP15
namespace Go.Proofs.Ytnbjknjnpfmklaa
open Go.RowKit

/-- A call, as it came in. -/
structure Ac where
  what : Int
  n : Int
  text : ByteArray
def ActsAt (w : World) (A : Option Addr) (l : List Ac) : Prop := ∀ j (h : j < l.length), ∃ b o, A = some ⟨b, o, none⟩ ∧ b < w.heap.size ∧ w.cell? ⟨b, o + j * 3, none⟩ = some (.int .u8 (l[j]'h).what) ∧ w.cell? ⟨b, o + j * 3 + 1, none⟩ = some (.int .i64 (l[j]'h).n) ∧ w.cell? ⟨b, o + j * 3 + 2, none⟩ = some (.string (l[j]'h).text)
theorem ActsAt.below {w w' : World} {A : Option Addr} {l : List Ac} (h : ActsAt w A l) (hb : Below w.heap.size w w') : ActsAt w' A l := fun j hj => by
  obtain ⟨b, o, h1, h2, h3, h4, h5⟩ := h j hj
  exact ⟨b, o, h1, Nat.lt_of_lt_of_le h2 hb.size, (hb.cell (p := ⟨b, _, none⟩) h2).trans h3, (hb.cell (p := ⟨b, _, none⟩) h2).trans h4, (hb.cell (p := ⟨b, _, none⟩) h2).trans h5⟩
structure FewP (n : Nat) (l : List Ac) : Prop where
  hl : l.length ≤ 200
  hs : n ≤ 60
  ht : ∀ j (h : j < l.length), (l[j]'h).text.size ≤ 20
def FewR (n : Nat) (l : List Ac) (e : Ending) : Prop := ∃ b, e = .returned (.bool b) ∧ (b = true → FewP n l)

set_option maxHeartbeats 1000000 in
theorem few_calls (q : Int) (sA : Option Addr) (n sC : Nat) (lA : Option Addr) (lC : Nat) (l : List Ac) (w : World) (h : ActsAt w lA l) :
    Calls Try.prog 13 #[.agg #[.int .i64 q, .slice sA n sC], .slice lA l.length lC] w fun e w' => FewR n l e ∧ Below w.heap.size w w' := by
  have HA := Lib.hid h
  have HB := Lib.hid ((Below.refl w.heap.size w).alloc (Nat.le_refl _) (.cells #[.int .i64 q, .slice sA n sC] 32))
  clear h
  by_cases c1 : 200 < l.length
  · have h1 : (200 : Int) < (l.length : Int) := by omega
    go_enter Try.func13, Try.ntmps13
    go_wp2
    go_ret
    exact ⟨⟨false, rfl, nofun⟩, HB.out⟩
  · have h1 : decide ((200 : Int) < (l.length : Int)) = false := decide_eq_false (by omega)
    by_cases c2 : 60 < n
    · have h2 : (60 : Int) < (n : Int) := by omega
      go_enter Try.func13, Try.ntmps13
      go_wp2
      go_ret
      exact ⟨⟨false, rfl, nofun⟩, HB.out⟩
    · have h2 : decide ((60 : Int) < (n : Int)) = false := decide_eq_false (by omega)
      have hlen : l.length ≤ 200 := by omega
      go_enter Try.func13, Try.ntmps13
      go_wp2
      go_loopw [5] (fun i wr => ∃ j : Nat, j ≤ l.length ∧ i = .int .i64 j ∧ Hid (Below w.heap.size w wr) ∧ Hid (∀ i (h : i < l.length), i < j → (l[i]'h).text.size ≤ 20)) (fun i _ => l.length - (intOf i).toNat)
      case atStart => exact ⟨0, by omega, rfl, HB, Lib.hid (fun i h hi => absurd hi (Nat.not_lt_zero _))⟩
      case round =>
        obtain ⟨j, hj, rfl, hB, hT⟩ := hrel
        by_cases hlt : j < l.length
        · obtain ⟨b, o, rfl, hb, p0, p1, p2⟩ := HA.out.below hB.out j hlt
          have HX : Hid (∀ i (h : i < l.length), i = j → (l[i]'h).text = (l[j]'hlt).text) := Lib.hid (fun i h e => by subst e; rfl)
          generalize (l[j]'hlt).text = t at *
          have j0 : (0 : Int) ≤ (j : Int) := by omega
          have j1 : (j : Int) < (l.length : Int) := by omega
          clear p0 p1
          by_cases ht : 20 < t.size
          · have h3 : (20 : Int) < (t.size : Int) := by omega
            go_wp2
            go_ret
            exact ⟨⟨false, rfl, nofun⟩, hB.out⟩
          · have h3 : ¬ (20 : Int) < (t.size : Int) := by omega
            go_wp2
            go_roundw
            case rel =>
              refine ⟨j + 1, by omega, by go_num, hB, Lib.hid (fun i h hi => ?_)⟩
              by_cases e : i = j
              · rw [HX.out i h e]; omega
              · exact hT.out i h (by omega)
            case measure => simp [intOf]; omega
        · obtain rfl : j = l.length := by omega
          go_wp2
          go_ret
          exact ⟨⟨true, rfl, fun _ => ⟨hlen, by omega, fun i h => hT.out i h h⟩⟩, hB.out⟩

set_option maxHeartbeats 1000000 in
theorem same_yes (xs : List Int) (A1 A2 : Option Addr) (C1 C2 : Nat) (w : World) (h1 : RowI w A1 xs) (h2 : RowI w A2 xs) (hl : xs.length ≤ 100000) :
    Calls Try.prog 49 #[.slice A1 xs.length C1, .slice A2 xs.length C2] w fun e w' => e = .returned (.bool true) ∧ Below w.heap.size w w' := by
  have H1 := Lib.hid h1
  have H2 := Lib.hid h2
  clear h1 h2
  go_enter Try.func49, Try.ntmps49
  go_wp2
  go_loopw [5] (fun i wr => ∃ j : Nat, j ≤ xs.length ∧ i = .int .i64 j ∧ Hid (Below w.heap.size w wr)) (fun i _ => xs.length - (intOf i).toNat)
  case atStart => exact ⟨0, by omega, rfl, Below.refl _ _⟩
  case round =>
    obtain ⟨j, hj, rfl, hB⟩ := hrel
    by_cases hlt : j < xs.length
    · obtain ⟨g1, o1, rfl, _, k1⟩ := H1.out.below hB.out j hlt
      obtain ⟨g2, o2, rfl, _, k2⟩ := H2.out.below hB.out j hlt
      have g0 : (0 : Int) ≤ (j : Int) := by omega
      have g3 : (j : Int) < (xs.length : Int) := by omega
      generalize xs.getD j 0 = v at *
      go_wp2
      go_quiet (fail)
      go_wp2
      go_roundw
      case rel => exact ⟨j + 1, by omega, by go_num, Lib.hid (Below.dn hB.out _)⟩
      case measure => simp [intOf]; omega
    · obtain rfl : j = xs.length := by omega
      go_wp2
      go_ret
      exact ⟨rfl, hB.out⟩
end Go.Proofs.Ytnbjknjnpfmklaa
