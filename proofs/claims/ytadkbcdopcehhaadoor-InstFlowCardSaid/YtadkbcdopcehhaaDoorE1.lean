/- Lists of numbers: append to a list of the call's own; the contracts of the reference's With, of inst.set and of the law's same. -/
import Derived.Test.YtadkbcdopcehhaaDoorD1
import Derived.Deep.Onto
import Derived.Sort.OwnSortedInts
import Derived.BigQuiet
namespace Go.Proofs.YtadkbcdopcehhaaDoor
open Go.RowKit Mp

def ints (zs : List Int) : List Value := zs.map (Value.int .i64)
theorem info3 : (Tryd.prog.info? 3).map (fun i => (i.zero, i.size, i.bytes)) = some (some (.int .i64 0), 1, 8) := by kernel_rfl
theorem Below.dn {B : Nat} {a w : World} (h : Below B a w) (n : Nat) : Below B a (w.drewN n) := h.trans ⟨rfl, rfl, rfl, Nat.le_refl _, fun _ _ => rfl⟩
theorem own_below {w w' : World} {base n size : Nat} {e : TypeId} {v : Value} {xs : List Value} (h : w.ownsRow base e size v n xs) (hb : Below w.heap.size w w') : w'.ownsRow base e size v n xs := by
  refine ⟨h.1, ?_⟩
  rcases h.2 with h1 | ⟨g, cap, cur, h1, h2, h3, h4⟩
  · exact .inl h1
  · exact .inr ⟨g, cap, cur, h1, h2, (hb.block g (Array.getElem?_eq_some_iff.1 h3).1).trans h3, h4⟩
theorem own_cell {w : World} {base n C : Nat} {e : TypeId} {A : Option Addr} {xs : List Value} (h : w.ownsRow base e 1 (.slice A n C) n xs) (j : Nat) (hj : j < n) :
    ∃ g, A = some ⟨g, 0, none⟩ ∧ base ≤ g ∧ g < w.heap.size ∧ w.cell? ⟨g, j, none⟩ = xs[j]? := by
  rcases h.2 with ⟨h1, h2⟩ | ⟨g, cap, cur, h1, h2, h3, h4, h5, h6, h7⟩
  · omega
  · injection h1 with e1 e2 e3
    refine ⟨g, e1, h2, (Array.getElem?_eq_some_iff.1 h3).1, ?_⟩
    rw [Nat.mul_one] at h7
    rw [← h7, List.getElem?_take_of_lt hj]
    unfold World.cell?
    rw [h3]
    simp

/-- A list of numbers that can be read. -/
def RowI (w : World) (A : Option Addr) (zs : List Int) : Prop := ∀ j, j < zs.length → ∃ g, A = some ⟨g, 0, none⟩ ∧ g < w.heap.size ∧ w.cell? ⟨g, j, none⟩ = some (.int .i64 (zs.getD j 0))
theorem RowI.of_own {w : World} {base C : Nat} {A : Option Addr} {zs : List Int} (h : w.ownsRow base 3 1 (.slice A zs.length C) zs.length (ints zs)) : RowI w A zs := fun j hj => by
  obtain ⟨g, h1, _, h3, h4⟩ := own_cell h j hj
  exact ⟨g, h1, h3, by rw [h4]; simp [ints, List.getD, List.getElem?_eq_getElem hj]⟩
theorem RowI.below {w w' : World} {A : Option Addr} {zs : List Int} (h : RowI w A zs) (hb : Below w.heap.size w w') : RowI w' A zs := fun j hj => by
  obtain ⟨g, h1, h2, h3⟩ := h j hj
  exact ⟨g, h1, Nat.lt_of_lt_of_le h2 hb.size, (hb.cell (p := ⟨g, j, none⟩) h2).trans h3⟩

/-- append of one number to a list of the call's own. -/
theorem app_int {ops : Array Oper} {rest : List Oper} {o : Oper} {a : Act} {Q : Exit → Act → World → Prop} {w : World} (hgd : o.guard = none) (s x : Operand)
    (ho : o.op = .call { callee := .builtin .append, args := #[s, x], argTypes := #[62, 62] }) (B : Nat) (A : Option Addr) (C : Nat) (xs : List Int) (n : Int)
    (hs : a.eval s = .slice A xs.length C) (hown : w.ownsRow B 3 1 (.slice A xs.length C) xs.length (ints xs)) {p : Nat} (hx : a.eval x = .slice (some ⟨p, 0, none⟩) 1 1) (hp : p = w.heap.size)
    (hn : xs.length ≤ 100000) (hB : B ≤ w.heap.size)
    (h : ∀ A1 C1 ys w', ys = xs ++ [n] → w'.ownsRow B 3 1 (.slice A1 ys.length C1) ys.length (ints ys) → Below B w w' → wpList Tryd.prog ops Q rest (a.put o.dst (.slice A1 ys.length C1)) w') :
    wpList Tryd.prog ops Q (o :: rest) a (w.alloc (.cells #[.int .i64 n] 3)) := by
  subst hp
  obtain ⟨i0, hi, hz0, hz1, hz2⟩ := info_parts info3
  refine wpList_append_own _ hgd s x 62 ho B 3 i0 (.int .i64 0) 1 8 Tryd.underlying62 hi hz0 hz1 hz2 rfl (by decide) (.slice A xs.length C) xs.length (ints xs) hs (hown.alloc _) ⟨w.heap.size, 0, none⟩ 1 1 [.int .i64 n] hx rfl ?c1 ?c2 ?c3 ?c4 ?c5 ?_
  case c1 => exact World.news_of_block (cs := #[.int .i64 n]) (t := 3) (fr := (0, 0)) (heap_alloc_new w _)
  case c2 => intro u hu; simp at hu; subst hu; rfl
  case c3 => simp only [maxLen]; omega
  case c4 => omega
  case c5 => simp; omega
  intro v1 w1 hown1 hgrow _
  obtain ⟨A1, C1, rfl⟩ := own_slice hown1
  have e1 : xs.length + 1 = (xs ++ [n]).length := by simp
  rw [e1] at hown1 ⊢
  exact h A1 C1 _ w1 rfl (by simpa [ints] using hown1) (((Below.refl B w).alloc hB _).grown hgrow (by simp; omega) (fun k hk => (hown.lt k hk).1))

/-- With, in a state of its loop: the list so far, and whether n is put. -/
def wA (zs : List Int) (n : Int) : Nat → List Int × Bool
  | 0 => ([], false)
  | j + 1 => (((wA zs n j).1 ++ if !(wA zs n j).2 && decide (n ≤ zs.getD j 0) then [n] else []) ++ if zs.getD j 0 ≠ n then [zs.getD j 0] else [], (wA zs n j).2 || decide (n ≤ zs.getD j 0))
def withI (zs : List Int) (n : Int) : List Int := (wA zs n zs.length).1 ++ if (wA zs n zs.length).2 then [] else [n]
theorem wA_len (zs : List Int) (n : Int) (j : Nat) : (wA zs n j).1.length ≤ 2 * j := by
  induction j with
  | zero => exact Nat.le_refl _
  | succ j ih =>
    simp only [wA, List.length_append]
    have h1 : (if !(wA zs n j).2 && decide (n ≤ zs.getD j 0) then [n] else []).length ≤ 1 := by split <;> simp
    have h2 : (if zs.getD j 0 ≠ n then [zs.getD j 0] else []).length ≤ 1 := by split <;> simp
    omega

set_option maxHeartbeats 4000000 in
theorem with_calls (zs : List Int) (n : Int) (A : Option Addr) (C : Nat) (w : World) (hr : RowI w A zs) (hl : zs.length ≤ 10000) :
    Calls Tryd.prog 46 #[.slice A zs.length C, .int .i64 n] w fun e w' => ∃ A1 C1, e = .returned (.slice A1 (withI zs n).length C1) ∧ w'.ownsRow w.heap.size 3 1 (.slice A1 (withI zs n).length C1) (withI zs n).length (ints (withI zs n)) ∧ Below w.heap.size w w' := by
  have HR := Lib.hid hr
  clear hr
  go_enter Tryd.func46, Tryd.ntmps46
  go_wp2
  go_loopw [5, 6, 7] (fun out put i wr => ∃ j : Nat, j ≤ zs.length ∧ i = .int .i64 j ∧ put = .bool (wA zs n j).2 ∧ ∃ A0 C0, out = .slice A0 (wA zs n j).1.length C0 ∧ Hid (wr.ownsRow w.heap.size 3 1 (.slice A0 (wA zs n j).1.length C0) (wA zs n j).1.length (ints (wA zs n j).1)) ∧ Hid (Below w.heap.size w wr)) (fun _ _ i _ => zs.length - (intOf i).toNat)
  case atStart => exact ⟨0, by omega, rfl, rfl, none, 0, rfl, Lib.hid (World.ownsRow_nil _ _ _ _), Below.refl _ _⟩
  case round =>
    obtain ⟨j, hj, rfl, rfl, A0, C0, rfl, ho, hB⟩ := hrel
    have HL := Lib.hid (wA_len zs n j)
    by_cases hlt : j < zs.length
    · obtain ⟨g, rfl, hg, hcw⟩ := HR.out j hlt
      have HC : Hid (∀ w', Below w.heap.size w w' → w'.cell? ⟨g, j, none⟩ = some (.int .i64 (zs.getD j 0))) := fun w' hb => (hb.cell (p := ⟨g, j, none⟩) hg).trans hcw
      have hc := HC.out wr hB.out
      clear hcw
      have HS : Hid ((wA zs n (j + 1)) = (((wA zs n j).1 ++ if !(wA zs n j).2 && decide (n ≤ zs.getD j 0) then [n] else []) ++ if zs.getD j 0 ≠ n then [zs.getD j 0] else [], (wA zs n j).2 || decide (n ≤ zs.getD j 0))) := Lib.hid rfl
      generalize zs.getD j 0 = x at *
      generalize (wA zs n j).1 = xs at *
      generalize (wA zs n j).2 = p at *
      have HO := ho
      have HB := hB
      clear ho hB
      have g0 : (0 : Int) ≤ (j : Int) := by omega
      have g1 : (j : Int) < (zs.length : Int) := by omega
      by_cases h2 : x = n
      · have h3 : n ≤ x := by omega
        cases p
        · go_wp2_with (at_builtin; refine app_int rfl _ _ rfl w.heap.size _ _ xs n rfl HO.out rfl rfl (by have := HL.out; first | omega | (rw [HY1.out]; simp; omega)) HB.out.size ?_; intro A1 C1 ys1 w1 hy ho1 hb1; have HY1 := Lib.hid hy; have HO1 := Lib.hid ho1; have HB1 := Lib.hid (HB.out.trans hb1); have hc1 := HC.out w1 HB1.out; clear ho1 hb1 hy)
          go_wp2
          go_roundw
          case rel =>
            have hS : wA zs n (j + 1) = (ys1, true) := by rw [HS.out, HY1.out]; simp [h2]
            refine ⟨j + 1, by omega, by go_num, ?_⟩
            rw [hS]
            exact ⟨rfl, A1, C1, rfl, HO1, HB1⟩
          case measure => simp [intOf]; omega
        · go_wp2
          go_roundw
          case rel =>
            have hS : wA zs n (j + 1) = (xs, true) := by rw [HS.out]; simp [h2]
            refine ⟨j + 1, by omega, by go_num, ?_⟩
            rw [hS]
            exact ⟨rfl, A0, C0, rfl, HO, HB⟩
          case measure => simp [intOf]; omega
      · by_cases h3 : n ≤ x
        · cases p
          · go_wp2_with (first
              | (at_builtin; refine app_int rfl _ _ rfl w.heap.size _ _ ys1 x rfl HO1.out rfl rfl (by have := HL.out; first | omega | (rw [HY1.out]; simp; omega)) HB1.out.size ?_; intro A2 C2 ys2 w2 hy ho1 hb1; have HY2 := Lib.hid hy; have HO2 := Lib.hid ho1; have HB2 := Lib.hid (HB1.out.trans hb1); have hc2 := HC.out w2 HB2.out; clear ho1 hb1 hy)
              | (at_builtin; refine app_int rfl _ _ rfl w.heap.size _ _ xs n rfl HO.out rfl rfl (by have := HL.out; first | omega | (rw [HY1.out]; simp; omega)) HB.out.size ?_; intro A1 C1 ys1 w1 hy ho1 hb1; have HY1 := Lib.hid hy; have HO1 := Lib.hid ho1; have HB1 := Lib.hid (HB.out.trans hb1); have hc1 := HC.out w1 HB1.out; clear ho1 hb1 hy))
            go_wp2
            go_roundw
            case rel =>
              have hS : wA zs n (j + 1) = (ys2, true) := by rw [HS.out, HY2.out, HY1.out]; simp [h2, h3]
              refine ⟨j + 1, by omega, by go_num, ?_⟩
              rw [hS]
              exact ⟨rfl, A2, C2, rfl, HO2, HB2⟩
            case measure => simp [intOf]; omega
          · go_wp2_with (at_builtin; refine app_int rfl _ _ rfl w.heap.size _ _ xs x rfl HO.out rfl rfl (by have := HL.out; first | omega | (rw [HY1.out]; simp; omega)) HB.out.size ?_; intro A1 C1 ys1 w1 hy ho1 hb1; have HY1 := Lib.hid hy; have HO1 := Lib.hid ho1; have HB1 := Lib.hid (HB.out.trans hb1); have hc1 := HC.out w1 HB1.out; clear ho1 hb1 hy)
            go_wp2
            go_roundw
            case rel =>
              have hS : wA zs n (j + 1) = (ys1, true) := by rw [HS.out, HY1.out]; simp [h2, h3]
              refine ⟨j + 1, by omega, by go_num, ?_⟩
              rw [hS]
              exact ⟨rfl, A1, C1, rfl, HO1, HB1⟩
            case measure => simp [intOf]; omega
        · cases p
          · go_wp2_with (at_builtin; refine app_int rfl _ _ rfl w.heap.size _ _ xs x rfl HO.out rfl rfl (by have := HL.out; first | omega | (rw [HY1.out]; simp; omega)) HB.out.size ?_; intro A1 C1 ys1 w1 hy ho1 hb1; have HY1 := Lib.hid hy; have HO1 := Lib.hid ho1; have HB1 := Lib.hid (HB.out.trans hb1); have hc1 := HC.out w1 HB1.out; clear ho1 hb1 hy)
            go_wp2
            go_roundw
            case rel =>
              have hS : wA zs n (j + 1) = (ys1, false) := by rw [HS.out, HY1.out]; simp [h2, h3]
              refine ⟨j + 1, by omega, by go_num, ?_⟩
              rw [hS]
              exact ⟨rfl, A1, C1, rfl, HO1, HB1⟩
            case measure => simp [intOf]; omega
          · go_wp2_with (at_builtin; refine app_int rfl _ _ rfl w.heap.size _ _ xs x rfl HO.out rfl rfl (by have := HL.out; first | omega | (rw [HY1.out]; simp; omega)) HB.out.size ?_; intro A1 C1 ys1 w1 hy ho1 hb1; have HY1 := Lib.hid hy; have HO1 := Lib.hid ho1; have HB1 := Lib.hid (HB.out.trans hb1); have hc1 := HC.out w1 HB1.out; clear ho1 hb1 hy)
            go_wp2
            go_roundw
            case rel =>
              have hS : wA zs n (j + 1) = (ys1, true) := by rw [HS.out, HY1.out]; simp [h2, h3]
              refine ⟨j + 1, by omega, by go_num, ?_⟩
              rw [hS]
              exact ⟨rfl, A1, C1, rfl, HO1, HB1⟩
            case measure => simp [intOf]; omega
    · obtain rfl : j = zs.length := by omega
      have HW : Hid (withI zs n = (wA zs n zs.length).1 ++ if (wA zs n zs.length).2 then [] else [n]) := Lib.hid rfl
      generalize (wA zs n zs.length).1 = xs at *
      generalize (wA zs n zs.length).2 = p at *
      cases p
      · have hw : withI zs n = xs ++ [n] := by rw [HW.out]; simp
        go_wp2_with (at_builtin; refine app_int rfl _ _ rfl w.heap.size _ _ xs n rfl ho.out rfl rfl (by have := HL.out; omega) hB.out.size ?_; intro A1 C1 ys1 w1 hy ho1 hb1; have HY1 := Lib.hid (hw.trans hy.symm); have HO1 := Lib.hid ho1; have HB1 := Lib.hid (hB.out.trans hb1); clear ho1 hb1 hy)
        clear hw
        go_wp2
        go_ret
        rw [HY1.out]
        exact ⟨_, _, rfl, HO1.out, HB1.out⟩
      · have hw : withI zs n = xs := by rw [HW.out]; simp
        have HW1 := Lib.hid hw
        clear hw HW
        go_wp2
        go_ret
        rw [HW1.out]
        exact ⟨_, _, rfl, ho.out, hB.out⟩
end Go.Proofs.YtadkbcdopcehhaaDoor
