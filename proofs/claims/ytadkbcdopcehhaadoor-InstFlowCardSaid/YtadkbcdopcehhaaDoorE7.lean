/- The contract of the reference's Thrown. -/
import Derived.Test.YtadkbcdopcehhaaDoorE6
namespace Go.Proofs.YtadkbcdopcehhaaDoor
open Go.RowKit

theorem _root_.Go.RowKit.Below.step2 {w0 w w' : World} (h : Below w0.heap.size w0 w) (hb : Below w.heap.size w w') : Below w0.heap.size w0 w' := h.trans (hb.mono h.size)
theorem withs_map (xs : List Int) (p : Nat → Int) (j : Nat) : withs (xs ++ (List.range (j + 1)).map p) = withI (withs (xs ++ (List.range j).map p)) (p j) := by
  rw [map_snoc, ← List.append_assoc, withs_snoc]

theorem rthrown_out (q : MdA) (m : MdV) (at_ : Int) (w : World) (h : at_ < 0 ∨ (m.nc : Int) ≤ at_) :
    Calls Tryd.prog 27 #[.agg #[.string q.s, .slice q.a1 q.n1 q.c1, .slice q.a2 q.n2 q.c2, .slice q.a3 q.n3 q.c3, .slice q.a4 m.nc q.c4, .slice q.a5 q.n5 q.c5, .slice q.a6 q.n6 q.c6, .slice q.a7 m.ns q.c7, .slice q.a8 m.nt q.c8, .slice q.a9 q.n9 q.c9, .slice q.a10 m.nh q.c10], .int .i64 at_] w fun e w' => e = .returned (.tuple #[.slice none 0 0, .int .i64 11]) ∧ Below w.heap.size w w' := by
  have HB := Lib.hid ((Below.refl w.heap.size w).alloc (Nat.le_refl _) (.cells #[.string q.s, .slice q.a1 q.n1 q.c1, .slice q.a2 q.n2 q.c2, .slice q.a3 q.n3 q.c3, .slice q.a4 m.nc q.c4, .slice q.a5 q.n5 q.c5, .slice q.a6 q.n6 q.c6, .slice q.a7 m.ns q.c7, .slice q.a8 m.nt q.c8, .slice q.a9 q.n9 q.c9, .slice q.a10 m.nh q.c10] 60))
  by_cases c1 : at_ < 0
  · clear h
    go_enter Tryd.func27, Tryd.ntmps27
    go_wp2
    all_goals go_ret2
    all_goals exact ⟨rfl, HB.out⟩
  · have c2 : (m.nc : Int) ≤ at_ := by omega
    clear h
    go_enter Tryd.func27, Tryd.ntmps27
    go_wp2
    all_goals go_ret2
    all_goals exact ⟨rfl, HB.out⟩

set_option maxHeartbeats 4000000 in
theorem rthrown_in (q : MdA) (m : MdV) (at_ : Int) (w : World) (hm : MdIs w q m) (hn : ∀ k, k < m.nh → m.hn k ≤ 6) (hh : m.nh ≤ 8) (g0 : 0 ≤ at_) (g1 : at_ < (m.nc : Int)) :
    Calls Tryd.prog 27 #[.agg #[.string q.s, .slice q.a1 q.n1 q.c1, .slice q.a2 q.n2 q.c2, .slice q.a3 q.n3 q.c3, .slice q.a4 m.nc q.c4, .slice q.a5 q.n5 q.c5, .slice q.a6 q.n6 q.c6, .slice q.a7 m.ns q.c7, .slice q.a8 m.nt q.c8, .slice q.a9 q.n9 q.c9, .slice q.a10 m.nh q.c10], .int .i64 at_] w fun e w' => ∃ A C, e = .returned (.tuple #[.slice A (withs (thU m at_ m.nh)).length C, .int .i64 0]) ∧ RowI w' A (withs (thU m at_ m.nh)) ∧ Below w.heap.size w w' := by
  have HB := Lib.hid ((Below.refl w.heap.size w).alloc (Nat.le_refl _) (.cells #[.string q.s, .slice q.a1 q.n1 q.c1, .slice q.a2 q.n2 q.c2, .slice q.a3 q.n3 q.c3, .slice q.a4 m.nc q.c4, .slice q.a5 q.n5 q.c5, .slice q.a6 q.n6 q.c6, .slice q.a7 m.ns q.c7, .slice q.a8 m.nt q.c8, .slice q.a9 q.n9 q.c9, .slice q.a10 m.nh q.c10] 60))
  have HM := Lib.hid (hm.below HB.out)
  have HN := Lib.hid hn
  have hbox : ∀ (j : Nat) (v : Value), (#[.string q.s, .slice q.a1 q.n1 q.c1, .slice q.a2 q.n2 q.c2, .slice q.a3 q.n3 q.c3, .slice q.a4 m.nc q.c4, .slice q.a5 q.n5 q.c5, .slice q.a6 q.n6 q.c6, .slice q.a7 m.ns q.c7, .slice q.a8 m.nt q.c8, .slice q.a9 q.n9 q.c9, .slice q.a10 m.nh q.c10] : Array Value)[j]? = some v → (w.alloc (.cells #[.string q.s, .slice q.a1 q.n1 q.c1, .slice q.a2 q.n2 q.c2, .slice q.a3 q.n3 q.c3, .slice q.a4 m.nc q.c4, .slice q.a5 q.n5 q.c5, .slice q.a6 q.n6 q.c6, .slice q.a7 m.ns q.c7, .slice q.a8 m.nt q.c8, .slice q.a9 q.n9 q.c9, .slice q.a10 m.nh q.c10] 60)).cell? ⟨w.heap.size, j, none⟩ = some v := fun j v hv => by
    rw [cell_new]; exact hv
  have hlt1 : w.heap.size < (w.alloc (.cells #[.string q.s, .slice q.a1 q.n1 q.c1, .slice q.a2 q.n2 q.c2, .slice q.a3 q.n3 q.c3, .slice q.a4 m.nc q.c4, .slice q.a5 q.n5 q.c5, .slice q.a6 q.n6 q.c6, .slice q.a7 m.ns q.c7, .slice q.a8 m.nt q.c8, .slice q.a9 q.n9 q.c9, .slice q.a10 m.nh q.c10] 60)).heap.size := by simp
  have HX := Lib.hid (hbox 10 _ rfl)
  have HLT := Lib.hid hlt1
  clear hm hn hbox hlt1
  go_enter Tryd.func27, Tryd.ntmps27
  go_wp2
  generalize w.alloc (.cells #[.string q.s, .slice q.a1 q.n1 q.c1, .slice q.a2 q.n2 q.c2, .slice q.a3 q.n3 q.c3, .slice q.a4 m.nc q.c4, .slice q.a5 q.n5 q.c5, .slice q.a6 q.n6 q.c6, .slice q.a7 m.ns q.c7, .slice q.a8 m.nt q.c8, .slice q.a9 q.n9 q.c9, .slice q.a10 m.nh q.c10] 60) = w1 at *
  go_loopw [6, 7] (fun l i wr => ∃ k : Nat, k ≤ m.nh ∧ i = .int .i64 k ∧ ∃ xs A C, l = .slice A xs.length C ∧ Hid (xs = withs (thU m at_ k)) ∧ Hid (RowI wr A xs) ∧ Hid (Below w1.heap.size w1 wr)) (fun _ i _ => m.nh - (intOf i).toNat)
  case atStart => exact ⟨0, by omega, rfl, [], none, 0, rfl, Lib.hid rfl, Lib.hid (fun j hj => absurd hj (Nat.not_lt_zero _)), Lib.hid (Below.refl _ _)⟩
  case round =>
    obtain ⟨k, hk, rfl, xs, A, C, rfl, hys, ho, hB⟩ := hrel
    have x10 : wr.cell? ⟨w.heap.size, 10, none⟩ = some (.slice q.a10 m.nh q.c10) := (hB.out.cell (p := ⟨w.heap.size, 10, none⟩) HLT.out).trans HX.out
    by_cases hlt : k < m.nh
    · obtain ⟨b, o, ha, hb, k0', k1', k2', B, D, k3', hp⟩ := HM.out.hand k hlt
      have k0 := (hB.out.cell (p := ⟨b, _, none⟩) hb).trans k0'
      have k1 := (hB.out.cell (p := ⟨b, _, none⟩) hb).trans k1'
      have k2 := (hB.out.cell (p := ⟨b, _, none⟩) hb).trans k2'
      have k3 := (hB.out.cell (p := ⟨b, _, none⟩) hb).trans k3'
      clear k0' k1' k2' k3'
      have HK := Lib.hid (HN.out k hlt)
      have HL : Hid (xs.length ≤ 48) := Lib.hid (by rw [hys.out]; have := withs_len (thU m at_ k); have := thU_len m at_ HN.out k hk; omega)
      have hS : thU m at_ (k + 1) = thU m at_ k ++ if m.hf k ≤ at_ ∧ at_ < m.ht k then (List.range (m.hn k)).map (m.hp k) else [] := rfl
      have HP := Lib.hid hp
      have i0 : (0 : Int) ≤ (k : Int) := by omega
      have i1 : (k : Int) < (m.nh : Int) := by omega
      clear hp
      have HUL : Hid ((thU m at_ k).length ≤ 48) := Lib.hid (by have := thU_len m at_ HN.out k hk; omega)
      generalize thU m at_ k = us at *
      generalize m.hf k = hf at *
      generalize m.ht k = ht at *
      generalize m.hs k = hs at *
      generalize m.hn k = n at *
      generalize m.hp k = pc at *
      by_cases c1 : hf ≤ at_
      · by_cases c2 : at_ < ht
        · rw [if_pos ⟨c1, c2⟩] at hS
          have HS := Lib.hid hS
          clear hS
          rw [ha] at x10 ⊢
          go_wp2
          generalize hw2 : wr.alloc (.cells #[.int .i64 hf, .int .i64 ht, .int .i64 hs, .slice B n D] 87) = w2 at *
          have hX2 : ∀ (j : Nat) (v : Value), (#[.int .i64 hf, .int .i64 ht, .int .i64 hs, .slice B n D] : Array Value)[j]? = some v → w2.cell? ⟨wr.heap.size, j, none⟩ = some v := fun j v hv => by rw [← hw2, cell_new]; exact hv
          have hBw : Below wr.heap.size wr w2 := by rw [← hw2]; exact (Below.refl _ wr).alloc (Nat.le_refl _) _
          have hlt2 : wr.heap.size < w2.heap.size := by rw [← hw2]; simp
          have HX2 : Hid (∀ w3, Below w2.heap.size w2 w3 → w3.cell? ⟨wr.heap.size, 0, none⟩ = some (.int .i64 hf) ∧ w3.cell? ⟨wr.heap.size, 1, none⟩ = some (.int .i64 ht) ∧ w3.cell? ⟨wr.heap.size, 3, none⟩ = some (.slice B n D)) := fun w3 hb3 =>
            ⟨(hb3.cell (p := ⟨wr.heap.size, 0, none⟩) hlt2).trans (hX2 0 _ rfl), (hb3.cell (p := ⟨wr.heap.size, 1, none⟩) hlt2).trans (hX2 1 _ rfl), (hb3.cell (p := ⟨wr.heap.size, 3, none⟩) hlt2).trans (hX2 3 _ rfl)⟩
          have HBW := Lib.hid hBw
          have HPW := Lib.hid ((HP.out.below hB.out).below HBW.out)
          clear hX2 hBw hw2 k0 k1 k2 k3 hlt2
          go_loopw [6, 9] (fun l i w3 => ∃ j : Nat, j ≤ n ∧ i = .int .i64 j ∧ ∃ ys A C, l = .slice A ys.length C ∧ Hid (ys = withs (us ++ (List.range j).map pc)) ∧ Hid (RowI w3 A ys) ∧ Hid (Below w2.heap.size w2 w3)) (fun _ i _ => n - (intOf i).toNat)
          case atStart => exact ⟨0, by omega, rfl, xs, A, C, rfl, Lib.hid (by rw [hys.out]; simp), Lib.hid (ho.out.below HBW.out), Lib.hid (Below.refl _ _)⟩
          case round =>
            obtain ⟨j, hj, rfl, ys, A2, C2, rfl, hys2, ho2, hB2⟩ := hrel
            obtain ⟨y0, y1, y3⟩ := HX2.out _ hB2.out
            have hn6 : n ≤ 6 := HK.out
            by_cases hj2 : j < n
            · obtain ⟨b2, o2, hBe, hb2, s, p0', p1'⟩ := HPW.out j hj2
              have p1 := (hB2.out.cell (p := ⟨b2, _, none⟩) hb2).trans p1'
              clear p0' p1'
              subst hBe
              have HSN := Lib.hid (withs_map us pc j)
              generalize pc j = x at *
              have j0 : (0 : Int) ≤ (j : Int) := by omega
              have j1 : (j : Int) < (n : Int) := by omega
              have HYL : Hid (ys.length ≤ 1000) := Lib.hid (by rw [hys2.out]; have h1 := withs_len (us ++ (List.range j).map pc); simp at h1; have h2 := HUL.out; omega)
              go_wp2_with (go_at_call 46; refine (with_calls ys x _ _ _ ho2.out (by have := HYL.out; omega)).mono ?_; rintro e w4 ⟨A3, C3, rfl, ho3, hb3⟩; have HO3 := Lib.hid (RowI.of_own ho3); have HB3 := Lib.hid (hB2.out.step2 hb3); clear ho3 hb3)
              go_wp2
              go_roundw
              case rel => exact ⟨j + 1, by omega, by go_num, withI ys x, A3, C3, rfl, Lib.hid (by rw [HSN.out, hys2.out]), HO3, HB3⟩
              case measure => simp [intOf]; omega
            · obtain rfl : j = n := by omega
              go_wp2
              go_roundw
              case rel => exact ⟨k + 1, by omega, by go_num, by rw [HS.out, ← hys2.out]; exact ⟨ys, A2, C2, rfl, Lib.hid rfl, ho2, Lib.hid ((hB.out.step2 HBW.out).step2 hB2.out)⟩⟩
              case measure => simp [intOf]; omega
        · rw [if_neg (by omega), List.append_nil] at hS
          have HS := Lib.hid hS
          clear hS
          rw [ha] at x10 ⊢
          go_wp2
          generalize hw2 : wr.alloc (.cells #[.int .i64 hf, .int .i64 ht, .int .i64 hs, .slice B n D] 87) = w2 at *
          have hX2 : ∀ (j : Nat) (v : Value), (#[.int .i64 hf, .int .i64 ht, .int .i64 hs, .slice B n D] : Array Value)[j]? = some v → w2.cell? ⟨wr.heap.size, j, none⟩ = some v := fun j v hv => by rw [← hw2, cell_new]; exact hv
          have hBw : Below wr.heap.size wr w2 := by rw [← hw2]; exact (Below.refl _ wr).alloc (Nat.le_refl _) _
          have HX2 := Lib.hid hX2
          have HBW := Lib.hid hBw
          clear hX2 hBw hw2 k0 k1 k2 k3
          go_loopw [6, 9] (fun l i w3 => i = .int .i64 0 ∧ l = .slice A xs.length C ∧ w3 = w2) (fun _ i _ => 0)
          case atStart => exact ⟨rfl, rfl, rfl⟩
          case round =>
            obtain ⟨rfl, rfl, rfl⟩ := hrel
            have y0 := HX2.out 0 _ rfl
            have y1 := HX2.out 1 _ rfl
            have y3 := HX2.out 3 _ rfl
            have hn6 : n ≤ 6 := HK.out
            by_cases hpos : 0 < n
            · go_wp2
              go_roundw
              case rel => exact ⟨k + 1, by omega, by go_num, by rw [HS.out]; exact ⟨xs, A, C, rfl, Lib.hid hys.out, Lib.hid (ho.out.below HBW.out), Lib.hid (hB.out.step2 HBW.out)⟩⟩
              case measure => simp [intOf]; omega
            · obtain rfl : n = 0 := by omega
              go_wp2
              go_roundw
              case rel => exact ⟨k + 1, by omega, by go_num, by rw [HS.out]; exact ⟨xs, A, C, rfl, Lib.hid hys.out, Lib.hid (ho.out.below HBW.out), Lib.hid (hB.out.step2 HBW.out)⟩⟩
              case measure => simp [intOf]; omega
      · rw [if_neg (by omega), List.append_nil] at hS
        have HS := Lib.hid hS
        clear hS
        rw [ha] at x10 ⊢
        go_wp2
        generalize hw2 : wr.alloc (.cells #[.int .i64 hf, .int .i64 ht, .int .i64 hs, .slice B n D] 87) = w2 at *
        have hX2 : ∀ (j : Nat) (v : Value), (#[.int .i64 hf, .int .i64 ht, .int .i64 hs, .slice B n D] : Array Value)[j]? = some v → w2.cell? ⟨wr.heap.size, j, none⟩ = some v := fun j v hv => by rw [← hw2, cell_new]; exact hv
        have hBw : Below wr.heap.size wr w2 := by rw [← hw2]; exact (Below.refl _ wr).alloc (Nat.le_refl _) _
        have HX2 := Lib.hid hX2
        have HBW := Lib.hid hBw
        clear hX2 hBw hw2 k0 k1 k2 k3
        go_loopw [6, 9] (fun l i w3 => i = .int .i64 0 ∧ l = .slice A xs.length C ∧ w3 = w2) (fun _ i _ => 0)
        case atStart => exact ⟨rfl, rfl, rfl⟩
        case round =>
          obtain ⟨rfl, rfl, rfl⟩ := hrel
          have y0 := HX2.out 0 _ rfl
          have y1 := HX2.out 1 _ rfl
          have y3 := HX2.out 3 _ rfl
          have hn6 : n ≤ 6 := HK.out
          by_cases hpos : 0 < n
          · go_wp2
            go_roundw
            case rel => exact ⟨k + 1, by omega, by go_num, by rw [HS.out]; exact ⟨xs, A, C, rfl, Lib.hid hys.out, Lib.hid (ho.out.below HBW.out), Lib.hid (hB.out.step2 HBW.out)⟩⟩
            case measure => simp [intOf]; omega
          · obtain rfl : n = 0 := by omega
            go_wp2
            go_roundw
            case rel => exact ⟨k + 1, by omega, by go_num, by rw [HS.out]; exact ⟨xs, A, C, rfl, Lib.hid hys.out, Lib.hid (ho.out.below HBW.out), Lib.hid (hB.out.step2 HBW.out)⟩⟩
            case measure => simp [intOf]; omega
    · obtain rfl : k = m.nh := by omega
      go_wp2
      go_ret2
      rw [← hys.out]
      exact ⟨A, C, rfl, ho.out, HB.out.trans (hB.out.mono HB.out.size)⟩
end Go.Proofs.YtadkbcdopcehhaaDoor
