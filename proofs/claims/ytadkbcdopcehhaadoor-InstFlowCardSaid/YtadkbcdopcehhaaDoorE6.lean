/- The contracts of inst.Thrown and of the reference's Thrown. -/
import Derived.Test.YtadkbcdopcehhaaDoorE5
namespace Go.Proofs.YtadkbcdopcehhaaDoor
open Go.RowKit

/-- Where the first k handlers lead from an index. -/
def thU (m : MdV) (at_ : Int) : Nat → List Int
  | 0 => []
  | k + 1 => thU m at_ k ++ if m.hf k ≤ at_ ∧ at_ < m.ht k then (List.range (m.hn k)).map (m.hp k) else []
theorem thU_len (m : MdV) (at_ : Int) (hf : ∀ k, k < m.nh → m.hn k ≤ 6) (k : Nat) (hk : k ≤ m.nh) : (thU m at_ k).length ≤ 6 * k := by
  induction k with
  | zero => exact Nat.le_refl _
  | succ k ih =>
    have := ih (by omega)
    have := hf k (by omega)
    simp only [thU, List.length_append]
    split
    · simp; omega
    · simp; omega
theorem map_snoc (p : Nat → Int) (j : Nat) : (List.range (j + 1)).map p = (List.range j).map p ++ [p j] := by
  rw [List.range_succ, List.map_append]; rfl

theorem thrown_out (q : MdA) (m : MdV) (at_ : Int) (w : World) (h : at_ < 0 ∨ (m.nc : Int) ≤ at_) :
    Calls Tryd.prog 26 #[.agg #[.string q.s, .slice q.a1 q.n1 q.c1, .slice q.a2 q.n2 q.c2, .slice q.a3 q.n3 q.c3, .slice q.a4 m.nc q.c4, .slice q.a5 q.n5 q.c5, .slice q.a6 q.n6 q.c6, .slice q.a7 m.ns q.c7, .slice q.a8 m.nt q.c8, .slice q.a9 q.n9 q.c9, .slice q.a10 m.nh q.c10], .int .i64 at_] w fun e w' => e = .returned (.tuple #[.slice none 0 0, .int .i64 11]) ∧ Below w.heap.size w w' := by
  have HB := Lib.hid ((Below.refl w.heap.size w).alloc (Nat.le_refl _) (.cells #[.string q.s, .slice q.a1 q.n1 q.c1, .slice q.a2 q.n2 q.c2, .slice q.a3 q.n3 q.c3, .slice q.a4 m.nc q.c4, .slice q.a5 q.n5 q.c5, .slice q.a6 q.n6 q.c6, .slice q.a7 m.ns q.c7, .slice q.a8 m.nt q.c8, .slice q.a9 q.n9 q.c9, .slice q.a10 m.nh q.c10] 60))
  by_cases c1 : at_ < 0
  · clear h
    go_enter Tryd.func26, Tryd.ntmps26
    go_wp2
    all_goals go_ret2
    all_goals exact ⟨rfl, HB.out⟩
  · have c2 : (m.nc : Int) ≤ at_ := by omega
    clear h
    go_enter Tryd.func26, Tryd.ntmps26
    go_wp2
    all_goals go_ret2
    all_goals exact ⟨rfl, HB.out⟩

set_option maxHeartbeats 4000000 in
theorem thrown_in (q : MdA) (m : MdV) (at_ : Int) (w : World) (hm : MdIs w q m) (hn : ∀ k, k < m.nh → m.hn k ≤ 6) (hh : m.nh ≤ 8) (g0 : 0 ≤ at_) (g1 : at_ < (m.nc : Int)) :
    Calls Tryd.prog 26 #[.agg #[.string q.s, .slice q.a1 q.n1 q.c1, .slice q.a2 q.n2 q.c2, .slice q.a3 q.n3 q.c3, .slice q.a4 m.nc q.c4, .slice q.a5 q.n5 q.c5, .slice q.a6 q.n6 q.c6, .slice q.a7 m.ns q.c7, .slice q.a8 m.nt q.c8, .slice q.a9 q.n9 q.c9, .slice q.a10 m.nh q.c10], .int .i64 at_] w fun e w' => ∃ A C, e = .returned (.tuple #[.slice A (setI (thU m at_ m.nh)).length C, .int .i64 0]) ∧ RowI w' A (setI (thU m at_ m.nh)) ∧ Below w.heap.size w w' := by
  have HB := Lib.hid ((Below.refl w.heap.size w).alloc (Nat.le_refl _) (.cells #[.string q.s, .slice q.a1 q.n1 q.c1, .slice q.a2 q.n2 q.c2, .slice q.a3 q.n3 q.c3, .slice q.a4 m.nc q.c4, .slice q.a5 q.n5 q.c5, .slice q.a6 q.n6 q.c6, .slice q.a7 m.ns q.c7, .slice q.a8 m.nt q.c8, .slice q.a9 q.n9 q.c9, .slice q.a10 m.nh q.c10] 60))
  have HM := Lib.hid hm
  have HN := Lib.hid hn
  clear hm hn
  go_enter Tryd.func26, Tryd.ntmps26
  go_wp2
  generalize w.alloc (.cells #[.string q.s, .slice q.a1 q.n1 q.c1, .slice q.a2 q.n2 q.c2, .slice q.a3 q.n3 q.c3, .slice q.a4 m.nc q.c4, .slice q.a5 q.n5 q.c5, .slice q.a6 q.n6 q.c6, .slice q.a7 m.ns q.c7, .slice q.a8 m.nt q.c8, .slice q.a9 q.n9 q.c9, .slice q.a10 m.nh q.c10] 60) = w1 at *
  go_loopw [6, 23] (fun l i wr => ∃ k : Nat, k ≤ m.nh ∧ i = .int .i64 k ∧ ∃ A C, l = .slice A (thU m at_ k).length C ∧ Hid (wr.ownsRow w.heap.size 3 1 (.slice A (thU m at_ k).length C) (thU m at_ k).length (ints (thU m at_ k))) ∧ Hid (Below w.heap.size w wr)) (fun _ i _ => m.nh - (intOf i).toNat)
  case atStart => exact ⟨0, by omega, rfl, none, 0, rfl, Lib.hid (World.ownsRow_nil _ _ _ _), HB⟩
  case round =>
    obtain ⟨k, hk, rfl, A, C, rfl, ho, hB⟩ := hrel
    have HL := Lib.hid (thU_len m at_ HN.out k hk)
    by_cases hlt : k < m.nh
    · obtain ⟨b, o, ha, hb, k0', k1', k2', B, D, k3', hp⟩ := HM.out.hand k hlt
      have k0 := (hB.out.cell (p := ⟨b, _, none⟩) hb).trans k0'
      have k1 := (hB.out.cell (p := ⟨b, _, none⟩) hb).trans k1'
      have k2 := (hB.out.cell (p := ⟨b, _, none⟩) hb).trans k2'
      have k3 := (hB.out.cell (p := ⟨b, _, none⟩) hb).trans k3'
      clear k0' k1' k2' k3'
      have HK := Lib.hid (HN.out k hlt)
      have hS : thU m at_ (k + 1) = thU m at_ k ++ if m.hf k ≤ at_ ∧ at_ < m.ht k then (List.range (m.hn k)).map (m.hp k) else [] := rfl
      have HP := Lib.hid hp
      have i0 : (0 : Int) ≤ (k : Int) := by omega
      have i1 : (k : Int) < (m.nh : Int) := by omega
      clear hp
      generalize thU m at_ k = xs at *
      generalize m.hf k = hf at *
      generalize m.ht k = ht at *
      generalize m.hs k = hs at *
      generalize m.hn k = n at *
      generalize m.hp k = pc at *
      by_cases c1 : hf ≤ at_
      · by_cases c2 : at_ < ht
        · rw [if_pos ⟨c1, c2⟩] at hS
          have HS := Lib.hid hS
          clear hS
          rw [ha] at *
          go_wp2
          go_loopw [6, 40] (fun l i w2 => ∃ j : Nat, j ≤ n ∧ i = .int .i64 j ∧ ∃ ys A C, l = .slice A ys.length C ∧ Hid (ys = xs ++ (List.range j).map pc) ∧ Hid (w2.ownsRow w.heap.size 3 1 (.slice A ys.length C) ys.length (ints ys)) ∧ Hid (Below w.heap.size w w2)) (fun _ i _ => n - (intOf i).toNat)
          case atStart => exact ⟨0, by omega, rfl, xs, A, C, rfl, Lib.hid (by simp), Lib.hid (ho.out.alloc _), Lib.hid (hB.out.alloc hB.out.size _)⟩
          case round =>
            obtain ⟨j, hj, rfl, ys, A2, C2, rfl, hys, ho2, hB2⟩ := hrel
            have hn6 : n ≤ 6 := HK.out
            by_cases hj2 : j < n
            · obtain ⟨b2, o2, rfl, hb2, s, p0', p1'⟩ := HP.out j hj2
              have p0 := (hB2.out.cell (p := ⟨b2, _, none⟩) hb2).trans p0'
              have p1 := (hB2.out.cell (p := ⟨b2, _, none⟩) hb2).trans p1'
              clear p0' p1'
              have HSN := Lib.hid (map_snoc pc j)
              generalize pc j = x at *
              have j0 : (0 : Int) ≤ (j : Int) := by omega
              have j1 : (j : Int) < (n : Int) := by omega
              have HYL : Hid (ys.length ≤ 1000) := Lib.hid (by rw [hys.out]; have := HL.out; have := HK.out; simp; omega)
              go_wp2_with (at_builtin; refine app_int rfl _ _ rfl w.heap.size _ _ ys x rfl (ho2.out.alloc _) rfl (by simp) (by have := HYL.out; omega) (by have := hB2.out.size; simp; omega) ?_; intro A3 C3 zs w4 hz ho3 hb3; have HZ := Lib.hid hz; have HO3 := Lib.hid ho3; have HB3 := Lib.hid ((hB2.out.alloc hB2.out.size _).trans hb3); clear hz ho3 hb3)
              go_wp2
              go_roundw
              case rel => exact ⟨j + 1, by omega, by go_num, zs, A3, C3, rfl, Lib.hid (by rw [HZ.out, hys.out, HSN.out, List.append_assoc]), HO3, HB3⟩
              case measure => simp [intOf]; omega
            · obtain rfl : j = n := by omega
              go_wp2
              go_roundw
              case rel => exact ⟨k + 1, by omega, by go_num, by rw [HS.out, ← hys.out]; exact ⟨A2, C2, rfl, ho2, hB2⟩⟩
              case measure => simp [intOf]; omega
        · rw [if_neg (by omega), List.append_nil] at hS
          have HS := Lib.hid hS
          clear hS
          rw [ha] at *
          go_wp2
          go_roundw
          case rel => exact ⟨k + 1, by omega, by go_num, by rw [HS.out]; exact ⟨A, C, rfl, Lib.hid (ho.out.alloc _), Lib.hid (hB.out.alloc hB.out.size _)⟩⟩
          case measure => simp [intOf]; omega
      · rw [if_neg (by omega), List.append_nil] at hS
        have HS := Lib.hid hS
        clear hS
        rw [ha] at *
        go_wp2
        go_roundw
        case rel => exact ⟨k + 1, by omega, by go_num, by rw [HS.out]; exact ⟨A, C, rfl, Lib.hid (ho.out.alloc _), Lib.hid (hB.out.alloc hB.out.size _)⟩⟩
        case measure => simp [intOf]; omega
    · obtain rfl : k = m.nh := by omega
      go_wp2_with (go_at_call 45; refine (set_calls _ _ _ w.heap.size _ ho.out (by have := HL.out; omega) hB.out.size).mono ?_; rintro e w3 ⟨A1, C1, rfl, hr, hb⟩; have HR := Lib.hid hr; have HB3 := Lib.hid (hB.out.trans hb); clear hr hb)
      go_ret2
      exact ⟨A1, C1, rfl, HR.out, HB3.out⟩
end Go.Proofs.YtadkbcdopcehhaaDoor
