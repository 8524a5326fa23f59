/- The law InstNext. -/
import Derived.Test.YtadkbcdopcehhaaDoorE13
import Derived.Deep.RegionHeld3
namespace Go.Proofs.YtadkbcdopcehhaaDoor
open Go.RowKit

set_option maxHeartbeats 8000000 in
theorem law_next (q : MdA) (m : MdV) (at_ : Int) (w : World) (hm : MdIs w q m) (ht : SpTab w) :
    Calls Tryd.prog 10 #[.agg #[.string q.s, .slice q.a1 q.n1 q.c1, .slice q.a2 q.n2 q.c2, .slice q.a3 q.n3 q.c3, .slice q.a4 m.nc q.c4, .slice q.a5 q.n5 q.c5, .slice q.a6 q.n6 q.c6, .slice q.a7 m.ns q.c7, .slice q.a8 m.nt q.c8, .slice q.a9 q.n9 q.c9, .slice q.a10 m.nh q.c10], .int .i64 at_] w fun e w' => e = .returned (.bool true) ∧ Below w.heap.size w w' := by
  have hB0 : Below w.heap.size w (w.alloc (.cells #[.string q.s, .slice q.a1 q.n1 q.c1, .slice q.a2 q.n2 q.c2, .slice q.a3 q.n3 q.c3, .slice q.a4 m.nc q.c4, .slice q.a5 q.n5 q.c5, .slice q.a6 q.n6 q.c6, .slice q.a7 m.ns q.c7, .slice q.a8 m.nt q.c8, .slice q.a9 q.n9 q.c9, .slice q.a10 m.nh q.c10] 60)) := (Below.refl w.heap.size w).alloc (Nat.le_refl _) _
  have HB := Lib.hid hB0
  have HM := Lib.hid (hm.below hB0)
  have HBX := Lib.hid (Bxd.new w q m)
  have CX := Cy.refl (spTab_of_blocks ht hB0)
  clear hm ht hB0
  go_enter Tryd.func10, Tryd.ntmps10
  have t1 := trivial
  go_wp2_with (first
    | (clear t1; go_at_call 12; generalize w.alloc (.cells #[.string q.s, .slice q.a1 q.n1 q.c1, .slice q.a2 q.n2 q.c2, .slice q.a3 q.n3 q.c3, .slice q.a4 m.nc q.c4, .slice q.a5 q.n5 q.c5, .slice q.a6 q.n6 q.c6, .slice q.a7 m.ns q.c7, .slice q.a8 m.nt q.c8, .slice q.a9 q.n9 q.c9, .slice q.a10 m.nh q.c10] 60) = w1 at *; refine (awake_calls _ CX.tab).mono ?_; rintro e wn ⟨rfl, hb⟩; replace CX := CX.next hb; clear hb; (try clear x0 x1 x2 x3 x4 x5 x6 x7 x8 x9 x10); obtain ⟨x0, x1, x2, x3, x4, x5, x6, x7, x8, x9, x10⟩ := HBX.out.next CX.below)
    | (go_at_call 12; refine (awake_calls _ CX.tab).mono ?_; rintro e wn ⟨rfl, hb⟩; replace CX := CX.next hb; clear hb; (try clear x0 x1 x2 x3 x4 x5 x6 x7 x8 x9 x10); obtain ⟨x0, x1, x2, x3, x4, x5, x6, x7, x8, x9, x10⟩ := HBX.out.next CX.below)
    | (go_at_call 25; refine (few_calls q m _ (HM.out.below CX.below)).mono ?_; rintro e wn ⟨⟨fb, rfl, hf⟩, hb⟩; replace CX := CX.next hb; clear hb; (try clear x0 x1 x2 x3 x4 x5 x6 x7 x8 x9 x10); obtain ⟨x0, x1, x2, x3, x4, x5, x6, x7, x8, x9, x10⟩ := HBX.out.next CX.below; have HF := Lib.hid hf; clear hf; cases fb)
    | (go_at_call 29; refine (next_calls q m at_ _ (HM.out.below CX.below) (HF.out (by first | rfl | trivial))).mono ?_; rintro e wn ⟨A1, C1, rfl, hr, hb⟩; replace CX := CX.next hb; have HR := Lib.hid hr; clear hb hr; (try clear x0 x1 x2 x3 x4 x5 x6 x7 x8 x9 x10); obtain ⟨x0, x1, x2, x3, x4, x5, x6, x7, x8, x9, x10⟩ := HBX.out.next CX.below)
    | (go_at_call 30; refine (rnext_calls q m at_ _ (HM.out.below CX.below) (HF.out (by first | rfl | trivial))).mono ?_; rintro e wn ⟨A2, C2, rfl, hr, hb⟩; replace CX := CX.next hb; have HR2 := Lib.hid hr; replace HR := Lib.hid (HR.out.below hb); clear hb hr; (try clear x0 x1 x2 x3 x4 x5 x6 x7 x8 x9 x10); obtain ⟨x0, x1, x2, x3, x4, x5, x6, x7, x8, x9, x10⟩ := HBX.out.next CX.below))
  · go_ret
    exact ⟨rfl, HB.out.trans (CX.below.mono HB.out.size)⟩
  · have hn40 : m.nc ≤ 40 := (HF.out (by first | rfl | trivial)).nc
    have HLN := Lib.hid (nxL_len m at_ (HF.out (by first | rfl | trivial)))
    have HZ := Lib.hid (HB.out.trans (CX.below.mono HB.out.size))
    generalize nxL m at_ = L at *
    generalize nxE m at_ = E at *
    (try clear x0 x1 x2 x3 x4 x5 x6 x7 x8 x9 x10)
    have CB := Lib.hid CX.below
    clear CX
    go_loopw [9] (fun i wr => ∃ j : Nat, j ≤ m.nc ∧ i = .int .i64 j ∧ Hid (Below wn.heap.size wn wr)) (fun i _ => m.nc - (intOf i).toNat)
    case atStart => exact ⟨0, by omega, rfl, Lib.hid (Below.refl _ _)⟩
    case round =>
      obtain ⟨j, hj, rfl, hB⟩ := hrel
      obtain ⟨x0, x1, x2, x3, x4, x5, x6, x7, x8, x9, x10⟩ := HBX.out.next (CB.out.step2 hB.out)
      by_cases hlt : j < m.nc
      · obtain ⟨b, o, ha, hb, hcell⟩ := HM.out.code j hlt
        have k0 := ((CB.out.step2 hB.out).cell (p := ⟨b, _, none⟩) hb).trans (hcell 0 (by omega))
        have HE1 := Lib.hid (fun w => (ends_calls (m.c j 0) w).mono fun e w' ⟨h1, h2⟩ => (⟨h1, h2 ▸ Below.refl _ _⟩ : e = Ending.returned (Value.bool (endsI (m.c j 0))) ∧ Below w.heap.size w w'))
        have HE2 := Lib.hid (fun w => rends_calls (m.c j 0) w)
        rw [ha] at x4
        clear ha hb hcell
        have g0 : (0 : Int) ≤ (j : Int) := by omega
        have g3 : (j : Int) < (m.nc : Int) := by omega
        generalize endsI (m.c j 0) = en at *
        generalize m.c j 0 = op at *
        clear x0 x1 x2 x3 x5 x6 x7 x8 x9 x10
        cases en
        · skip
          go_wp2
          go_region_held3 (fun w' => w'.cell? ⟨w.heap.size, 4, none⟩ = some (.slice (some ⟨b, o, none⟩) m.nc q.c4) ∧ w'.cell? ⟨b, o + j * 10, none⟩ = some (.int .i64 op) ∧ Hid (Below wn.heap.size wn w'))
            (((try go_split_ands); (repeat' apply And.intro) <;> first | exact keep3 hb (by assumption) | assumption | exact Lib.hid (Below.step2 (Hid.out (by assumption)) hb) | exact Lib.hid (Below.drew (Hid.out (by assumption))) | go_keep))
            (first
              | (go_at_call 31; refine (HE1.out _).mono ?_; rintro e w1 ⟨rfl, hb⟩)
              | (go_at_call 32; refine (HE2.out _).mono ?_; rintro e w1 ⟨rfl, hb⟩))
          all_goals go_wp2
          all_goals go_roundw
          case rel => (go_split_ands; exact ⟨j + 1, by omega, by go_num, by assumption⟩)
          case measure => simp [intOf]; omega
        · skip
          go_wp2
          go_region_held3 (fun w' => w'.cell? ⟨w.heap.size, 4, none⟩ = some (.slice (some ⟨b, o, none⟩) m.nc q.c4) ∧ w'.cell? ⟨b, o + j * 10, none⟩ = some (.int .i64 op) ∧ Hid (Below wn.heap.size wn w'))
            (((try go_split_ands); (repeat' apply And.intro) <;> first | exact keep3 hb (by assumption) | assumption | exact Lib.hid (Below.step2 (Hid.out (by assumption)) hb) | exact Lib.hid (Below.drew (Hid.out (by assumption))) | go_keep))
            (first
              | (go_at_call 31; refine (HE1.out _).mono ?_; rintro e w1 ⟨rfl, hb⟩)
              | (go_at_call 32; refine (HE2.out _).mono ?_; rintro e w1 ⟨rfl, hb⟩))
          all_goals go_wp2
          all_goals go_roundw
          case rel => (go_split_ands; exact ⟨j + 1, by omega, by go_num, by assumption⟩)
          case measure => simp [intOf]; omega
      · obtain rfl : j = m.nc := by omega
        go_wp2_with (go_at_call 28; refine (same_yes L _ _ _ _ _ (HR.out.below hB.out) (HR2.out.below hB.out) (Nat.le_trans HLN.out (by decide))).mono ?_; rintro e wm ⟨rfl, hb⟩; have HB9 := Lib.hid (hB.out.step2 hb); clear hb)
        go_ret
        exact ⟨rfl, HZ.out.step2 HB9.out⟩
end Go.Proofs.YtadkbcdopcehhaaDoor
