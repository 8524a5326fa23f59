/- Hold, Drop. -/
import Derived.Test.YtodfpclekihbhaaW17
namespace Go.Proofs.Ytodfpclekihbhaa
open Go.RowKit Go.Shelf

variable {w : World} {hb : Nat} {A : HA} {H : Hp} {S : Nat → Prop}
theorem hold_nil (r : Int) (w : World) : Calls Try.prog 34 #[.pointer none, .int .i64 r] w fun e w' => e = .returned (.int .i64 4) ∧ Below w.heap.size w w' := by
  have HF := Lib.hid (find_nil r w)
  go_enter Try.func34, Try.ntmps34
  go_wp2_with (go_at_call 57; refine HF.out.mono ?_; rintro e w1 ⟨rfl, rfl⟩)
  all_goals go_ret
  all_goals exact ⟨rfl, Below.refl _ _⟩
theorem drop_nil (r : Int) (w : World) : Calls Try.prog 35 #[.pointer none, .int .i64 r] w fun e w' => e = .returned (.int .i64 4) ∧ Below w.heap.size w w' := by
  have HF := Lib.hid (find_nil r w)
  go_enter Try.func35, Try.ntmps35
  go_wp2_with (go_at_call 57; refine HF.out.mono ?_; rintro e w1 ⟨rfl, rfl⟩)
  all_goals go_ret
  all_goals exact ⟨rfl, Below.refl _ _⟩
set_option maxHeartbeats 1000000 in
theorem hold_calls (h : HpAt w hb A H S) (r : Int) (hbd : ∀ o, Mp.get H.objs r = some o → 0 ≤ o.holds ∧ o.holds ≤ 1000000000) : Calls Try.prog 34 #[.pointer (some ⟨hb, 0, none⟩), .int .i64 r] w (ChPost w hb A S (holdH H r)) := by
  cases ho : Mp.get H.objs r with
  | none =>
    rw [show holdH H r = (H, 4) from by unfold holdH; rw [if_pos ho]]
    have HF := Lib.hid (find_none h ho)
    have HH := Lib.hid h
    clear h ho hbd
    go_enter Try.func34, Try.ntmps34
    go_wp2_with (go_at_call 57; refine HF.out.mono ?_; rintro e w1 ⟨rfl, rfl⟩)
    all_goals go_ret
    all_goals exact ChPost.err HH.out 4 _ _ ⟨rfl, Below.refl _ _⟩
  | some o =>
    rw [show holdH H r = (seeH (H.upd r Ob.hold) r, 0) from by unfold holdH; rw [if_neg (by rw [ho]; simp)]]
    have HF := Lib.hid (find_some h ho)
    have HP : Hid (HpAt (w.setCell ⟨A.ob r, 10, none⟩ (.int .i64 (o.holds + 1))) hb A (H.upd r Ob.hold) S) := Lib.hid (h.setOb r o ho 10 _ Ob.hold rfl fun _ => rfl)
    have HM : Hid (Mut S w (w.setCell ⟨A.ob r, 10, none⟩ (.int .i64 (o.holds + 1)))) := Lib.hid (Mut.setCell _ _ _ _ (h.So r o ho))
    obtain ⟨b1, b2⟩ := hbd o ho
    obtain ⟨d0, d1, d2, d3, d4, d5, d6, d7, d8, d9, d10, d11, df⟩ := h.ocells ho
    have HSee := Lib.hid (see_S HP.out r)
    clear h ho hbd d0 d1 d2 d3 d4 d5 d6 d7 d8 d9 d11
    generalize o.holds = n at *
    go_enter Try.func34, Try.ntmps34
    go_wp2_with (first
      | (go_at_call 57; refine HF.out.mono ?_; rintro e w1 ⟨rfl, rfl⟩)
      | (go_at_call 62; refine HSee.out.mono ?_; rintro e w2 ⟨rfl, h2, m2⟩; have H2 := Lib.hid h2; have M2 := Lib.hid m2; clear h2 m2))
    go_ret
    exact ⟨rfl, H2.out, HM.out.then M2.out⟩
theorem Lst.nil (w : World) (S : Nat → Prop) : Lst w S none 0 [] := ⟨World.ownsRow_nil _ _ _ _, fun a ha => by cases ha⟩
set_option maxHeartbeats 2000000 in
theorem drop_calls (h : HpAt w hb A H S) (hi : Inv H []) (hmu : muH H ≤ 90000000) (hbd : HoldsLe H 1000000000) (r : Int) : Calls Try.prog 35 #[.pointer (some ⟨hb, 0, none⟩), .int .i64 r] w (ChPost w hb A S (dropH H r)) := by
  have HH := Lib.hid h
  cases ho : Mp.get H.objs r with
  | none =>
    rw [show dropH H r = (H, 4) from by unfold dropH; rw [ho]]
    have HF := Lib.hid (find_none h ho)
    clear h ho hbd hi hmu
    go_enter Try.func35, Try.ntmps35
    go_wp2_with (go_at_call 57; refine HF.out.mono ?_; rintro e w1 ⟨rfl, rfl⟩)
    all_goals go_ret
    all_goals exact ChPost.err HH.out 4 _ _ ⟨rfl, Below.refl _ _⟩
  | some o =>
    have HF := Lib.hid (find_some h ho)
    obtain ⟨d0, d1, d2, d3, d4, d5, d6, d7, d8, d9, d10, d11, df⟩ := h.ocells ho
    clear d0 d1 d2 d3 d4 d5 d6 d7 d8 d9 d11
    by_cases h0 : o.holds = 0
    · rw [show dropH H r = (H, 6) from by unfold dropH; rw [ho]; simp only; rw [if_pos h0]]
      rw [h0] at d10
      clear h ho hbd hi hmu h0
      go_enter Try.func35, Try.ntmps35
      go_wp2_with (go_at_call 57; refine HF.out.mono ?_; rintro e w1 ⟨rfl, rfl⟩)
      all_goals go_ret
      all_goals exact ChPost.err HH.out 6 _ _ ⟨rfl, Below.refl _ _⟩
    · have HP : Hid (HpAt (w.setCell ⟨A.ob r, 10, none⟩ (.int .i64 (o.holds - 1))) hb A (H.upd r Ob.drop) S) := Lib.hid (h.setOb r o ho 10 _ Ob.drop rfl fun _ => rfl)
      have HM : Hid (Mut S w (w.setCell ⟨A.ob r, 10, none⟩ (.int .i64 (o.holds - 1)))) := Lib.hid (Mut.setCell _ _ _ _ (h.So r o ho))
      have hpo := hi.pos r o ho
      have hcn := hi.cnt r o ho
      rw [List.count_nil] at hcn
      have hle := inH_le H r
      have e0 : muH H = wsum H.rows + 2 * H.objs.length := rfl
      have hbo := hbd r o ho
      have ho' : Mp.get (H.upd r Ob.drop).objs r = some o.drop := by rw [get_upd, if_pos rfl, ho]; rfl
      have HC : Hid (Calls Try.prog 75 #[.pointer (some ⟨A.ob r, 0, none⟩)] (w.setCell ⟨A.ob r, 10, none⟩ (.int .i64 (o.holds - 1))) fun e w' => e = .returned (.int .i64 (o.holds - 1 + o.rc)) ∧ Below (w.setCell ⟨A.ob r, 10, none⟩ (.int .i64 (o.holds - 1))).heap.size (w.setCell ⟨A.ob r, 10, none⟩ (.int .i64 (o.holds - 1))) w') := Lib.hid (count_calls HP.out ho' (by show 0 ≤ o.holds - 1; omega) (by show o.holds - 1 ≤ _; omega) (by show _ ≤ o.rc; omega) (by show o.rc ≤ _; omega))
      have k0 : (o.holds == 0) = false := by simpa using h0
      have b1 : 1 ≤ o.holds := by omega
      by_cases hc : o.holds - 1 + o.rc = 0
      · have e1 : dropH H r = (relH (freeH (H.upd r Ob.drop) r o).1 (freeH (H.upd r Ob.drop) r o).2.reverse, 0) := by unfold dropH; rw [ho]; simp only; rw [if_neg h0, if_pos hc]
        rw [e1]
        obtain ⟨x, hx, hxA, _⟩ := hi.row r o ho
        obtain ⟨ha1, ha2, ha3⟩ := hi.arr _ _ hx
        have hwl := words_le hx
        have hal : arrC H.objs o.row ≤ H.objs.length := List.length_filter_le _ _
        have hi2 := hi.drop0 ho h0 hc
        rw [List.append_nil] at hi2
        have hmu2 := mu_free (H.upd r Ob.drop) r o _ ho'
        rw [mu_upd] at hmu2
        have HFr := Lib.hid fun (w2 : World) (hm : Below (w.setCell ⟨A.ob r, 10, none⟩ (.int .i64 (o.holds - 1))).heap.size (w.setCell ⟨A.ob r, 10, none⟩ (.int .i64 (o.holds - 1))) w2) => (callsIn_wide (n := 5)).1 (free_calls 5 (by omega) (HP.out.below hm) (o := o.drop) ho' (x := x) hx hxA (by omega) (by omega) ha3 (by
          intro hA r2 o2 h2 e2
          have hfi := hi2.row
          rw [freeH_none (H := H.upd r Ob.drop) (x := x) hx hA] at hfi
          obtain ⟨z, hz, _⟩ := hfi r2 o2 h2
          rw [e2] at hz
          have hz' : Mp.get (Mp.del H.rows o.row) o.row = some z := hz
          rw [Mp.get_del, if_pos rfl] at hz'
          cases hz') (by omega) (Lst.nil w2 S) (by simp))
        have HI2 := Lib.hid hi2
        have HMU2 : Hid (muH (freeH (H.upd r Ob.drop) r o).1 + (freeH (H.upd r Ob.drop) r o).2.length ≤ 100000000) := Lib.hid (by omega)
        have HB2 : Hid (HoldsLe (freeH (H.upd r Ob.drop) r o).1 1000000000) := Lib.hid (by
          intro x y hy
          rw [freeH_objs] at hy
          have hy2 := (get_del_of hy)
          have := hy2.1
          rw [get_upd, if_neg hy2.2] at this
          exact hbd x y this)
        clear h ho hbd hi hmu h0 hpo hcn hle e0 ho' hx hxA ha1 ha2 ha3 hwl hal hi2 hmu2 e1
        generalize hm : o.holds - 1 + o.rc = m at *
        subst hc
        clear hm
        generalize o.holds = nh at *
        go_enter Try.func35, Try.ntmps35
        go_wp2_with (first
          | (go_at_call 57; refine HF.out.mono ?_; rintro e w1 ⟨rfl, rfl⟩)
          | (go_at_call 75; refine HC.out.mono ?_; rintro e w2 ⟨rfl, hb2⟩
             have HBl := Lib.hid hb2
             clear hb2)
          | (go_at_call 76; refine (HFr.out _ HBl.out).mono ?_; rintro e w3 ⟨LA2, LC2, rfl, h3, l3, f3, m3⟩
             have H3 := Lib.hid h3
             have L3 := Lib.hid l3
             have F3 := Lib.hid f3
             have M3 := Lib.hid m3
             clear h3 l3 f3 m3)
          | (go_at_call 63; refine (release_calls (l := (freeH (H.upd r Ob.drop) r o).2) H3.out HI2.out HMU2.out HB2.out L3.out).mono ?_; rintro e w4 ⟨rfl, h4, m4⟩
             have H4 := Lib.hid h4
             have M4 := Lib.hid m4
             clear h4 m4))
        go_ret
        refine ⟨rfl, H4.out, ?_⟩
        refine (((HM.out.then (Mut.of_below HBl.out)).trans M3.out fun k hk => ?_).trans M4.out fun k hk => ?_)
        · rcases hk with hk | ⟨a, ha, _⟩
          · exact .inl hk
          · cases ha
        · rcases hk with hk | ⟨a, ha, rfl⟩
          · exact .inl hk
          · rcases F3.out a ha with e | e
            · cases e
            · exact .inr (by have := HBl.out.size; simp at this; omega)
      · have e1 : dropH H r = (H.upd r Ob.drop, 0) := by unfold dropH; rw [ho]; simp only; rw [if_neg h0, if_neg hc]
        rw [e1]
        have k1 : (o.holds - 1 + o.rc == 0) = false := by simpa using hc
        clear h ho hbd hi hmu h0 hpo hcn hle e0 ho' e1 hc
        generalize hm : o.holds - 1 + o.rc = m at *
        clear hm
        generalize o.holds = nh at *
        go_enter Try.func35, Try.ntmps35
        go_wp2_with (first
          | (go_at_call 57; refine HF.out.mono ?_; rintro e w1 ⟨rfl, rfl⟩)
          | (go_at_call 75; refine HC.out.mono ?_; rintro e w2 ⟨rfl, hb2⟩
             have HBl := Lib.hid hb2
             clear hb2))
        go_ret
        exact ⟨rfl, HP.out.below HBl.out, HM.out.then (Mut.of_below HBl.out)⟩
end Go.Proofs.Ytodfpclekihbhaa
