/- Refs, Clear. -/
import Derived.Test.YtodfpclekihbhaaW18
namespace Go.Proofs.Ytodfpclekihbhaa
open Go.RowKit Go.Shelf

variable {w : World} {hb : Nat} {A : HA} {H : Hp} {S : Nat → Prop}
theorem ord_h (h : HpAt w hb A H S) {r : Int} {o : Ob} (ho : Mp.get H.objs r = some o) {x : Rw} (hx : Mp.get H.rows o.row = some x) (hxA : o.kind = 2 → x.isA = true) (W : World) (hW : Below w.heap.size w W) : ORd (A.ob r) A o x.words W := by
  have h1 := h.below hW
  have hB := h1.obj r o ho
  rw [h1.row_of hx rfl] at hB
  exact ⟨cell_of_heap hB rfl, cell_of_heap hB rfl, cell_of_heap hB rfl, cell_of_heap hB rfl, fun hk => cell_of_heap (h1.sto _ _ hx (hxA hk)) rfl, h1.row _ _ hx⟩
theorem targets_len (H : Hp) (o : Ob) {x : Rw} (hx : Mp.get H.rows o.row = some x) : targetsH H o = refsOf x.words ++ tailOf o ∧ (targetsH H o).length ≤ muH H + 1 := by
  have e : targetsH H o = refsOf x.words ++ tailOf o := by unfold targetsH Hp.rowOf; rw [hx]; rfl
  refine ⟨e, ?_⟩
  rw [e, List.length_append]
  have h1 := len_refsOf x.words
  have h2 := words_le_mu hx
  have h3 : (tailOf o).length ≤ 1 := by unfold tailOf; split <;> simp
  omega
/-- slices.Collect of an object's references. -/
theorem collect_h (h : HpAt w hb A H S) (hi : Inv H []) (hmu : muH H ≤ 90000000) {r : Int} {o : Ob} (ho : Mp.get H.objs r = some o) : Calls Try.prog 74 #[.func (.func 72) #[.pointer (some ⟨A.ob r, 0, none⟩)] #[]] w fun e w' => ∃ LA LC, e = .returned (.slice LA (targetsH H o).length LC) ∧ w'.ownsRow w.heap.size 26 1 (.slice LA (targetsH H o).length LC) (targetsH H o).length (ints (targetsH H o)) ∧ Below w.heap.size w w' := by
  obtain ⟨x, hx, hxA, _⟩ := hi.row r o ho
  obtain ⟨e, hl⟩ := targets_len H o hx
  have hw := words_le_mu hx
  rw [e] at hl ⊢
  exact (callsIn_wide (n := 5)).1 (collect_met 5 (by omega) 72 #[.pointer (some ⟨A.ob r, 0, none⟩)] (enters_of Try.func72 (by kernel_rfl) rfl) _ (by omega) _ (targets_gives 3 A (A.ob r) o x.words (by omega)) w fun W hW => ord_h h ho hx hxA.2 W hW)
theorem refs_nil (r : Int) (w : World) : Calls Try.prog 41 #[.pointer none, .int .i64 r] w fun e w' => e = .returned (.slice none 0 0) ∧ w = w' := by
  have HF := Lib.hid (find_nil r w)
  go_enter Try.func41, Try.ntmps41
  go_wp2_with (go_at_call 57; refine HF.out.mono ?_; rintro e w1 ⟨rfl, rfl⟩)
  all_goals go_ret
  all_goals exact ⟨rfl, rfl⟩
/-- What a call that returns references leaves. -/
def RfPost (w : World) (l : List Int) (e : Ending) (w' : World) : Prop := ∃ LA LC, e = .returned (.slice LA l.length LC) ∧ w'.ownsRow w.heap.size 26 1 (.slice LA l.length LC) l.length (ints l) ∧ Below w.heap.size w w'
theorem refs_calls (h : HpAt w hb A H S) (hi : Inv H []) (hmu : muH H ≤ 90000000) (r : Int) : Calls Try.prog 41 #[.pointer (some ⟨hb, 0, none⟩), .int .i64 r] w (RfPost w (refsH H r)) := by
  cases ho : Mp.get H.objs r with
  | none =>
    rw [show refsH H r = [] from by unfold refsH; rw [ho]]
    have HF := Lib.hid (find_none h ho)
    clear h ho hi hmu
    go_enter Try.func41, Try.ntmps41
    go_wp2_with (go_at_call 57; refine HF.out.mono ?_; rintro e w1 ⟨rfl, rfl⟩)
    all_goals go_ret
    all_goals exact ⟨none, 0, rfl, World.ownsRow_nil _ _ _ _, Below.refl _ _⟩
  | some o =>
    rw [show refsH H r = targetsH H o from by unfold refsH; rw [ho]]
    have HF := Lib.hid (find_some h ho)
    have HC := Lib.hid (collect_h h hi hmu ho)
    clear h ho hi hmu
    go_enter Try.func41, Try.ntmps41
    go_wp2_with (first
      | (go_at_call 57; refine HF.out.mono ?_; rintro e w1 ⟨rfl, rfl⟩)
      | (go_at_call 74; refine HC.out.mono ?_; rintro e w1 ⟨LA, LC, rfl, ho, hb1⟩; have HO := Lib.hid ho; have HB := Lib.hid hb1; clear ho hb1))
    go_ret
    exact ⟨LA, LC, rfl, HO.out, HB.out⟩
/-- A row whose first words are cut. -/
def cutN (j : Nat) (x : Rw) : Rw := { x with words := (x.words.take j).map Wd.cut ++ x.words.drop j }
theorem cutN_zero (x : Rw) : cutN 0 x = x := by simp [cutN]
theorem cutN_all (x : Rw) {n : Nat} (h : x.words.length ≤ n) : cutN n x = cutRow x := by
  unfold cutN cutRow
  rw [List.take_of_length_le h, List.drop_eq_nil_of_le h, List.append_nil]
theorem cutN_len (j : Nat) (x : Rw) : (cutN j x).words.length = x.words.length := by simp [cutN]; omega
theorem cut_list (l : List Wd) (j : Nat) : ((l.take j).map Wd.cut ++ l.drop j).modify j Wd.cut = (l.take (j + 1)).map Wd.cut ++ l.drop (j + 1) := by
  induction l generalizing j with
  | nil => simp
  | cons x l ih =>
    cases j with
    | zero => simp
    | succ j =>
      simp only [List.take_succ_cons, List.map_cons, List.drop_succ_cons, List.cons_append, List.modify_succ_cons, ih j]
theorem cutN_succ (j : Nat) (x : Rw) : (cutN j x).words.modify j Wd.cut = (cutN (j + 1) x).words := cut_list x.words j
theorem updR_cutN (H : Hp) (k : Int) (j : Nat) : (H.updR k (cutN j)).updR k (fun x => { x with words := x.words.modify j Wd.cut }) = H.updR k (cutN (j + 1)) := by
  unfold Hp.updR
  simp only [mapAt_mapAt]
  congr 2
  funext x
  show ({ cutN j x with words := (cutN j x).words.modify j Wd.cut } : Rw) = cutN (j + 1) x
  rw [cutN_succ]
  rfl
theorem mapAt_id {α : Type} (L : List (Int × α)) (k : Int) (f : α → α) (hf : ∀ x, f x = x) : mapAt L k f = L := by
  unfold mapAt
  conv => rhs; rw [← List.map_id L]
  apply List.map_congr_left
  intro p _
  split
  · rw [hf]; rfl
  · rfl
theorem updR_cut0 (H : Hp) (k : Int) : H.updR k (cutN 0) = H := by unfold Hp.updR; rw [mapAt_id _ _ _ cutN_zero]
theorem updR_cutAll {H : Hp} {k : Int} {x : Rw} (hx : Mp.get H.rows k = some x) (hn : (H.rows.map (·.1)).Nodup) : H.updR k (cutN x.words.length) = H.updR k cutRow := by
  unfold Hp.updR mapAt
  congr 1
  apply List.map_congr_left
  intro p hp
  by_cases e : p.1 = k
  · rw [if_pos e, if_pos e]
    have := Mp.get_of_mem hn (show (p.1, p.2) ∈ H.rows from hp)
    rw [e, hx] at this
    injection this with this
    rw [this, cutN_all _ (Nat.le_refl _)]
  · rw [if_neg e, if_neg e]
/-- A reference of a row is set to 0. -/
theorem HpAt.cutW' {k : Int} {x : Rw} (j : Nat) (hx : Mp.get H.rows k = some x) (hp : HpAt w hb A (H.updR k (cutN j)) S) {g : Nat} (hA : A.wA k = some ⟨g, 0, none⟩) : HpAt (w.setCell ⟨g, j * 2 + 1, none⟩ (.int .i64 0)) hb A (H.updR k (cutN (j + 1))) S := by
  have := hp.setWd k (cutN j x) (get_updR hx _) g (j * 2 + 1) hA (.int .i64 0) ((cutN j x).words.modify j Wd.cut) (by simp) (wcs_set1 _ _ 0) (fun x => { x with words := x.words.modify j Wd.cut }) rfl
  rwa [updR_cutN] at this
theorem seeAll_snoc (H : Hp) (l : List Int) (x : Int) : seeAll H (l ++ [x]) = seeH (seeAll H l) x := by unfold seeAll; rw [List.foldl_append]; rfl
theorem clear_nil (r : Int) (w : World) : Calls Try.prog 33 #[.pointer none, .int .i64 r] w fun e w' => e = .returned (.int .i64 4) ∧ Below w.heap.size w w' := by
  have HF := Lib.hid (find_nil r w)
  go_enter Try.func33, Try.ntmps33
  go_wp2_with (go_at_call 57; refine HF.out.mono ?_; rintro e w1 ⟨rfl, rfl⟩)
  all_goals go_ret
  all_goals exact ⟨rfl, Below.refl _ _⟩
theorem clear_none (h : HpAt w hb A H S) {r : Int} (ho : Mp.get H.objs r = none) : Calls Try.prog 33 #[.pointer (some ⟨hb, 0, none⟩), .int .i64 r] w (ChPost w hb A S (clearH H r)) := by
  rw [show clearH H r = (H, 4) from by unfold clearH; rw [ho]]
  have HF := Lib.hid (find_none h ho)
  have HH := Lib.hid h
  clear h ho
  go_enter Try.func33, Try.ntmps33
  go_wp2_with (go_at_call 57; refine HF.out.mono ?_; rintro e w1 ⟨rfl, rfl⟩)
  all_goals go_ret
  all_goals exact ChPost.err HH.out 4 _ _ ⟨rfl, Below.refl _ _⟩
theorem ints_get {l : List Int} {j : Nat} (hj : j < l.length) {w : World} {B : Nat} {LA : Option Addr} {LC : Nat} (h : w.ownsRow B 26 1 (.slice LA l.length LC) l.length (ints l)) : ∃ g, LA = some ⟨g, 0, none⟩ ∧ g < w.heap.size ∧ l.length ≤ LC ∧ w.cell? ⟨g, j, none⟩ = some (.int .i64 (l[j]'hj)) := by
  rcases h.2 with ⟨h1, h2⟩ | ⟨g, cap, cur, h1, h2, h3, h4, h5, h6, h7⟩
  · omega
  · injection h1 with e1 e2 e3
    subst e3
    refine ⟨g, e1, lt_of_heap h3, h4, cell_of_heap h3 ?_⟩
    have : (cur.toList.take (l.length * 1))[j]? = some (.int .i64 (l[j]'hj)) := by rw [h7]; simp [ints, hj]
    rw [List.getElem?_take_of_lt (by omega)] at this
    simpa using this
set_option maxHeartbeats 4000000 in
theorem clear_arr (h : HpAt w hb A H S) (hi : Inv H []) (hmu : muH H ≤ 40000000) (hbd : HoldsLe H 1000000000) {r : Int} {o : Ob} (ho : Mp.get H.objs r = some o) (hk : o.kind = 2) : Calls Try.prog 33 #[.pointer (some ⟨hb, 0, none⟩), .int .i64 r] w (ChPost w hb A S (clearH H r)) := by
  rw [show clearH H r = (relH (seeAll ((H.updR o.row cutRow).upd r Ob.cut) (targetsH H o)) (targetsH H o).reverse, 0) from by unfold clearH; rw [ho]]
  obtain ⟨x, hx, hxA, _⟩ := hi.row r o ho
  have hnd := hi.ndR
  have htl := (targets_len H o hx).2
  have HF := Lib.hid (find_some h ho)
  have HC := Lib.hid (collect_h h hi (by omega) ho)
  have hi2 := hi.cut ho
  have HH := Lib.hid h
  have HO := Lib.hid ho
  have HX := Lib.hid hx
  have hwl := words_le_mu hx
  obtain ⟨d0, d1, d2, d3, d4, d5, d6, d7, d8, d9, d10, d11, df⟩ := h.ocells ho
  rw [h.row_of hx rfl] at d3
  clear d1 d2 d4 d5 d6 d8 d9 d10 d11
  have e1 := cell_of_heap (v := .slice (A.wA o.row) x.words.length (A.wC o.row)) (h.sto _ _ hx (hxA.2 hk)) (j := 1) rfl
  rw [show A.pF o = .pointer (some ⟨A.st o.row, 0, none⟩) from by unfold HA.pF; rw [if_pos hk]] at d7
  rw [hk] at d0
  rw [show A.wF o x.words.length = .slice none 0 0 from if_pos hk] at d3
  have HREL : Hid (∀ (W : World) (LA : Option Addr) (LC : Nat), HpAt W hb A (seeAll ((H.updR o.row cutRow).upd r Ob.cut) (targetsH H o)) S → Lst W S LA LC (targetsH H o) → Calls Try.prog 63 #[.pointer (some ⟨hb, 0, none⟩), .slice LA (targetsH H o).length LC] W fun e w' => e = .returned (.tuple #[]) ∧ HpAt w' hb A (relH (seeAll ((H.updR o.row cutRow).upd r Ob.cut) (targetsH H o)) (targetsH H o).reverse) S ∧ Mut (fun k => S k ∨ LB LA k) W w') := Lib.hid (fun W LA LC hp hl => release_calls hp (hi2.same (seeAll_objs _ _) (seeAll_rows _ _) (seeAll_last _ _)) (by
      have e1 : muH (seeAll ((H.updR o.row cutRow).upd r Ob.cut) (targetsH H o)) = muH H := by
        unfold muH
        rw [seeAll_rows, seeAll_objs]
        show wsum (mapAt H.rows o.row cutRow) + 2 * (mapAt H.objs r Ob.cut).length = _
        rw [len_mapAt, wsum_mapAt _ _ _ (fun x => by simp [cutRow])]
      omega) (by
      intro x y hy
      rw [seeAll_objs] at hy
      exact (HoldsLe.upd (H := H.updR o.row cutRow) hbd r Ob.cut (fun _ => rfl)) x y hy) hl)
  have hn1 : x.words.length ≤ 90000000 := by omega
  have hn2 : (targetsH H o).length ≤ 90000001 := by omega
  have HCA := Lib.hid (updR_cutAll hx hnd)
  have HSL := Lib.hid h.Slt
  clear h ho hi hmu hbd hi2 hx hxA hnd htl hwl hk
  generalize hts : targetsH H o = ts at *
  clear hts
  go_enter Try.func33, Try.ntmps33
  go_wp2_with (first
    | (go_at_call 57; refine HF.out.mono ?_; rintro e w1 ⟨rfl, rfl⟩)
    | (go_at_call 74; refine HC.out.mono ?_; rintro e w1 ⟨LA, LC, rfl, hown, hb1⟩; have HOWN := Lib.hid hown; have HB := Lib.hid hb1; clear hown hb1))
  have HL1 : Hid (HpAt w1 hb A (H.updR o.row (cutN 0)) S ∧ Mut S w1 w1) := Lib.hid ⟨by rw [updR_cut0]; exact HH.out.below HB.out, Mut.refl _ _⟩
  go_loopw [37] (fun p wr => ∃ j : Nat, j ≤ x.words.length ∧ p = .int .i64 j ∧ Hid (HpAt wr hb A (H.updR o.row (cutN j)) S ∧ Mut S w1 wr)) (fun i _ => x.words.length - (intOf i).toNat)
  case atStart => exact ⟨0, Nat.zero_le _, rfl, HL1⟩
  case round =>
    obtain ⟨j, hj, rfl, HJ⟩ := hrel
    by_cases hlt : j < x.words.length
    · have hr := HJ.out.1.row o.row (cutN j x) (get_updR HX.out _)
      obtain ⟨g, hA, hg, hC, hgf, w0, w1c⟩ := hr.cell j (by rw [cutN_len]; exact hlt)
      rw [cutN_len] at hC
      have q0 : (0 : Int) ≤ (j : Int) := by omega
      have q1 : (j : Int) < (x.words.length : Int) := by omega
      have HA' := Lib.hid hA
      have HN : Hid (HpAt (wr.setCell ⟨g, j * 2 + 1, none⟩ (.int .i64 0)) hb A (H.updR o.row (cutN (j + 1))) S ∧ Mut S w1 (wr.setCell ⟨g, j * 2 + 1, none⟩ (.int .i64 0))) := Lib.hid ⟨HpAt.cutW' j HX.out HJ.out.1 hA, HJ.out.2.then (Mut.setCell _ _ _ _ (HJ.out.1.Sw _ _ _ (get_updR HX.out _) hA))⟩
      rw [hA]
      clear hA hr
      go_wp2
      go_roundw
      case rel => exact ⟨j + 1, by omega, by go_num, HN⟩
      case measure => simp [intOf]; omega
    · obtain rfl : j = x.words.length := by omega
      rw [HCA.out] at HJ
      have ho2 : Mp.get (H.updR o.row cutRow).objs r = some o := HO.out
      obtain ⟨_, _, _, _, _, _, t6, _, _, _, _, _, tf⟩ := HJ.out.1.ocells ho2
      have HP2 : Hid (HpAt (wr.setCell ⟨A.ob r, 6, none⟩ (.int .i64 0)) hb A ((H.updR o.row cutRow).upd r Ob.cut) S) := Lib.hid (HJ.out.1.setOb r o ho2 6 _ Ob.cut rfl fun _ => rfl)
      have HM2 : Hid (Mut S w1 (wr.setCell ⟨A.ob r, 6, none⟩ (.int .i64 0))) := Lib.hid (HJ.out.2.then (Mut.setCell _ _ _ _ (HJ.out.1.So r o ho2)))
      clear ho2 hlt hj
      go_wp2
      have HL2 : Hid (HpAt (wr.setCell ⟨A.ob r, 6, none⟩ (.int .i64 0)) hb A (seeAll ((H.updR o.row cutRow).upd r Ob.cut) (ts.take 0)) S ∧ Mut S w1 (wr.setCell ⟨A.ob r, 6, none⟩ (.int .i64 0))) := Lib.hid ⟨HP2.out, HM2.out⟩
      have HLo : Hid (∀ a, LA = some a → ¬ S a.block) := Lib.hid fun a ha hSa => by have := (own_blk HOWN.out a ha).1; have := HSL.out _ hSa; omega
      obtain ⟨wo, hwo⟩ : ∃ wo : World, wo = wr.setCell ⟨A.ob r, 6, none⟩ (.int .i64 0) := ⟨_, rfl⟩
      rw [← hwo] at HL2 ⊢
      clear hwo HP2 HM2 HJ t6 tf
      go_loopw [50] (fun p wr2 => ∃ j : Nat, j ≤ ts.length ∧ p = .int .i64 j ∧ Hid (HpAt wr2 hb A (seeAll ((H.updR o.row cutRow).upd r Ob.cut) (ts.take j)) S ∧ Mut S w1 wr2)) (fun i _ => ts.length - (intOf i).toNat)
      case atStart => exact ⟨0, Nat.zero_le _, rfl, HL2⟩
      case round =>
        clear HL2
        obtain ⟨j, hj, rfl, HJ⟩ := hrel
        by_cases hlt : j < ts.length
        · obtain ⟨g, hA, hg, hC, c1⟩ := ints_get hlt (own_mut2 HOWN.out HJ.out.2 HLo.out)
          have q0 : (0 : Int) ≤ (j : Int) := by omega
          have q1 : (j : Int) < (ts.length : Int) := by omega
          have HT : Hid (ts.take (j + 1) = ts.take j ++ [ts[j]'hlt]) := Lib.hid (List.take_succ_eq_append_getElem hlt)
          have HSee := Lib.hid (see_S HJ.out.1 (ts[j]'hlt))
          rw [hA]
          clear hA
          generalize ts[j]'hlt = y at *
          go_wp2_with (go_at_call 62; refine HSee.out.mono ?_; rintro e w5 ⟨rfl, h5, m5⟩
                       have H5 : Hid (HpAt w5 hb A (seeAll ((H.updR o.row cutRow).upd r Ob.cut) (ts.take (j + 1))) S ∧ Mut S w1 w5) := Lib.hid ⟨by rw [HT.out, seeAll_snoc]; exact h5, HJ.out.2.then m5⟩
                       clear h5 m5)
          go_roundw
          case rel => exact ⟨j + 1, by omega, by go_num, H5⟩
          case measure => simp [intOf]; omega
        · obtain rfl : j = ts.length := by omega
          rw [List.take_length] at HJ
          clear hlt hj
          go_wp2_with (go_at_call 63; refine (HREL.out _ LA LC HJ.out.1 ⟨(own_mut2 HOWN.out HJ.out.2 HLo.out).mono (Nat.zero_le _), HLo.out⟩).mono ?_; rintro e w6 ⟨rfl, h6, m6⟩
                       have H6 := Lib.hid h6
                       have M6 := Lib.hid m6
                       clear h6 m6)
          go_ret
          refine ⟨rfl, H6.out, ((Mut.of_below HB.out).then HJ.out.2).trans M6.out fun k hk => ?_⟩
          rcases hk with hk | ⟨a, ha, rfl⟩
          · exact .inl hk
          · exact .inr (own_blk HOWN.out a ha).1
set_option maxHeartbeats 4000000 in
theorem clear_oth (h : HpAt w hb A H S) (hi : Inv H []) (hmu : muH H ≤ 40000000) (hbd : HoldsLe H 1000000000) {r : Int} {o : Ob} (ho : Mp.get H.objs r = some o) (hk : o.kind ≠ 2) : Calls Try.prog 33 #[.pointer (some ⟨hb, 0, none⟩), .int .i64 r] w (ChPost w hb A S (clearH H r)) := by
  rw [show clearH H r = (relH (seeAll ((H.updR o.row cutRow).upd r Ob.cut) (targetsH H o)) (targetsH H o).reverse, 0) from by unfold clearH; rw [ho]]
  obtain ⟨x, hx, hxA, _⟩ := hi.row r o ho
  have hnd := hi.ndR
  have htl := (targets_len H o hx).2
  have HF := Lib.hid (find_some h ho)
  have HC := Lib.hid (collect_h h hi (by omega) ho)
  have hi2 := hi.cut ho
  have HH := Lib.hid h
  have HO := Lib.hid ho
  have HX := Lib.hid hx
  have hwl := words_le_mu hx
  obtain ⟨d0, d1, d2, d3, d4, d5, d6, d7, d8, d9, d10, d11, df⟩ := h.ocells ho
  rw [h.row_of hx rfl] at d3
  clear d1 d2 d4 d5 d6 d8 d9 d10 d11
  have k1 : (o.kind == 2) = false := by simpa using hk
  rw [show A.wF o x.words.length = .slice (A.wA o.row) x.words.length (A.wC o.row) from if_neg hk] at d3
  clear d7
  have HREL : Hid (∀ (W : World) (LA : Option Addr) (LC : Nat), HpAt W hb A (seeAll ((H.updR o.row cutRow).upd r Ob.cut) (targetsH H o)) S → Lst W S LA LC (targetsH H o) → Calls Try.prog 63 #[.pointer (some ⟨hb, 0, none⟩), .slice LA (targetsH H o).length LC] W fun e w' => e = .returned (.tuple #[]) ∧ HpAt w' hb A (relH (seeAll ((H.updR o.row cutRow).upd r Ob.cut) (targetsH H o)) (targetsH H o).reverse) S ∧ Mut (fun k => S k ∨ LB LA k) W w') := Lib.hid (fun W LA LC hp hl => release_calls hp (hi2.same (seeAll_objs _ _) (seeAll_rows _ _) (seeAll_last _ _)) (by
      have e1 : muH (seeAll ((H.updR o.row cutRow).upd r Ob.cut) (targetsH H o)) = muH H := by
        unfold muH
        rw [seeAll_rows, seeAll_objs]
        show wsum (mapAt H.rows o.row cutRow) + 2 * (mapAt H.objs r Ob.cut).length = _
        rw [len_mapAt, wsum_mapAt _ _ _ (fun x => by simp [cutRow])]
      omega) (by
      intro x y hy
      rw [seeAll_objs] at hy
      exact (HoldsLe.upd (H := H.updR o.row cutRow) hbd r Ob.cut (fun _ => rfl)) x y hy) hl)
  have hn1 : x.words.length ≤ 90000000 := by omega
  have hn2 : (targetsH H o).length ≤ 90000001 := by omega
  have HCA := Lib.hid (updR_cutAll hx hnd)
  have HSL := Lib.hid h.Slt
  clear h ho hi hmu hbd hi2 hx hxA hnd htl hwl hk
  generalize hts : targetsH H o = ts at *
  clear hts
  go_enter Try.func33, Try.ntmps33
  go_wp2_with (first
    | (go_at_call 57; refine HF.out.mono ?_; rintro e w1 ⟨rfl, rfl⟩)
    | (go_at_call 74; refine HC.out.mono ?_; rintro e w1 ⟨LA, LC, rfl, hown, hb1⟩; have HOWN := Lib.hid hown; have HB := Lib.hid hb1; clear hown hb1))
  have HL1 : Hid (HpAt w1 hb A (H.updR o.row (cutN 0)) S ∧ Mut S w1 w1) := Lib.hid ⟨by rw [updR_cut0]; exact HH.out.below HB.out, Mut.refl _ _⟩
  go_loopw [37] (fun p wr => ∃ j : Nat, j ≤ x.words.length ∧ p = .int .i64 j ∧ Hid (HpAt wr hb A (H.updR o.row (cutN j)) S ∧ Mut S w1 wr)) (fun i _ => x.words.length - (intOf i).toNat)
  case atStart => exact ⟨0, Nat.zero_le _, rfl, HL1⟩
  case round =>
    obtain ⟨j, hj, rfl, HJ⟩ := hrel
    by_cases hlt : j < x.words.length
    · have hr := HJ.out.1.row o.row (cutN j x) (get_updR HX.out _)
      obtain ⟨g, hA, hg, hC, hgf, w0, w1c⟩ := hr.cell j (by rw [cutN_len]; exact hlt)
      rw [cutN_len] at hC
      have q0 : (0 : Int) ≤ (j : Int) := by omega
      have q1 : (j : Int) < (x.words.length : Int) := by omega
      have HA' := Lib.hid hA
      have HN : Hid (HpAt (wr.setCell ⟨g, j * 2 + 1, none⟩ (.int .i64 0)) hb A (H.updR o.row (cutN (j + 1))) S ∧ Mut S w1 (wr.setCell ⟨g, j * 2 + 1, none⟩ (.int .i64 0))) := Lib.hid ⟨HpAt.cutW' j HX.out HJ.out.1 hA, HJ.out.2.then (Mut.setCell _ _ _ _ (HJ.out.1.Sw _ _ _ (get_updR HX.out _) hA))⟩
      rw [hA]
      clear hA hr
      go_wp2
      go_roundw
      case rel => exact ⟨j + 1, by omega, by go_num, HN⟩
      case measure => simp [intOf]; omega
    · obtain rfl : j = x.words.length := by omega
      rw [HCA.out] at HJ
      have ho2 : Mp.get (H.updR o.row cutRow).objs r = some o := HO.out
      obtain ⟨_, _, _, _, _, _, t6, _, _, _, _, _, tf⟩ := HJ.out.1.ocells ho2
      have HP2 : Hid (HpAt (wr.setCell ⟨A.ob r, 6, none⟩ (.int .i64 0)) hb A ((H.updR o.row cutRow).upd r Ob.cut) S) := Lib.hid (HJ.out.1.setOb r o ho2 6 _ Ob.cut rfl fun _ => rfl)
      have HM2 : Hid (Mut S w1 (wr.setCell ⟨A.ob r, 6, none⟩ (.int .i64 0))) := Lib.hid (HJ.out.2.then (Mut.setCell _ _ _ _ (HJ.out.1.So r o ho2)))
      clear ho2 hlt hj
      go_wp2
      have HL2 : Hid (HpAt (wr.setCell ⟨A.ob r, 6, none⟩ (.int .i64 0)) hb A (seeAll ((H.updR o.row cutRow).upd r Ob.cut) (ts.take 0)) S ∧ Mut S w1 (wr.setCell ⟨A.ob r, 6, none⟩ (.int .i64 0))) := Lib.hid ⟨HP2.out, HM2.out⟩
      have HLo : Hid (∀ a, LA = some a → ¬ S a.block) := Lib.hid fun a ha hSa => by have := (own_blk HOWN.out a ha).1; have := HSL.out _ hSa; omega
      obtain ⟨wo, hwo⟩ : ∃ wo : World, wo = wr.setCell ⟨A.ob r, 6, none⟩ (.int .i64 0) := ⟨_, rfl⟩
      rw [← hwo] at HL2 ⊢
      clear hwo HP2 HM2 HJ t6 tf
      go_loopw [50] (fun p wr2 => ∃ j : Nat, j ≤ ts.length ∧ p = .int .i64 j ∧ Hid (HpAt wr2 hb A (seeAll ((H.updR o.row cutRow).upd r Ob.cut) (ts.take j)) S ∧ Mut S w1 wr2)) (fun i _ => ts.length - (intOf i).toNat)
      case atStart => exact ⟨0, Nat.zero_le _, rfl, HL2⟩
      case round =>
        clear HL2
        obtain ⟨j, hj, rfl, HJ⟩ := hrel
        by_cases hlt : j < ts.length
        · obtain ⟨g, hA, hg, hC, c1⟩ := ints_get hlt (own_mut2 HOWN.out HJ.out.2 HLo.out)
          have q0 : (0 : Int) ≤ (j : Int) := by omega
          have q1 : (j : Int) < (ts.length : Int) := by omega
          have HT : Hid (ts.take (j + 1) = ts.take j ++ [ts[j]'hlt]) := Lib.hid (List.take_succ_eq_append_getElem hlt)
          have HSee := Lib.hid (see_S HJ.out.1 (ts[j]'hlt))
          rw [hA]
          clear hA
          generalize ts[j]'hlt = y at *
          go_wp2_with (go_at_call 62; refine HSee.out.mono ?_; rintro e w5 ⟨rfl, h5, m5⟩
                       have H5 : Hid (HpAt w5 hb A (seeAll ((H.updR o.row cutRow).upd r Ob.cut) (ts.take (j + 1))) S ∧ Mut S w1 w5) := Lib.hid ⟨by rw [HT.out, seeAll_snoc]; exact h5, HJ.out.2.then m5⟩
                       clear h5 m5)
          go_roundw
          case rel => exact ⟨j + 1, by omega, by go_num, H5⟩
          case measure => simp [intOf]; omega
        · obtain rfl : j = ts.length := by omega
          rw [List.take_length] at HJ
          clear hlt hj
          go_wp2_with (go_at_call 63; refine (HREL.out _ LA LC HJ.out.1 ⟨(own_mut2 HOWN.out HJ.out.2 HLo.out).mono (Nat.zero_le _), HLo.out⟩).mono ?_; rintro e w6 ⟨rfl, h6, m6⟩
                       have H6 := Lib.hid h6
                       have M6 := Lib.hid m6
                       clear h6 m6)
          go_ret
          refine ⟨rfl, H6.out, ((Mut.of_below HB.out).then HJ.out.2).trans M6.out fun k hk => ?_⟩
          rcases hk with hk | ⟨a, ha, rfl⟩
          · exact .inl hk
          · exact .inr (own_blk HOWN.out a ha).1
theorem clear_calls (h : HpAt w hb A H S) (hi : Inv H []) (hmu : muH H ≤ 40000000) (hbd : HoldsLe H 1000000000) (r : Int) : Calls Try.prog 33 #[.pointer (some ⟨hb, 0, none⟩), .int .i64 r] w (ChPost w hb A S (clearH H r)) := by
  cases ho : Mp.get H.objs r with
  | none => exact clear_none h ho
  | some o =>
    by_cases hk : o.kind = 2
    · exact clear_arr h hi hmu hbd ho hk
    · exact clear_oth h hi hmu hbd ho hk
end Go.Proofs.Ytodfpclekihbhaa
