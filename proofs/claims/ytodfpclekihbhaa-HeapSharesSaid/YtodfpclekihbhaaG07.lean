/- Texts on the heap, merged: W19, Iter, W20, W21. -/
import Derived.Test.YtodfpclekihbhaaG06
import Derived.Shelf.SlGeneric
import Derived.Shelf.SlIterI.Nil
import Derived.Shelf.SortM.Plain
import Derived.Shelf.SortM.SortNone
import Derived.Ground.GgzProg
import Derived.Ground.SlgmProg
import Derived.Test.YtodfpclekihbhaaProg
import Derived.Lib.SlKeysI
import Derived.Maps.OwnSet
/- Refs, Clear. -/
namespace Go.Proofs.Ytodfpclekihbhaa
open Go.RowKit Go.Shelf

variable {w : World} {hb : Nat} {A : HA} {H : Hp} {S : Nat → Prop}
theorem ord_h (h : HpAt w hb A H S) {r : Int} {o : Ob} (ho : Mp.get H.objs r = some o) {x : Rw} (hx : Mp.get H.rows o.row = some x) (hxA : o.kind = 2 → x.isA = true) (W : World) (hW : Below w.heap.size w W) : ORd (A.ob r) A o x.words W := by
  have h1 := h.below hW
  have hB := h1.obj r o ho
  rw [h1.row_of hx rfl] at hB
  exact ⟨cell_of_heap hB rfl, cell_of_heap hB rfl, cell_of_heap hB rfl, cell_of_heap hB rfl, fun hk => cell_of_heap (h1.sto _ _ hx (hxA hk)) rfl, h1.row _ _ hx⟩
theorem targets_len (H : Hp) (o : Ob) {x : Rw} (hx : Mp.get H.rows o.row = some x) : targetsH H o = refsOf x.words ++ tailOf o ∧ (targetsH H o).length ≤ muH H + 1 := by
  have e : targetsH H o = refsOf x.words ++ tailOf o := by unfold targetsH Hp.rowOf; rw [hx]; rfl
  refine ⟨e, ?_⟩
  rw [e, List.length_append]
  have h1 := len_refsOf x.words
  have h2 := words_le_mu hx
  have h3 : (tailOf o).length ≤ 1 := by unfold tailOf; split <;> simp
  omega
/-- slices.Collect of an object's references. -/
theorem collect_h (h : HpAt w hb A H S) (hi : Inv H []) (hmu : muH H ≤ 90000000) {r : Int} {o : Ob} (ho : Mp.get H.objs r = some o) : Calls Try.prog 74 #[.func (.func 72) #[.pointer (some ⟨A.ob r, 0, none⟩)] #[]] w fun e w' => ∃ LA LC, e = .returned (.slice LA (targetsH H o).length LC) ∧ w'.ownsRow w.heap.size 26 1 (.slice LA (targetsH H o).length LC) (targetsH H o).length (ints (targetsH H o)) ∧ Below w.heap.size w w' := by
  obtain ⟨x, hx, hxA, _⟩ := hi.row r o ho
  obtain ⟨e, hl⟩ := targets_len H o hx
  have hw := words_le_mu hx
  rw [e] at hl ⊢
  exact (callsIn_wide (n := 5)).1 (collect_met 5 (by omega) 72 #[.pointer (some ⟨A.ob r, 0, none⟩)] (enters_of Try.func72 (by kernel_rfl) rfl) _ (by omega) _ (targets_gives 3 A (A.ob r) o x.words (by omega)) w fun W hW => ord_h h ho hx hxA.2 W hW)
theorem refs_nil (r : Int) (w : World) : Calls Try.prog 41 #[.pointer none, .int .i64 r] w fun e w' => e = .returned (.slice none 0 0) ∧ w = w' := by
  have HF := Lib.hid (find_nil r w)
  go_enter Try.func41, Try.ntmps41
  go_wp2_with (go_at_call 57; refine HF.out.mono ?_; rintro e w1 ⟨rfl, rfl⟩)
  all_goals go_ret
  all_goals exact ⟨rfl, rfl⟩
/-- What a call that returns references leaves. -/
def RfPost (w : World) (l : List Int) (e : Ending) (w' : World) : Prop := ∃ LA LC, e = .returned (.slice LA l.length LC) ∧ w'.ownsRow w.heap.size 26 1 (.slice LA l.length LC) l.length (ints l) ∧ Below w.heap.size w w'
theorem refs_calls (h : HpAt w hb A H S) (hi : Inv H []) (hmu : muH H ≤ 90000000) (r : Int) : Calls Try.prog 41 #[.pointer (some ⟨hb, 0, none⟩), .int .i64 r] w (RfPost w (refsH H r)) := by
  cases ho : Mp.get H.objs r with
  | none =>
    rw [show refsH H r = [] from by unfold refsH; rw [ho]]
    have HF := Lib.hid (find_none h ho)
    clear h ho hi hmu
    go_enter Try.func41, Try.ntmps41
    go_wp2_with (go_at_call 57; refine HF.out.mono ?_; rintro e w1 ⟨rfl, rfl⟩)
    all_goals go_ret
    all_goals exact ⟨none, 0, rfl, World.ownsRow_nil _ _ _ _, Below.refl _ _⟩
  | some o =>
    rw [show refsH H r = targetsH H o from by unfold refsH; rw [ho]]
    have HF := Lib.hid (find_some h ho)
    have HC := Lib.hid (collect_h h hi hmu ho)
    clear h ho hi hmu
    go_enter Try.func41, Try.ntmps41
    go_wp2_with (first
      | (go_at_call 57; refine HF.out.mono ?_; rintro e w1 ⟨rfl, rfl⟩)
      | (go_at_call 74; refine HC.out.mono ?_; rintro e w1 ⟨LA, LC, rfl, ho, hb1⟩; have HO := Lib.hid ho; have HB := Lib.hid hb1; clear ho hb1))
    go_ret
    exact ⟨LA, LC, rfl, HO.out, HB.out⟩
/-- A row whose first words are cut. -/
def cutN (j : Nat) (x : Rw) : Rw := { x with words := (x.words.take j).map Wd.cut ++ x.words.drop j }
theorem cutN_zero (x : Rw) : cutN 0 x = x := by simp [cutN]
theorem cutN_all (x : Rw) {n : Nat} (h : x.words.length ≤ n) : cutN n x = cutRow x := by
  unfold cutN cutRow
  rw [List.take_of_length_le h, List.drop_eq_nil_of_le h, List.append_nil]
theorem cutN_len (j : Nat) (x : Rw) : (cutN j x).words.length = x.words.length := by simp [cutN]; omega
theorem cut_list (l : List Wd) (j : Nat) : ((l.take j).map Wd.cut ++ l.drop j).modify j Wd.cut = (l.take (j + 1)).map Wd.cut ++ l.drop (j + 1) := by
  induction l generalizing j with
  | nil => simp
  | cons x l ih =>
    cases j with
    | zero => simp
    | succ j =>
      simp only [List.take_succ_cons, List.map_cons, List.drop_succ_cons, List.cons_append, List.modify_succ_cons, ih j]
theorem cutN_succ (j : Nat) (x : Rw) : (cutN j x).words.modify j Wd.cut = (cutN (j + 1) x).words := cut_list x.words j
theorem updR_cutN (H : Hp) (k : Int) (j : Nat) : (H.updR k (cutN j)).updR k (fun x => { x with words := x.words.modify j Wd.cut }) = H.updR k (cutN (j + 1)) := by
  unfold Hp.updR
  simp only [mapAt_mapAt]
  congr 2
  funext x
  show ({ cutN j x with words := (cutN j x).words.modify j Wd.cut } : Rw) = cutN (j + 1) x
  rw [cutN_succ]
  rfl
theorem mapAt_id {α : Type} (L : List (Int × α)) (k : Int) (f : α → α) (hf : ∀ x, f x = x) : mapAt L k f = L := by
  unfold mapAt
  conv => rhs; rw [← List.map_id L]
  apply List.map_congr_left
  intro p _
  split
  · rw [hf]; rfl
  · rfl
theorem updR_cut0 (H : Hp) (k : Int) : H.updR k (cutN 0) = H := by unfold Hp.updR; rw [mapAt_id _ _ _ cutN_zero]
theorem updR_cutAll {H : Hp} {k : Int} {x : Rw} (hx : Mp.get H.rows k = some x) (hn : (H.rows.map (·.1)).Nodup) : H.updR k (cutN x.words.length) = H.updR k cutRow := by
  unfold Hp.updR mapAt
  congr 1
  apply List.map_congr_left
  intro p hp
  by_cases e : p.1 = k
  · rw [if_pos e, if_pos e]
    have := Mp.get_of_mem hn (show (p.1, p.2) ∈ H.rows from hp)
    rw [e, hx] at this
    injection this with this
    rw [this, cutN_all _ (Nat.le_refl _)]
  · rw [if_neg e, if_neg e]
/-- A reference of a row is set to 0. -/
theorem HpAt.cutW' {k : Int} {x : Rw} (j : Nat) (hx : Mp.get H.rows k = some x) (hp : HpAt w hb A (H.updR k (cutN j)) S) {g : Nat} (hA : A.wA k = some ⟨g, 0, none⟩) : HpAt (w.setCell ⟨g, j * 2 + 1, none⟩ (.int .i64 0)) hb A (H.updR k (cutN (j + 1))) S := by
  have := hp.setWd k (cutN j x) (get_updR hx _) g (j * 2 + 1) hA (.int .i64 0) ((cutN j x).words.modify j Wd.cut) (by simp) (wcs_set1 _ _ 0) (fun x => { x with words := x.words.modify j Wd.cut }) rfl
  rwa [updR_cutN] at this
theorem seeAll_snoc (H : Hp) (l : List Int) (x : Int) : seeAll H (l ++ [x]) = seeH (seeAll H l) x := by unfold seeAll; rw [List.foldl_append]; rfl
theorem clear_nil (r : Int) (w : World) : Calls Try.prog 33 #[.pointer none, .int .i64 r] w fun e w' => e = .returned (.int .i64 4) ∧ Below w.heap.size w w' := by
  have HF := Lib.hid (find_nil r w)
  go_enter Try.func33, Try.ntmps33
  go_wp2_with (go_at_call 57; refine HF.out.mono ?_; rintro e w1 ⟨rfl, rfl⟩)
  all_goals go_ret
  all_goals exact ⟨rfl, Below.refl _ _⟩
theorem clear_none (h : HpAt w hb A H S) {r : Int} (ho : Mp.get H.objs r = none) : Calls Try.prog 33 #[.pointer (some ⟨hb, 0, none⟩), .int .i64 r] w (ChPost w hb A S (clearH H r)) := by
  rw [show clearH H r = (H, 4) from by unfold clearH; rw [ho]]
  have HF := Lib.hid (find_none h ho)
  have HH := Lib.hid h
  clear h ho
  go_enter Try.func33, Try.ntmps33
  go_wp2_with (go_at_call 57; refine HF.out.mono ?_; rintro e w1 ⟨rfl, rfl⟩)
  all_goals go_ret
  all_goals exact ChPost.err HH.out 4 _ _ ⟨rfl, Below.refl _ _⟩
theorem ints_get {l : List Int} {j : Nat} (hj : j < l.length) {w : World} {B : Nat} {LA : Option Addr} {LC : Nat} (h : w.ownsRow B 26 1 (.slice LA l.length LC) l.length (ints l)) : ∃ g, LA = some ⟨g, 0, none⟩ ∧ g < w.heap.size ∧ l.length ≤ LC ∧ w.cell? ⟨g, j, none⟩ = some (.int .i64 (l[j]'hj)) := by
  rcases h.2 with ⟨h1, h2⟩ | ⟨g, cap, cur, h1, h2, h3, h4, h5, h6, h7⟩
  · omega
  · injection h1 with e1 e2 e3
    subst e3
    refine ⟨g, e1, lt_of_heap h3, h4, cell_of_heap h3 ?_⟩
    have : (cur.toList.take (l.length * 1))[j]? = some (.int .i64 (l[j]'hj)) := by rw [h7]; simp [ints, hj]
    rw [List.getElem?_take_of_lt (by omega)] at this
    simpa using this
set_option maxHeartbeats 4000000 in
theorem clear_arr (h : HpAt w hb A H S) (hi : Inv H []) (hmu : muH H ≤ 40000000) (hbd : HoldsLe H 1000000000) {r : Int} {o : Ob} (ho : Mp.get H.objs r = some o) (hk : o.kind = 2) : Calls Try.prog 33 #[.pointer (some ⟨hb, 0, none⟩), .int .i64 r] w (ChPost w hb A S (clearH H r)) := by
  rw [show clearH H r = (relH (seeAll ((H.updR o.row cutRow).upd r Ob.cut) (targetsH H o)) (targetsH H o).reverse, 0) from by unfold clearH; rw [ho]]
  obtain ⟨x, hx, hxA, _⟩ := hi.row r o ho
  have hnd := hi.ndR
  have htl := (targets_len H o hx).2
  have HF := Lib.hid (find_some h ho)
  have HC := Lib.hid (collect_h h hi (by omega) ho)
  have hi2 := hi.cut ho
  have HH := Lib.hid h
  have HO := Lib.hid ho
  have HX := Lib.hid hx
  have hwl := words_le_mu hx
  obtain ⟨d0, d1, d2, d3, d4, d5, d6, d7, d8, d9, d10, d11, df⟩ := h.ocells ho
  rw [h.row_of hx rfl] at d3
  clear d1 d2 d4 d5 d6 d8 d9 d10 d11
  have e1 := cell_of_heap (v := .slice (A.wA o.row) x.words.length (A.wC o.row)) (h.sto _ _ hx (hxA.2 hk)) (j := 1) rfl
  rw [show A.pF o = .pointer (some ⟨A.st o.row, 0, none⟩) from by unfold HA.pF; rw [if_pos hk]] at d7
  rw [hk] at d0
  rw [show A.wF o x.words.length = .slice none 0 0 from if_pos hk] at d3
  have HREL : Hid (∀ (W : World) (LA : Option Addr) (LC : Nat), HpAt W hb A (seeAll ((H.updR o.row cutRow).upd r Ob.cut) (targetsH H o)) S → Lst W S LA LC (targetsH H o) → Calls Try.prog 63 #[.pointer (some ⟨hb, 0, none⟩), .slice LA (targetsH H o).length LC] W fun e w' => e = .returned (.tuple #[]) ∧ HpAt w' hb A (relH (seeAll ((H.updR o.row cutRow).upd r Ob.cut) (targetsH H o)) (targetsH H o).reverse) S ∧ Mut (fun k => S k ∨ LB LA k) W w') := Lib.hid (fun W LA LC hp hl => release_calls hp (hi2.same (seeAll_objs _ _) (seeAll_rows _ _) (seeAll_last _ _)) (by
      have e1 : muH (seeAll ((H.updR o.row cutRow).upd r Ob.cut) (targetsH H o)) = muH H := by
        unfold muH
        rw [seeAll_rows, seeAll_objs]
        show wsum (mapAt H.rows o.row cutRow) + 2 * (mapAt H.objs r Ob.cut).length = _
        rw [len_mapAt, wsum_mapAt _ _ _ (fun x => by simp [cutRow])]
      omega) (by
      intro x y hy
      rw [seeAll_objs] at hy
      exact (HoldsLe.upd (H := H.updR o.row cutRow) hbd r Ob.cut (fun _ => rfl)) x y hy) hl)
  have hn1 : x.words.length ≤ 90000000 := by omega
  have hn2 : (targetsH H o).length ≤ 90000001 := by omega
  have HCA := Lib.hid (updR_cutAll hx hnd)
  have HSL := Lib.hid h.Slt
  clear h ho hi hmu hbd hi2 hx hxA hnd htl hwl hk
  generalize hts : targetsH H o = ts at *
  clear hts
  go_enter Try.func33, Try.ntmps33
  go_wp2_with (first
    | (go_at_call 57; refine HF.out.mono ?_; rintro e w1 ⟨rfl, rfl⟩)
    | (go_at_call 74; refine HC.out.mono ?_; rintro e w1 ⟨LA, LC, rfl, hown, hb1⟩; have HOWN := Lib.hid hown; have HB := Lib.hid hb1; clear hown hb1))
  have HL1 : Hid (HpAt w1 hb A (H.updR o.row (cutN 0)) S ∧ Mut S w1 w1) := Lib.hid ⟨by rw [updR_cut0]; exact HH.out.below HB.out, Mut.refl _ _⟩
  go_loopw [37] (fun p wr => ∃ j : Nat, j ≤ x.words.length ∧ p = .int .i64 j ∧ Hid (HpAt wr hb A (H.updR o.row (cutN j)) S ∧ Mut S w1 wr)) (fun i _ => x.words.length - (intOf i).toNat)
  case atStart => exact ⟨0, Nat.zero_le _, rfl, HL1⟩
  case round =>
    obtain ⟨j, hj, rfl, HJ⟩ := hrel
    by_cases hlt : j < x.words.length
    · have hr := HJ.out.1.row o.row (cutN j x) (get_updR HX.out _)
      obtain ⟨g, hA, hg, hC, hgf, w0, w1c⟩ := hr.cell j (by rw [cutN_len]; exact hlt)
      rw [cutN_len] at hC
      have q0 : (0 : Int) ≤ (j : Int) := by omega
      have q1 : (j : Int) < (x.words.length : Int) := by omega
      have HA' := Lib.hid hA
      have HN : Hid (HpAt (wr.setCell ⟨g, j * 2 + 1, none⟩ (.int .i64 0)) hb A (H.updR o.row (cutN (j + 1))) S ∧ Mut S w1 (wr.setCell ⟨g, j * 2 + 1, none⟩ (.int .i64 0))) := Lib.hid ⟨HpAt.cutW' j HX.out HJ.out.1 hA, HJ.out.2.then (Mut.setCell _ _ _ _ (HJ.out.1.Sw _ _ _ (get_updR HX.out _) hA))⟩
      rw [hA]
      clear hA hr
      go_wp2
      go_roundw
      case rel => exact ⟨j + 1, by omega, by go_num, HN⟩
      case measure => simp [intOf]; omega
    · obtain rfl : j = x.words.length := by omega
      rw [HCA.out] at HJ
      have ho2 : Mp.get (H.updR o.row cutRow).objs r = some o := HO.out
      obtain ⟨_, _, _, _, _, _, t6, _, _, _, _, _, tf⟩ := HJ.out.1.ocells ho2
      have HP2 : Hid (HpAt (wr.setCell ⟨A.ob r, 6, none⟩ (.int .i64 0)) hb A ((H.updR o.row cutRow).upd r Ob.cut) S) := Lib.hid (HJ.out.1.setOb r o ho2 6 _ Ob.cut rfl fun _ => rfl)
      have HM2 : Hid (Mut S w1 (wr.setCell ⟨A.ob r, 6, none⟩ (.int .i64 0))) := Lib.hid (HJ.out.2.then (Mut.setCell _ _ _ _ (HJ.out.1.So r o ho2)))
      clear ho2 hlt hj
      go_wp2
      have HL2 : Hid (HpAt (wr.setCell ⟨A.ob r, 6, none⟩ (.int .i64 0)) hb A (seeAll ((H.updR o.row cutRow).upd r Ob.cut) (ts.take 0)) S ∧ Mut S w1 (wr.setCell ⟨A.ob r, 6, none⟩ (.int .i64 0))) := Lib.hid ⟨HP2.out, HM2.out⟩
      have HLo : Hid (∀ a, LA = some a → ¬ S a.block) := Lib.hid fun a ha hSa => by have := (own_blk HOWN.out a ha).1; have := HSL.out _ hSa; omega
      obtain ⟨wo, hwo⟩ : ∃ wo : World, wo = wr.setCell ⟨A.ob r, 6, none⟩ (.int .i64 0) := ⟨_, rfl⟩
      rw [← hwo] at HL2 ⊢
      clear hwo HP2 HM2 HJ t6 tf
      go_loopw [50] (fun p wr2 => ∃ j : Nat, j ≤ ts.length ∧ p = .int .i64 j ∧ Hid (HpAt wr2 hb A (seeAll ((H.updR o.row cutRow).upd r Ob.cut) (ts.take j)) S ∧ Mut S w1 wr2)) (fun i _ => ts.length - (intOf i).toNat)
      case atStart => exact ⟨0, Nat.zero_le _, rfl, HL2⟩
      case round =>
        clear HL2
        obtain ⟨j, hj, rfl, HJ⟩ := hrel
        by_cases hlt : j < ts.length
        · obtain ⟨g, hA, hg, hC, c1⟩ := ints_get hlt (own_mut2 HOWN.out HJ.out.2 HLo.out)
          have q0 : (0 : Int) ≤ (j : Int) := by omega
          have q1 : (j : Int) < (ts.length : Int) := by omega
          have HT : Hid (ts.take (j + 1) = ts.take j ++ [ts[j]'hlt]) := Lib.hid (List.take_succ_eq_append_getElem hlt)
          have HSee := Lib.hid (see_S HJ.out.1 (ts[j]'hlt))
          rw [hA]
          clear hA
          generalize ts[j]'hlt = y at *
          go_wp2_with (go_at_call 62; refine HSee.out.mono ?_; rintro e w5 ⟨rfl, h5, m5⟩
                       have H5 : Hid (HpAt w5 hb A (seeAll ((H.updR o.row cutRow).upd r Ob.cut) (ts.take (j + 1))) S ∧ Mut S w1 w5) := Lib.hid ⟨by rw [HT.out, seeAll_snoc]; exact h5, HJ.out.2.then m5⟩
                       clear h5 m5)
          go_roundw
          case rel => exact ⟨j + 1, by omega, by go_num, H5⟩
          case measure => simp [intOf]; omega
        · obtain rfl : j = ts.length := by omega
          rw [List.take_length] at HJ
          clear hlt hj
          go_wp2_with (go_at_call 63; refine (HREL.out _ LA LC HJ.out.1 ⟨(own_mut2 HOWN.out HJ.out.2 HLo.out).mono (Nat.zero_le _), HLo.out⟩).mono ?_; rintro e w6 ⟨rfl, h6, m6⟩
                       have H6 := Lib.hid h6
                       have M6 := Lib.hid m6
                       clear h6 m6)
          go_ret
          refine ⟨rfl, H6.out, ((Mut.of_below HB.out).then HJ.out.2).trans M6.out fun k hk => ?_⟩
          rcases hk with hk | ⟨a, ha, rfl⟩
          · exact .inl hk
          · exact .inr (own_blk HOWN.out a ha).1
set_option maxHeartbeats 4000000 in
theorem clear_oth (h : HpAt w hb A H S) (hi : Inv H []) (hmu : muH H ≤ 40000000) (hbd : HoldsLe H 1000000000) {r : Int} {o : Ob} (ho : Mp.get H.objs r = some o) (hk : o.kind ≠ 2) : Calls Try.prog 33 #[.pointer (some ⟨hb, 0, none⟩), .int .i64 r] w (ChPost w hb A S (clearH H r)) := by
  rw [show clearH H r = (relH (seeAll ((H.updR o.row cutRow).upd r Ob.cut) (targetsH H o)) (targetsH H o).reverse, 0) from by unfold clearH; rw [ho]]
  obtain ⟨x, hx, hxA, _⟩ := hi.row r o ho
  have hnd := hi.ndR
  have htl := (targets_len H o hx).2
  have HF := Lib.hid (find_some h ho)
  have HC := Lib.hid (collect_h h hi (by omega) ho)
  have hi2 := hi.cut ho
  have HH := Lib.hid h
  have HO := Lib.hid ho
  have HX := Lib.hid hx
  have hwl := words_le_mu hx
  obtain ⟨d0, d1, d2, d3, d4, d5, d6, d7, d8, d9, d10, d11, df⟩ := h.ocells ho
  rw [h.row_of hx rfl] at d3
  clear d1 d2 d4 d5 d6 d8 d9 d10 d11
  have k1 : (o.kind == 2) = false := by simpa using hk
  rw [show A.wF o x.words.length = .slice (A.wA o.row) x.words.length (A.wC o.row) from if_neg hk] at d3
  clear d7
  have HREL : Hid (∀ (W : World) (LA : Option Addr) (LC : Nat), HpAt W hb A (seeAll ((H.updR o.row cutRow).upd r Ob.cut) (targetsH H o)) S → Lst W S LA LC (targetsH H o) → Calls Try.prog 63 #[.pointer (some ⟨hb, 0, none⟩), .slice LA (targetsH H o).length LC] W fun e w' => e = .returned (.tuple #[]) ∧ HpAt w' hb A (relH (seeAll ((H.updR o.row cutRow).upd r Ob.cut) (targetsH H o)) (targetsH H o).reverse) S ∧ Mut (fun k => S k ∨ LB LA k) W w') := Lib.hid (fun W LA LC hp hl => release_calls hp (hi2.same (seeAll_objs _ _) (seeAll_rows _ _) (seeAll_last _ _)) (by
      have e1 : muH (seeAll ((H.updR o.row cutRow).upd r Ob.cut) (targetsH H o)) = muH H := by
        unfold muH
        rw [seeAll_rows, seeAll_objs]
        show wsum (mapAt H.rows o.row cutRow) + 2 * (mapAt H.objs r Ob.cut).length = _
        rw [len_mapAt, wsum_mapAt _ _ _ (fun x => by simp [cutRow])]
      omega) (by
      intro x y hy
      rw [seeAll_objs] at hy
      exact (HoldsLe.upd (H := H.updR o.row cutRow) hbd r Ob.cut (fun _ => rfl)) x y hy) hl)
  have hn1 : x.words.length ≤ 90000000 := by omega
  have hn2 : (targetsH H o).length ≤ 90000001 := by omega
  have HCA := Lib.hid (updR_cutAll hx hnd)
  have HSL := Lib.hid h.Slt
  clear h ho hi hmu hbd hi2 hx hxA hnd htl hwl hk
  generalize hts : targetsH H o = ts at *
  clear hts
  go_enter Try.func33, Try.ntmps33
  go_wp2_with (first
    | (go_at_call 57; refine HF.out.mono ?_; rintro e w1 ⟨rfl, rfl⟩)
    | (go_at_call 74; refine HC.out.mono ?_; rintro e w1 ⟨LA, LC, rfl, hown, hb1⟩; have HOWN := Lib.hid hown; have HB := Lib.hid hb1; clear hown hb1))
  have HL1 : Hid (HpAt w1 hb A (H.updR o.row (cutN 0)) S ∧ Mut S w1 w1) := Lib.hid ⟨by rw [updR_cut0]; exact HH.out.below HB.out, Mut.refl _ _⟩
  go_loopw [37] (fun p wr => ∃ j : Nat, j ≤ x.words.length ∧ p = .int .i64 j ∧ Hid (HpAt wr hb A (H.updR o.row (cutN j)) S ∧ Mut S w1 wr)) (fun i _ => x.words.length - (intOf i).toNat)
  case atStart => exact ⟨0, Nat.zero_le _, rfl, HL1⟩
  case round =>
    obtain ⟨j, hj, rfl, HJ⟩ := hrel
    by_cases hlt : j < x.words.length
    · have hr := HJ.out.1.row o.row (cutN j x) (get_updR HX.out _)
      obtain ⟨g, hA, hg, hC, hgf, w0, w1c⟩ := hr.cell j (by rw [cutN_len]; exact hlt)
      rw [cutN_len] at hC
      have q0 : (0 : Int) ≤ (j : Int) := by omega
      have q1 : (j : Int) < (x.words.length : Int) := by omega
      have HA' := Lib.hid hA
      have HN : Hid (HpAt (wr.setCell ⟨g, j * 2 + 1, none⟩ (.int .i64 0)) hb A (H.updR o.row (cutN (j + 1))) S ∧ Mut S w1 (wr.setCell ⟨g, j * 2 + 1, none⟩ (.int .i64 0))) := Lib.hid ⟨HpAt.cutW' j HX.out HJ.out.1 hA, HJ.out.2.then (Mut.setCell _ _ _ _ (HJ.out.1.Sw _ _ _ (get_updR HX.out _) hA))⟩
      rw [hA]
      clear hA hr
      go_wp2
      go_roundw
      case rel => exact ⟨j + 1, by omega, by go_num, HN⟩
      case measure => simp [intOf]; omega
    · obtain rfl : j = x.words.length := by omega
      rw [HCA.out] at HJ
      have ho2 : Mp.get (H.updR o.row cutRow).objs r = some o := HO.out
      obtain ⟨_, _, _, _, _, _, t6, _, _, _, _, _, tf⟩ := HJ.out.1.ocells ho2
      have HP2 : Hid (HpAt (wr.setCell ⟨A.ob r, 6, none⟩ (.int .i64 0)) hb A ((H.updR o.row cutRow).upd r Ob.cut) S) := Lib.hid (HJ.out.1.setOb r o ho2 6 _ Ob.cut rfl fun _ => rfl)
      have HM2 : Hid (Mut S w1 (wr.setCell ⟨A.ob r, 6, none⟩ (.int .i64 0))) := Lib.hid (HJ.out.2.then (Mut.setCell _ _ _ _ (HJ.out.1.So r o ho2)))
      clear ho2 hlt hj
      go_wp2
      have HL2 : Hid (HpAt (wr.setCell ⟨A.ob r, 6, none⟩ (.int .i64 0)) hb A (seeAll ((H.updR o.row cutRow).upd r Ob.cut) (ts.take 0)) S ∧ Mut S w1 (wr.setCell ⟨A.ob r, 6, none⟩ (.int .i64 0))) := Lib.hid ⟨HP2.out, HM2.out⟩
      have HLo : Hid (∀ a, LA = some a → ¬ S a.block) := Lib.hid fun a ha hSa => by have := (own_blk HOWN.out a ha).1; have := HSL.out _ hSa; omega
      obtain ⟨wo, hwo⟩ : ∃ wo : World, wo = wr.setCell ⟨A.ob r, 6, none⟩ (.int .i64 0) := ⟨_, rfl⟩
      rw [← hwo] at HL2 ⊢
      clear hwo HP2 HM2 HJ t6 tf
      go_loopw [50] (fun p wr2 => ∃ j : Nat, j ≤ ts.length ∧ p = .int .i64 j ∧ Hid (HpAt wr2 hb A (seeAll ((H.updR o.row cutRow).upd r Ob.cut) (ts.take j)) S ∧ Mut S w1 wr2)) (fun i _ => ts.length - (intOf i).toNat)
      case atStart => exact ⟨0, Nat.zero_le _, rfl, HL2⟩
      case round =>
        clear HL2
        obtain ⟨j, hj, rfl, HJ⟩ := hrel
        by_cases hlt : j < ts.length
        · obtain ⟨g, hA, hg, hC, c1⟩ := ints_get hlt (own_mut2 HOWN.out HJ.out.2 HLo.out)
          have q0 : (0 : Int) ≤ (j : Int) := by omega
          have q1 : (j : Int) < (ts.length : Int) := by omega
          have HT : Hid (ts.take (j + 1) = ts.take j ++ [ts[j]'hlt]) := Lib.hid (List.take_succ_eq_append_getElem hlt)
          have HSee := Lib.hid (see_S HJ.out.1 (ts[j]'hlt))
          rw [hA]
          clear hA
          generalize ts[j]'hlt = y at *
          go_wp2_with (go_at_call 62; refine HSee.out.mono ?_; rintro e w5 ⟨rfl, h5, m5⟩
                       have H5 : Hid (HpAt w5 hb A (seeAll ((H.updR o.row cutRow).upd r Ob.cut) (ts.take (j + 1))) S ∧ Mut S w1 w5) := Lib.hid ⟨by rw [HT.out, seeAll_snoc]; exact h5, HJ.out.2.then m5⟩
                       clear h5 m5)
          go_roundw
          case rel => exact ⟨j + 1, by omega, by go_num, H5⟩
          case measure => simp [intOf]; omega
        · obtain rfl : j = ts.length := by omega
          rw [List.take_length] at HJ
          clear hlt hj
          go_wp2_with (go_at_call 63; refine (HREL.out _ LA LC HJ.out.1 ⟨(own_mut2 HOWN.out HJ.out.2 HLo.out).mono (Nat.zero_le _), HLo.out⟩).mono ?_; rintro e w6 ⟨rfl, h6, m6⟩
                       have H6 := Lib.hid h6
                       have M6 := Lib.hid m6
                       clear h6 m6)
          go_ret
          refine ⟨rfl, H6.out, ((Mut.of_below HB.out).then HJ.out.2).trans M6.out fun k hk => ?_⟩
          rcases hk with hk | ⟨a, ha, rfl⟩
          · exact .inl hk
          · exact .inr (own_blk HOWN.out a ha).1
theorem clear_calls (h : HpAt w hb A H S) (hi : Inv H []) (hmu : muH H ≤ 40000000) (hbd : HoldsLe H 1000000000) (r : Int) : Calls Try.prog 33 #[.pointer (some ⟨hb, 0, none⟩), .int .i64 r] w (ChPost w hb A S (clearH H r)) := by
  cases ho : Mp.get H.objs r with
  | none => exact clear_none h ho
  | some o =>
    by_cases hk : o.kind = 2
    · exact clear_arr h hi hmu hbd ho hk
    · exact clear_oth h hi hmu hbd ho hk
end Go.Proofs.Ytodfpclekihbhaa

/-
  The shelf contracts on maps.Keys, slices.Sorted and slices.Sort at this translation, in plain words (written by the lay-plain program of the kit).
-/
namespace Go.Proofs
open Go.Shelf
def Try.keysO_ren : Go.Shelf.Ren := ⟨fun | 7 => 78 | 10 => 92 | n => n, fun | 23 => 93 | 26 => 26 | 3 => 101 | 28 => 121 | 0 => 0 | 27 => 117 | 33 => 136 | 4 => 4 | n => n, fun | n => n⟩
theorem Try.keysO : Go.Proofs.SlLaysZI.n7 Try.prog Try.keysO_ren := {
  mixed := by kernel_rfl
  f7 := ⟨Try.f78.name, by decide, Try.func78.trans (congrArg some (by kernel_rfl))⟩
  f10 := ⟨Try.f92.name, by decide, Try.func92.trans (congrArg some (by kernel_rfl))⟩
  t0 := Try.underlying0
  a0 := Try.isAgg0
  z0 := Try.sizeOf0
  v0 := Try.zeroValue0
  t4 := Try.underlying4
  a4 := Try.isAgg4
  z4 := Try.sizeOf4
  v4 := Try.zeroValue4
  t23 := Try.underlying93
  a23 := Try.isAgg93
  z23 := Try.sizeOf93
  v23 := Try.zeroValue93
  t26 := Try.underlying26
  a26 := Try.isAgg26
  z26 := Try.sizeOf26
  v26 := Try.zeroValue26
  t27 := Try.underlying117
  a27 := Try.isAgg117
  z27 := Try.sizeOf117
  v27 := Try.zeroValue117
  t28 := Try.underlying121
  a28 := Try.isAgg121
  z28 := Try.sizeOf121
  v28 := Try.zeroValue121
  t33 := Try.underlying136
  a33 := Try.isAgg136
  z33 := Try.sizeOf136
  v33 := Try.zeroValue136 }
def Try.keysB_ren : Go.Shelf.Ren := ⟨fun | 7 => 79 | 10 => 93 | n => n, fun | 23 => 79 | 26 => 26 | 3 => 4 | 28 => 121 | 0 => 0 | 27 => 117 | 33 => 136 | 4 => 4 | n => n, fun | n => n⟩
theorem Try.keysB : Go.Proofs.SlLaysZI.n7 Try.prog Try.keysB_ren := {
  mixed := by kernel_rfl
  f7 := ⟨Try.f79.name, by decide, Try.func79.trans (congrArg some (by kernel_rfl))⟩
  f10 := ⟨Try.f93.name, by decide, Try.func93.trans (congrArg some (by kernel_rfl))⟩
  t0 := Try.underlying0
  a0 := Try.isAgg0
  z0 := Try.sizeOf0
  v0 := Try.zeroValue0
  t4 := Try.underlying4
  a4 := Try.isAgg4
  z4 := Try.sizeOf4
  v4 := Try.zeroValue4
  t23 := Try.underlying79
  a23 := Try.isAgg79
  z23 := Try.sizeOf79
  v23 := Try.zeroValue79
  t26 := Try.underlying26
  a26 := Try.isAgg26
  z26 := Try.sizeOf26
  v26 := Try.zeroValue26
  t27 := Try.underlying117
  a27 := Try.isAgg117
  z27 := Try.sizeOf117
  v27 := Try.zeroValue117
  t28 := Try.underlying121
  a28 := Try.isAgg121
  z28 := Try.sizeOf121
  v28 := Try.zeroValue121
  t33 := Try.underlying136
  a33 := Try.isAgg136
  z33 := Try.sizeOf136
  v33 := Try.zeroValue136 }
def Try.sortedA_ren : Go.Shelf.Ren := ⟨fun | 6 => 77 | 8 => 74 | 9 => 88 | 11 => 91 | 13 => 97 | 12 => 96 | 23 => 111 | 24 => 112 | 14 => 103 | 15 => 104 | 16 => 105 | 17 => 106 | 18 => 107 | 19 => 108 | 20 => 85 | 21 => 109 | 22 => 110 | 25 => 116 | 26 => 117 | 27 => 118 | 28 => 119 | 29 => 120 | 30 => 95 | 31 => 122 | n => n, fun | 26 => 26 | 28 => 121 | 24 => 35 | 0 => 0 | 3 => 3 | 37 => 143 | 48 => 162 | 50 => 164 | 4 => 4 | 40 => 156 | 39 => 155 | 45 => 137 | 5 => 5 | 9 => 9 | 51 => 169 | 55 => 173 | 57 => 177 | 58 => 178 | 33 => 136 | n => n, fun | n => n⟩
theorem Try.sortedA : Go.Proofs.SlLaysZI.n6 Try.prog Try.sortedA_ren := {
  mixed := by kernel_rfl
  f6 := ⟨Try.f77.name, by decide, Try.func77.trans (congrArg some (by kernel_rfl))⟩
  f8 := ⟨Try.f74.name, by decide, Try.func74.trans (congrArg some (by kernel_rfl))⟩
  f11 := ⟨Try.f91.name, by decide, Try.func91.trans (congrArg some (by kernel_rfl))⟩
  t0 := Try.underlying0
  a0 := Try.isAgg0
  z0 := Try.sizeOf0
  v0 := Try.zeroValue0
  t24 := Try.underlying35
  a24 := Try.isAgg35
  z24 := Try.sizeOf35
  v24 := Try.zeroValue35
  t26 := Try.underlying26
  a26 := Try.isAgg26
  z26 := Try.sizeOf26
  v26 := Try.zeroValue26
  t28 := Try.underlying121
  a28 := Try.isAgg121
  z28 := Try.sizeOf121
  v28 := Try.zeroValue121
  i26 := by kernel_rfl }
def Try.sortA_ren : Go.Shelf.Ren := ⟨fun | 5 => 88 | 8 => 97 | 7 => 96 | 19 => 111 | 20 => 112 | 10 => 103 | 11 => 104 | 12 => 105 | 13 => 106 | 14 => 107 | 15 => 108 | 16 => 85 | 17 => 109 | 18 => 110 | 30 => 116 | 31 => 117 | 32 => 118 | 33 => 119 | 34 => 120 | 35 => 95 | 40 => 122 | n => n, fun | 23 => 35 | 25 => 26 | 3 => 3 | 32 => 143 | 22 => 35 | 0 => 0 | 44 => 162 | 46 => 164 | 4 => 4 | 36 => 156 | 35 => 155 | 41 => 137 | 5 => 5 | 9 => 9 | 53 => 169 | 57 => 173 | 63 => 177 | 64 => 178 | n => n, fun | n => n⟩
theorem Try.sortA : Go.Proofs.SlLaysM.n5 Try.prog Try.sortA_ren := {
  mixed := by kernel_rfl
  f5 := ⟨Try.f88.name, by decide, Try.func88.trans (congrArg some (by kernel_rfl))⟩
  f7 := ⟨Try.f96.name, by decide, Try.func96.trans (congrArg some (by kernel_rfl))⟩
  f8 := Try.func97.trans (congrArg some (by kernel_rfl))
  f10 := ⟨Try.f103.name, by decide, Try.func103.trans (congrArg some (by kernel_rfl))⟩
  f11 := ⟨Try.f104.name, by decide, Try.func104.trans (congrArg some (by kernel_rfl))⟩
  f12 := ⟨Try.f105.name, by decide, Try.func105.trans (congrArg some (by kernel_rfl))⟩
  f13 := ⟨Try.f106.name, by decide, Try.func106.trans (congrArg some (by kernel_rfl))⟩
  f14 := ⟨Try.f107.name, by decide, Try.func107.trans (congrArg some (by kernel_rfl))⟩
  f15 := ⟨Try.f108.name, by decide, Try.func108.trans (congrArg some (by kernel_rfl))⟩
  f16 := ⟨Try.f85.name, by decide, Try.func85.trans (congrArg some (by kernel_rfl))⟩
  f17 := ⟨Try.f109.name, by decide, Try.func109.trans (congrArg some (by kernel_rfl))⟩
  f18 := ⟨Try.f110.name, by decide, Try.func110.trans (congrArg some (by kernel_rfl))⟩
  f19 := Try.func111.trans (congrArg some (by kernel_rfl))
  f20 := Try.func112.trans (congrArg some (by kernel_rfl))
  f30 := ⟨Try.f116.name, by decide, Try.func116.trans (congrArg some (by kernel_rfl))⟩
  f31 := Try.func117.trans (congrArg some (by kernel_rfl))
  f32 := Try.func118.trans (congrArg some (by kernel_rfl))
  f33 := ⟨Try.f119.name, by decide, Try.func119.trans (congrArg some (by kernel_rfl))⟩
  f34 := ⟨Try.f120.name, by decide, Try.func120.trans (congrArg some (by kernel_rfl))⟩
  f35 := ⟨Try.f95.name, by decide, Try.func95.trans (congrArg some (by kernel_rfl))⟩
  f40 := ⟨Try.f122.name, by decide, Try.func122.trans (congrArg some (by kernel_rfl))⟩
  t0 := Try.underlying0
  a0 := Try.isAgg0
  z0 := Try.sizeOf0
  v0 := Try.zeroValue0
  t3 := Try.underlying3
  a3 := Try.isAgg3
  z3 := Try.sizeOf3
  v3 := Try.zeroValue3
  t4 := Try.underlying4
  a4 := Try.isAgg4
  z4 := Try.sizeOf4
  v4 := Try.zeroValue4
  t5 := Try.underlying5
  a5 := Try.isAgg5
  z5 := Try.sizeOf5
  v5 := Try.zeroValue5
  t9 := Try.underlying9
  a9 := Try.isAgg9
  z9 := Try.sizeOf9
  v9 := Try.zeroValue9
  t22 := Try.underlying35
  a22 := Try.isAgg35
  z22 := Try.sizeOf35
  v22 := Try.zeroValue35
  t23 := Try.underlying35
  a23 := Try.isAgg35
  z23 := Try.sizeOf35
  v23 := Try.zeroValue35
  t25 := Try.underlying26
  a25 := Try.isAgg26
  z25 := Try.sizeOf26
  v25 := Try.zeroValue26
  t32 := Try.underlying143
  a32 := Try.isAgg143
  z32 := Try.sizeOf143
  v32 := Try.zeroValue143
  t35 := Try.underlying155
  a35 := Try.isAgg155
  z35 := Try.sizeOf155
  v35 := Try.zeroValue155
  t36 := Try.underlying156
  a36 := Try.isAgg156
  z36 := Try.sizeOf156
  v36 := Try.zeroValue156
  t41 := Try.underlying137
  a41 := Try.isAgg137
  z41 := Try.sizeOf137
  v41 := Try.zeroValue137
  t44 := Try.underlying162
  a44 := Try.isAgg162
  z44 := Try.sizeOf162
  v44 := Try.zeroValue162
  t46 := Try.underlying164
  a46 := Try.isAgg164
  z46 := Try.sizeOf164
  v46 := Try.zeroValue164
  t53 := Try.underlying169
  a53 := Try.isAgg169
  z53 := Try.sizeOf169
  v53 := Try.zeroValue169
  t57 := Try.underlying173
  a57 := Try.isAgg173
  z57 := Try.sizeOf173
  v57 := Try.zeroValue173
  t63 := Try.underlying177
  a63 := Try.isAgg177
  z63 := Try.sizeOf177
  v63 := Try.zeroValue177
  t64 := Try.underlying178
  a64 := Try.isAgg178
  z64 := Try.sizeOf178
  v64 := Try.zeroValue178 }
end Go.Proofs

/- All: slices.Sorted over maps.Keys. -/
namespace Go.Proofs.Ytodfpclekihbhaa
open Go.RowKit Go.Maps Go.Shelf Go.Sort

def RT : Value → Option (DataW Unit × List MemPlace) := fun _ => some (.nil, [])
def kI : Value → Int
  | .int _ a => a
  | _ => 0
/-- Keys that fit. -/
def KeysIn {α : Type} (L : List (Int × α)) : Prop := ∀ p ∈ L, -9223372036854775808 ≤ p.1 ∧ p.1 ≤ 9223372036854775807
theorem owns_trivial {α : Type} {V : α → Value} {w : World} {b : Nat} {L : List (Int × α)} (h : Mp.MapIs w b kV V L) (hk : KeysIn L) (hn : L.length ≤ 1000000) :
    ∃ D0 : DataW Unit, w.ownsMap Try.prog 26 RT b L.length D0 ∧ Maps.size D0 = L.length ∧ (Go.intKeys D0).Perm (L.map (·.1)) := by
  obtain ⟨es, clk, hb, hst, hm⟩ := h
  have hsz : es.size = L.length := by have := congrArg List.length hm; simpa using this
  have hkey : ∀ x ∈ es.toList, ∃ k : Int, x.key = .int .i64 k ∧ (Lit.int .i64 k).wf = true := fun x hx => by
    have h1 : (x.key, x.val) ∈ es.toList.map (fun x => (x.key, x.val)) := List.mem_map.2 ⟨x, hx, rfl⟩
    rw [hm] at h1
    obtain ⟨y, hy, h2⟩ := List.mem_map.1 h1
    have h3 := hk y hy
    exact ⟨y.1, (Prod.mk.inj h2).1.symm, by simp [Lit.wf, IntKind.min, IntKind.max, IntKind.signed, IntKind.bits]; omega⟩
  have hrd : ∀ x ∈ es.toList, WideElems.rd Try.prog 26 RT x = some (.int .i64 (kI x.key), .nil) := fun x hx => by
    obtain ⟨k, h1, h2⟩ := hkey x hx
    unfold WideElems.rd
    rw [h1, keyOf_int_mk Try.underlying26 h2]
    rfl
  refine ⟨_, ⟨es, clk, hb, ⟨by rw [hsz]; simp only [maxLen]; omega, hst, fun x hx => ⟨_, hrd x hx⟩⟩, Nat.le_of_eq hsz, rfl⟩, ?_, ?_⟩
  · show ((es.toList.map (WideElems.rg Try.prog 26 RT)).foldr DataW.insert []).length = L.length
    rw [length_read, hsz]
  · show (((es.toList.map (WideElems.rg Try.prog 26 RT)).foldr DataW.insert []).map fun p => Go.intOf p.1).Perm _
    refine ((Go.WideShapes.sorted_perm _).map _).trans (List.Perm.of_eq ?_)
    rw [List.map_map]
    have h5 : es.toList.map ((fun p => Go.intOf p.1) ∘ WideElems.rg Try.prog 26 RT) = es.toList.map fun x => kI x.key := List.map_congr_left fun x hx => by
      have h7 : WideElems.rg Try.prog 26 RT x = (.int .i64 (kI x.key), .nil) := by unfold WideElems.rg; rw [hrd x hx, Option.getD_some]
      simp only [Function.comp, h7, Go.intOf]
    rw [h5]
    have h6 : (es.toList.map fun x => kI x.key) = (es.toList.map (fun x => (x.key, x.val))).map (fun y => kI y.1) := by rw [List.map_map]; rfl
    rw [h6, hm, List.map_map]
    rfl
theorem sortsA (m : Nat) : AnyZI.SortsIn Try.prog Try.sortedA_ren Fence.wide m :=
  ⟨fun blk off cap ss W hH hblk hsz => callsIn_wide.2 (AnyM.slices_Sort_int Try.sortA blk off cap ss W hH hblk hsz),
   fun p cap W => callsIn_wide.2 (AnyM.slices_Sort_int_none Try.sortA p cap W)⟩
theorem keysO_calls (mb : Option Nat) (w : World) : Calls Try.prog 78 #[.map mb] w fun e w' => e = .returned (.func (.func 92) #[] #[.pointer (some ⟨w.heap.size, 0, none⟩)]) ∧ w' = w.alloc (.cells #[.map mb] 93) :=
  (callsIn_wide (n := 5)).1 (AnyZI.keys_in Try.keysO Fence.wide 5 trivial rfl mb w)
set_option maxHeartbeats 1000000 in
theorem sortedO_calls {α : Type} {V : α → Value} {w : World} {b : Nat} {L : List (Int × α)} (h : Mp.MapIs w b kV V L) (hk : KeysIn L) (hn : L.length ≤ 1000000) :
    Calls Try.prog 77 #[.func (.func 92) #[] #[.pointer (some ⟨w.heap.size, 0, none⟩)]] (w.alloc (.cells #[.map (some b)] 93)) fun e w' => ∃ A C, e = .returned (.slice A (keysS L).length C) ∧ w'.ownsRow w.heap.size 26 1 (.slice A (keysS L).length C) (keysS L).length (ints (keysS L)) ∧ Below (w.alloc (.cells #[.map (some b)] 93)).heap.size (w.alloc (.cells #[.map (some b)] 93)) w' := by
  obtain ⟨D0, hown, hsz, hperm⟩ := owns_trivial h hk hn
  have hbl := hown.lt
  have hseq : SeqGives Fence.wide 2 Try.prog 92 #[.pointer (some ⟨w.heap.size, 0, none⟩)] Go.encZ (fun ss => ss.Perm (Go.intKeys D0)) (Maps.size D0) (w.alloc (.cells #[.map (some b)] 93)) :=
    AnyZI.keys_gives (ρ := Try.keysO_ren) { Try.keysO with } Fence.wide _ trivial rfl (by omega) w.heap.size b L.length D0 _ (by simp) (by simp) (by
      obtain ⟨es, clock, hb, Ft, hs, hD⟩ := hown
      exact ⟨es, clock, (Below.heap_alloc _ _ b hbl).trans hb, Ft, hs, hD⟩)
  have cS := AnyZI.sorted_in Try.sortedA Fence.wide 5 trivial trivial trivial trivial rfl (by omega) (sortsA _) (enters_of Try.func88 (by kernel_rfl) rfl) 92 #[.pointer (some ⟨w.heap.size, 0, none⟩)] trivial (enters_of Try.func92 (by kernel_rfl) rfl) _ _ (by rw [hsz]; simp only [maxLen]; omega) (by rw [hsz]; omega) _ hseq
  change CallsIn _ _ Try.prog 77 _ _ _ at cS
  refine ((callsIn_wide (n := 5)).1 cS).mono fun e w' ⟨v, ss, e1, hS, hrow, _, hb⟩ => ?_
  have hs2 : ss.mergeSort (fun x y => decide (x ≤ y)) = keysS L := Go.mergeSort_of_perm_i (hS.trans hperm)
  have hlen : ss.length = (keysS L).length := by rw [← hs2, List.length_mergeSort]
  rw [hs2, hlen] at hrow
  obtain ⟨A, C, rfl⟩ := own_slice hrow
  exact ⟨A, C, e1, hrow.mono (by simp), hb⟩
theorem keysB_calls (mb : Option Nat) (w : World) : Calls Try.prog 79 #[.map mb] w fun e w' => e = .returned (.func (.func 93) #[] #[.pointer (some ⟨w.heap.size, 0, none⟩)]) ∧ w' = w.alloc (.cells #[.map mb] 79) :=
  (callsIn_wide (n := 5)).1 (AnyZI.keys_in Try.keysB Fence.wide 5 trivial rfl mb w)
set_option maxHeartbeats 1000000 in
theorem sortedB_calls {α : Type} {V : α → Value} {w : World} {b : Nat} {L : List (Int × α)} (h : Mp.MapIs w b kV V L) (hk : KeysIn L) (hn : L.length ≤ 1000000) :
    Calls Try.prog 77 #[.func (.func 93) #[] #[.pointer (some ⟨w.heap.size, 0, none⟩)]] (w.alloc (.cells #[.map (some b)] 79)) fun e w' => ∃ A C, e = .returned (.slice A (keysS L).length C) ∧ w'.ownsRow w.heap.size 26 1 (.slice A (keysS L).length C) (keysS L).length (ints (keysS L)) ∧ Below (w.alloc (.cells #[.map (some b)] 79)).heap.size (w.alloc (.cells #[.map (some b)] 79)) w' := by
  obtain ⟨D0, hown, hsz, hperm⟩ := owns_trivial h hk hn
  have hbl := hown.lt
  have hseq : SeqGives Fence.wide 2 Try.prog 93 #[.pointer (some ⟨w.heap.size, 0, none⟩)] Go.encZ (fun ss => ss.Perm (Go.intKeys D0)) (Maps.size D0) (w.alloc (.cells #[.map (some b)] 79)) :=
    AnyZI.keys_gives (ρ := Try.keysB_ren) { Try.keysB with } Fence.wide _ trivial rfl (by omega) w.heap.size b L.length D0 _ (by simp) (by simp) (by
      obtain ⟨es, clock, hb, Ft, hs, hD⟩ := hown
      exact ⟨es, clock, (Below.heap_alloc _ _ b hbl).trans hb, Ft, hs, hD⟩)
  have cS := AnyZI.sorted_in Try.sortedA Fence.wide 5 trivial trivial trivial trivial rfl (by omega) (sortsA _) (enters_of Try.func88 (by kernel_rfl) rfl) 93 #[.pointer (some ⟨w.heap.size, 0, none⟩)] trivial (enters_of Try.func93 (by kernel_rfl) rfl) _ _ (by rw [hsz]; simp only [maxLen]; omega) (by rw [hsz]; omega) _ hseq
  change CallsIn _ _ Try.prog 77 _ _ _ at cS
  refine ((callsIn_wide (n := 5)).1 cS).mono fun e w' ⟨v, ss, e1, hS, hrow, _, hb⟩ => ?_
  have hs2 : ss.mergeSort (fun x y => decide (x ≤ y)) = keysS L := Go.mergeSort_of_perm_i (hS.trans hperm)
  have hlen : ss.length = (keysS L).length := by rw [← hs2, List.length_mergeSort]
  rw [hs2, hlen] at hrow
  obtain ⟨A, C, rfl⟩ := own_slice hrow
  exact ⟨A, C, e1, hrow.mono (by simp), hb⟩
variable {w : World} {hb : Nat} {A : HA} {H : Hp} {S : Nat → Prop}
theorem all_nil (w : World) : Calls Try.prog 40 #[.pointer none] w fun e w' => e = .returned (.slice none 0 0) ∧ w = w' := by
  go_enter Try.func40, Try.ntmps40
  go_wp2
  all_goals go_ret
  all_goals exact ⟨rfl, rfl⟩
theorem keys_obAdr (A : HA) (L : List (Int × Ob)) : keysS (obAdr A L) = keysS L := by
  unfold keysS obAdr
  rw [List.map_map]
  rfl
theorem all_calls (h : HpAt w hb A H S) (hi : Inv H []) (hl : H.last ≤ 1000000) : Calls Try.prog 40 #[.pointer (some ⟨hb, 0, none⟩)] w (RfPost w (allH H)) := by
  have hlen : H.objs.length ≤ 1000000 := Nat.le_trans (length_le_of_keys hi.ndO hi.rng) hl
  have hk : KeysIn (obAdr A H.objs) := fun p hp => by
    obtain ⟨q, hq, rfl⟩ := List.mem_map.1 hp
    have := hi.rng q.1 q.2 (Mp.get_of_mem hi.ndO hq)
    simp only
    omega
  have hS := Lib.hid (sortedO_calls h.omap hk (by simp [obAdr]; exact hlen))
  rw [keys_obAdr] at hS
  have hK := Lib.hid (keysO_calls (some A.mb) w)
  have HB : Hid (Below w.heap.size w (w.alloc (.cells #[.map (some A.mb)] 93))) := Lib.hid ((Below.refl _ _).alloc (Nat.le_refl _) _)
  obtain ⟨c0, _⟩ := h.cells
  clear h hi hlen hk
  go_enter Try.func40, Try.ntmps40
  go_wp2_with (first
    | (go_at_call 78; refine hK.out.mono ?_; rintro e w1 ⟨rfl, rfl⟩)
    | (go_at_call 77; refine hS.out.mono ?_; rintro e w2 ⟨A1, C1, rfl, ho, hb2⟩; have HO := Lib.hid ho; have HB2 := Lib.hid (HB.out.trans (hb2.mono HB.out.size)); clear ho hb2))
  go_ret
  exact ⟨A1, C1, rfl, HO.out, HB2.out⟩
end Go.Proofs.Ytodfpclekihbhaa

/- Calls on a heap that is nil; Watch; the examples of the chapter. -/
namespace Go.Proofs.Ytodfpclekihbhaa
open Go.RowKit Go.Shelf

variable {w : World} {hb : Nat} {A : HA} {H : Hp} {S : Nat → Prop}
theorem set_nil (r i num ref : Int) (w : World) : Calls Try.prog 32 #[.pointer none, .int .i64 r, .int .i64 i, .agg #[.int .i64 num, .int .i64 ref]] w fun e w' => e = .returned (.int .i64 4) ∧ Below w.heap.size w w' :=
  set_err none r i num ref 4 (by decide) fun W _ => word_nil r i false W
theorem put_nil (r el i num ref : Int) (w : World) : Calls Try.prog 16 #[.pointer none, .int .i64 r, .int .i64 el, .int .i64 i, .agg #[.int .i64 num, .int .i64 ref]] w fun e w' => e = .returned (.int .i64 4) ∧ Below w.heap.size w w' :=
  put_err none r el i num ref 4 (by decide) fun W _ => el_nil r el i W
theorem array_nil (cls : Int) (ad : Option Addr) (m C : Nat) (n : Int) (w : World) : Calls Try.prog 13 #[.pointer none, .agg #[.int .i64 cls, .slice ad m C], .int .i64 n] w fun e w' => e = .returned (.tuple #[.int .i64 0, .int .i64 4]) ∧ Below w.heap.size w w' := by
  go_enter Try.func13, Try.ntmps13
  go_wp2
  all_goals go_ret2
  all_goals exact ⟨rfl, (Below.refl _ _).alloc (Nat.le_refl _) _⟩
theorem text_nil (c : ByteArray) (wd : Bool) (w : World) : Calls Try.prog 28 #[.pointer none, .agg #[.string c, .bool wd]] w fun e w' => e = .returned (.tuple #[.int .i64 0, .int .i64 4]) ∧ Below w.heap.size w w' := by
  go_enter Try.func28, Try.ntmps28
  go_wp2
  all_goals go_ret2
  all_goals exact ⟨rfl, (Below.refl _ _).alloc (Nat.le_refl _) _⟩
theorem cons_nil (cls : Int) (ad bd : Option Addr) (m C m2 C2 : Nat) (t : Int) (w : World) : Calls Try.prog 30 #[.pointer none, .agg #[.int .i64 cls, .slice ad m C], .slice bd m2 C2, .int .i64 t] w fun e w' => e = .returned (.tuple #[.int .i64 0, .int .i64 4]) ∧ Below w.heap.size w w' := by
  go_enter Try.func30, Try.ntmps30
  go_wp2
  all_goals go_ret2
  all_goals exact ⟨rfl, ((Below.refl _ _).alloc (Nat.le_refl _) _).alloc (by simp) _⟩
theorem part_nil (r f t : Int) (w : World) : Calls Try.prog 14 #[.pointer none, .int .i64 r, .int .i64 f, .int .i64 t] w fun e w' => e = .returned (.tuple #[.int .i64 0, .int .i64 4]) ∧ Below w.heap.size w w' := by
  have HF := Lib.hid (find_nil r w)
  go_enter Try.func14, Try.ntmps14
  go_wp2_with (go_at_call 57; refine HF.out.mono ?_; rintro e w1 ⟨rfl, rfl⟩)
  all_goals go_ret2
  all_goals exact ⟨rfl, Below.refl _ _⟩
theorem len_nil (r : Int) (w : World) : Calls Try.prog 17 #[.pointer none, .int .i64 r] w fun e w' => e = .returned (.tuple #[.int .i64 0, .int .i64 4]) ∧ Below w.heap.size w w' := by
  have HF := Lib.hid (find_nil r w)
  go_enter Try.func17, Try.ntmps17
  go_wp2_with (go_at_call 57; refine HF.out.mono ?_; rintro e w1 ⟨rfl, rfl⟩)
  all_goals go_ret2
  all_goals exact ⟨rfl, Below.refl _ _⟩
theorem copy_nil (r t x : Int) (w : World) : Calls Try.prog 15 #[.pointer none, .int .i64 r, .int .i64 t, .int .i64 x] w fun e w' => e = .returned (.int .i64 4) ∧ Below w.heap.size w w' := by
  have HF := Lib.hid (find_nil r w)
  have HF2 := Lib.hid (find_nil x w)
  have t1 : True := trivial
  go_enter Try.func15, Try.ntmps15
  go_wp2_with (first
    | (go_at_call 57; have _t := t1; refine HF.out.mono ?_; rintro e w1 ⟨rfl, rfl⟩; clear t1)
    | (go_at_call 57; refine HF2.out.mono ?_; rintro e w1 ⟨rfl, rfl⟩))
  all_goals go_ret
  all_goals exact ⟨rfl, Below.refl _ _⟩
theorem get_err (p : Option Addr) (r : Int) (i : Int) (n : Int) (hn : n ≠ 0) (hw : ∀ W, Below w.heap.size w W → Calls Try.prog 73 #[.pointer p, .int .i64 r, .int .i64 i, .bool true] W (WdErr W n)) : Calls Try.prog 31 #[.pointer p, .int .i64 r, .int .i64 i] w fun e w' => e = .returned (.tuple #[.agg #[.int .i64 0, .int .i64 0], .int .i64 n]) ∧ Below w.heap.size w w' := by
  have hB : Below w.heap.size w (w.alloc (.cells #[.int .i64 0, .int .i64 0] 42)) := (Below.refl _ _).alloc (Nat.le_refl _) _
  have HB := Lib.hid hB
  have HW := Lib.hid (hw _ hB)
  have HK0 := Lib.hid (heap_alloc_new w (.cells #[.int .i64 0, .int .i64 0] 42))
  have k1 : (n != 0) = !false := by simpa using hn
  clear hB hw hn
  go_enter Try.func31, Try.ntmps31
  go_wp2_with (go_at_call 73; refine HW.out.mono ?_; rintro e w1 ⟨rfl, hb1⟩
               have HB1 := Lib.hid (HB.out.trans (hb1.mono HB.out.size))
               have hk := (hb1.block _ (lt_of_heap HK0.out)).trans HK0.out
               have e0 := cell_of_heap (v := .int .i64 0) hk (j := 0) rfl
               have e1 := cell_of_heap (v := .int .i64 0) hk (j := 1) rfl
               have f0 := frozen_of_heap hk 0
               have f1 := frozen_of_heap hk 1
               have hz := lt_of_heap hk
               clear hb1 hk)
  exact bodyPost_ret (v := .tuple #[.agg #[.int .i64 0, .int .i64 0], .int .i64 n]) (by simp [results, Try.results31, go_sem, e0, e1]) rfl ⟨rfl, (HB1.out.setCell (Nat.le_refl _) _).setCell (Nat.le_refl _) _⟩
theorem at_err (p : Option Addr) (r : Int) (el i : Int) (n : Int) (hn : n ≠ 0) (hw : ∀ W, Below w.heap.size w W → Calls Try.prog 64 #[.pointer p, .int .i64 r, .int .i64 el, .int .i64 i] W (WdErr W n)) : Calls Try.prog 18 #[.pointer p, .int .i64 r, .int .i64 el, .int .i64 i] w fun e w' => e = .returned (.tuple #[.agg #[.int .i64 0, .int .i64 0], .int .i64 n]) ∧ Below w.heap.size w w' := by
  have hB : Below w.heap.size w (w.alloc (.cells #[.int .i64 0, .int .i64 0] 42)) := (Below.refl _ _).alloc (Nat.le_refl _) _
  have HB := Lib.hid hB
  have HW := Lib.hid (hw _ hB)
  have HK0 := Lib.hid (heap_alloc_new w (.cells #[.int .i64 0, .int .i64 0] 42))
  have k1 : (n != 0) = !false := by simpa using hn
  clear hB hw hn
  go_enter Try.func18, Try.ntmps18
  go_wp2_with (go_at_call 64; refine HW.out.mono ?_; rintro e w1 ⟨rfl, hb1⟩
               have HB1 := Lib.hid (HB.out.trans (hb1.mono HB.out.size))
               have hk := (hb1.block _ (lt_of_heap HK0.out)).trans HK0.out
               have e0 := cell_of_heap (v := .int .i64 0) hk (j := 0) rfl
               have e1 := cell_of_heap (v := .int .i64 0) hk (j := 1) rfl
               have f0 := frozen_of_heap hk 0
               have f1 := frozen_of_heap hk 1
               have hz := lt_of_heap hk
               clear hb1 hk)
  exact bodyPost_ret (v := .tuple #[.agg #[.int .i64 0, .int .i64 0], .int .i64 n]) (by simp [results, Try.results18, go_sem, e0, e1]) rfl ⟨rfl, (HB1.out.setCell (Nat.le_refl _) _).setCell (Nat.le_refl _) _⟩
end Go.Proofs.Ytodfpclekihbhaa

