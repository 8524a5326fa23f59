/- release: references are taken away, and what nothing refers to any more is freed. -/
import Derived.Test.YtodfpclekihbhaaW4
import Derived.Deep.LoopGhost
namespace Go.Proofs.Ytodfpclekihbhaa
open Go.RowKit Go.Shelf

theorem free_calls (n : Nat) (hn : 3 ≤ n) {w : World} {hb : Nat} {A : HA} {H : Hp} {S : Nat → Prop} (h : HpAt w hb A H S) {r : Int} {o : Ob} {x : Rw} (ho : Mp.get H.objs r = some o) (hx : Mp.get H.rows o.row = some x) (hk : x.isA = true ↔ o.kind = 2) (ha1 : 1 ≤ x.arr) (ha2 : x.arr ≤ 1000000000) (ha3 : x.isA = false → x.arr = 1)
    (hu : ¬ (x.isA = true ∧ 0 < x.arr - 1) → ∀ r2 o2, Mp.get (Mp.del H.objs r) r2 = some o2 → o2.row ≠ o.row) (hw : x.words.length ≤ 100000000) {LA : Option Addr} {LC : Nat} {l : List Int} (hl : Lst w S LA LC l) (hll : l.length ≤ 500000000) :
    CallsIn Fence.wide n Try.prog 76 #[.pointer (some ⟨hb, 0, none⟩), .int .i64 r, .pointer (some ⟨A.ob r, 0, none⟩), .slice LA l.length LC] w (FreePost w hb A S LA (freeH H r o).1 (l ++ (freeH H r o).2)) := by
  by_cases hA : x.isA = true ∧ 0 < x.arr - 1
  · rw [freeH_some hx hA]
    simp only [List.append_nil]
    exact free_shared n hn h ho hx (hk.1 hA.1) hA.1 (by omega) ha2 hw hl hll
  · rw [freeH_none hx hA]
    by_cases h2 : o.kind = 2
    · have hi := hk.2 h2
      have : ¬ 0 < x.arr - 1 := fun e => hA ⟨hi, e⟩
      exact free_last n hn h ho hx h2 hi (by omega) (hu hA) hw hl hll
    · exact free_other n hn h ho hx h2 (hu hA) hw hl hll
/-- A state of release's loop. -/
structure RelI (w wr : World) (hb : Nat) (A : HA) (G : Hp) (S : Nat → Prop) (LA LA' : Option Addr) (LC' : Nat) (l : List Int) (R : Hp) : Prop where
  hp : HpAt wr hb A G S
  inv : Inv G l.reverse
  mu : muH G + l.length ≤ 100000000
  bd : ∀ r o, Mp.get G.objs r = some o → o.holds ≤ 1000000000
  ls : Lst wr S LA' LC' l
  fr : ∀ a, LA' = some a → LA = some a ∨ w.heap.size ≤ a.block
  chg : Mut (fun k => S k ∨ LB LA k) w wr
  eq : relH G l.reverse = R
  sz : ∀ k, S k → k < w.heap.size
theorem ints_snoc (l : List Int) (x : Int) : ints (l ++ [x]) = ints l ++ [.int .i64 x] := by simp [ints]
/-- The last number of a slice, for a walk; and the slice without it. -/
theorem Lst.last {w : World} {S : Nat → Prop} {LA : Option Addr} {LC : Nat} {l : List Int} {r : Int} (h : Lst w S LA LC (l ++ [r])) :
    ∃ g, LA = some ⟨g, 0, none⟩ ∧ g < w.heap.size ∧ l.length + 1 ≤ LC ∧ LC ≤ maxLen ∧ w.cell? ⟨g, l.length, none⟩ = some (.int .i64 r) ∧ Lst w S LA LC l := by
  rcases h.own.2 with ⟨h1, h2⟩ | ⟨g, cap, cur, h1, h2, h3, h4, h5, h6, h7⟩
  · simp at h2
  · injection h1 with e1 e2 e3
    subst e3
    rw [List.length_append, List.length_singleton] at h4 h7
    refine ⟨g, e1, lt_of_heap h3, h4, h5, cell_of_heap h3 ?_, ⟨⟨by simp [ints], .inr ⟨g, LC, cur, by rw [e1], h2, h3, by omega, h5, h6, ?_⟩⟩, h.off⟩⟩
    · have : (cur.toList.take ((l.length + 1) * 1))[l.length]? = some (.int .i64 r) := by rw [h7]; simp [ints]
      rw [List.getElem?_take_of_lt (by omega)] at this
      simpa using this
    · have : (cur.toList.take ((l.length + 1) * 1)).take l.length = ints l := by rw [h7, ints_snoc, List.take_append_of_le_length (by simp [ints]), List.take_of_length_le (by simp [ints])]
      rw [List.take_take] at this
      simpa using this
theorem Lst.chg {w w' : World} {S T : Nat → Prop} {LA : Option Addr} {LC : Nat} {l : List Int} (h : Lst w S LA LC l) (hm : Mut T w w') (hT : ∀ k, T k → S k) : Lst w' S LA LC l :=
  ⟨own_mut2 h.own hm fun a ha e => h.off a ha (hT _ e), h.off⟩
theorem RelI.zero {w wr : World} {hb : Nat} {A : HA} {G R : Hp} {S : Nat → Prop} {LA LA' : Option Addr} {LC' : Nat} {l : List Int} (h : RelI w wr hb A G S LA LA' LC' (l ++ [0]) R) : RelI w wr hb A G S LA LA' LC' l R := by
  have hi := h.inv
  have he := h.eq
  have hm := h.mu
  rw [List.reverse_append, List.reverse_singleton] at hi he
  simp at hm
  obtain ⟨g, _, _, _, _, _, hl⟩ := h.ls.last
  exact ⟨h.hp, hi.zero, by omega, h.bd, hl, h.fr, h.chg, by rw [← he]; exact (relH_zero G l.reverse).symm, h.sz⟩
theorem bd_upd {G : Hp} {r : Int} (h : ∀ r o, Mp.get G.objs r = some o → o.holds ≤ 1000000000) : ∀ r' o, Mp.get (G.upd r Ob.dec).objs r' = some o → o.holds ≤ 1000000000 := fun x y hy => by
  rw [get_upd] at hy
  by_cases e : x = r
  · rw [if_pos e] at hy
    cases hz : Mp.get G.objs x with
    | none => rw [hz] at hy; cases hy
    | some z =>
      rw [hz] at hy
      injection hy with hy
      rw [← hy]
      exact h x z hz
  · rw [if_neg e] at hy; exact h x y hy
theorem RelI.keep {w wr w2 : World} {hb : Nat} {A : HA} {G R : Hp} {S : Nat → Prop} {LA LA' : Option Addr} {LC' : Nat} {l : List Int} {r : Int} {o : Ob} (h : RelI w wr hb A G S LA LA' LC' (l ++ [r]) R) (h0 : r ≠ 0) (ho : Mp.get G.objs r = some o) (hc : o.holds + (o.rc - 1) ≠ 0)
    (hp : HpAt w2 hb A (G.upd r Ob.dec) S) (hm2 : Mut (· = A.ob r) wr w2) : RelI w w2 hb A (G.upd r Ob.dec) S LA LA' LC' l R := by
  have hi := h.inv
  have he := h.eq
  have hm := h.mu
  rw [List.reverse_append, List.reverse_singleton] at hi he
  simp at hm
  obtain ⟨g, _, _, _, _, _, hl⟩ := h.ls.last
  have hpo := hi.pos r o ho
  refine ⟨hp, hi.dec ho (by omega), by rw [mu_upd]; omega, bd_upd h.bd, hl.chg hm2 (fun k hk => by rw [hk]; exact h.hp.So r o ho), h.fr, h.chg.trans hm2 (fun k hk => .inl (.inl (by rw [hk]; exact h.hp.So r o ho))), ?_, h.sz⟩
  rw [← he]
  exact (relH_keep _ h0 ho hc).symm
theorem RelI.free {w wr w2 w3 : World} {hb : Nat} {A : HA} {G R : Hp} {S : Nat → Prop} {LA LA' : Option Addr} {LC' : Nat} {l : List Int} {r : Int} {o : Ob} {e : Ending} (h : RelI w wr hb A G S LA LA' LC' (l ++ [r]) R) (h0 : r ≠ 0) (ho : Mp.get G.objs r = some o) (hc : o.holds + (o.rc - 1) = 0)
    (hm2 : Mut (· = A.ob r) wr w2) (hf : FreePost w2 hb A S LA' (freeH (G.upd r Ob.dec) r o).1 (l ++ (freeH (G.upd r Ob.dec) r o).2) e w3) :
    ∃ LA2 LC2, e = .returned (.slice LA2 (l ++ (freeH (G.upd r Ob.dec) r o).2).length LC2) ∧ RelI w w3 hb A (freeH (G.upd r Ob.dec) r o).1 S LA LA2 LC2 (l ++ (freeH (G.upd r Ob.dec) r o).2) R ∧ muH (freeH (G.upd r Ob.dec) r o).1 + (l ++ (freeH (G.upd r Ob.dec) r o).2).length < muH G + (l ++ [r]).length := by
  have hi := h.inv
  have he := h.eq
  have hm := h.mu
  rw [List.reverse_append, List.reverse_singleton] at hi he
  obtain ⟨LA2, LC2, g1, g2, g3, g4, g5⟩ := hf
  have hpo := hi.pos r o ho
  have h1 : Mp.get (G.upd r Ob.dec).objs r = some o.dec := by rw [get_upd, if_pos rfl, ho]; rfl
  have hmu := mu_free _ r o _ h1
  rw [mu_upd] at hmu
  have hlt : muH (freeH (G.upd r Ob.dec) r o).1 + (l ++ (freeH (G.upd r Ob.dec) r o).2).length < muH G + (l ++ [r]).length := by simp; omega
  refine ⟨LA2, LC2, g1, ⟨g2, ?_, by omega, ?_, g3, ?_, ?_, ?_, h.sz⟩, hlt⟩
  · rw [List.reverse_append]; exact hi.free ho hc
  · intro x y hy
    rw [freeH_objs] at hy
    exact bd_upd h.bd x y (get_del_of hy).1
  · intro a ha
    rcases g4 a ha with e1 | e1
    · exact h.fr a e1
    · have := h.chg.size
      have := hm2.size
      exact .inr (by omega)
  · refine (h.chg.trans hm2 fun k hk => .inl (.inl (by rw [hk]; exact h.hp.So r o ho))).trans g5 fun k hk => ?_
    rcases hk with e1 | ⟨a, ha, e1⟩
    · exact .inl (.inl e1)
    · rcases h.fr a ha with e2 | e2
      · exact .inl (.inr ⟨a, e2, e1⟩)
      · exact .inr (by omega)
  · rw [← he, List.reverse_append]
    exact (relH_free l.reverse h0 ho hc).symm
theorem HpAt.dec' {w : World} {hb : Nat} {A : HA} {G : Hp} {S : Nat → Prop} (h : HpAt w hb A G S) {r : Int} {o : Ob} {n : Int} (ho : Mp.get G.objs r = some o) (hn : o.rc = n) : HpAt (w.setCell ⟨A.ob r, 11, none⟩ (.int .i64 (n - 1))) hb A (G.upd r Ob.dec) S := by
  subst hn
  exact h.dec ho
set_option maxHeartbeats 2000000 in
theorem release_calls {w : World} {hb : Nat} {A : HA} {H : Hp} {S : Nat → Prop} (h : HpAt w hb A H S) {LA : Option Addr} {LC : Nat} {l : List Int} (hi : Inv H l.reverse) (hmu : muH H + l.length ≤ 100000000) (hbd : ∀ r o, Mp.get H.objs r = some o → o.holds ≤ 1000000000) (hl : Lst w S LA LC l) :
    Calls Try.prog 63 #[.pointer (some ⟨hb, 0, none⟩), .slice LA l.length LC] w fun e w' => e = .returned (.tuple #[]) ∧ HpAt w' hb A (relH H l.reverse) S ∧ Mut (fun k => S k ∨ LB LA k) w w' := by
  have HI : Hid (RelI w w hb A H S LA LA LC l (relH H l.reverse)) := Lib.hid ⟨h, hi, hmu, hbd, hl, fun a ha => .inl ha, Mut.refl _ _, rfl, h.Slt⟩
  clear h hi hmu hbd hl
  generalize relH H l.reverse = R at *
  have hf75 : Fence.wide.fn 75 := trivial
  go_enter Try.func63, Try.ntmps63
  go_wp2
  go_loopg [1] (muH H + l.length) (fun k v wr => ∃ (G : Hp) (LA' : Option Addr) (LC' : Nat) (l' : List Int), v = .slice LA' l'.length LC' ∧ Hid (muH G + l'.length = k) ∧ Hid (RelI w wr hb A G S LA LA' LC' l' R))
  case atStart => exact ⟨H, LA, LC, l, rfl, Lib.hid rfl, HI⟩
  case round =>
    obtain ⟨G, LA', LC', l', rfl, HK, HR⟩ := hrel
    clear HI
    rcases List.eq_nil_or_concat l' with rfl | ⟨ys, r, rfl⟩
    · go_wp2
      go_end0
      have h1 := HR.out.eq
      rw [List.reverse_nil, relH_nil] at h1
      exact ⟨rfl, by rw [← h1]; exact HR.out.hp, HR.out.chg⟩
    · rw [List.concat_eq_append] at HR HK ⊢
      rw [List.length_append, List.length_singleton]
      have hn1 := HR.out.mu
      rw [List.length_append, List.length_singleton] at hn1
      obtain ⟨g, hg1, hg2, hg3, hg4, hg5, _⟩ := HR.out.ls.last
      have hn2 : ys.length ≤ 100000000 := by omega
      clear hn1
      have HG := Lib.hid hg1
      subst hg1
      unfold maxLen at hg4
      generalize hn : ys.length = n at *
      have HN := Lib.hid hn
      clear hn HG
      by_cases h0 : r = 0
      · subst h0
        go_wp2
        go_roundg (muH G + n)
        case rel => exact ⟨G, some ⟨g, 0, none⟩, LC', ys, by rw [HN.out], Lib.hid (by rw [HN.out]), Lib.hid HR.out.zero⟩
        case measure => have := HK.out; rw [List.length_append, List.length_singleton, HN.out] at this; omega
      · have H0 := Lib.hid h0
        have h3 : (r == 0) = false := by simpa using h0
        have hi := HR.out.inv
        rw [List.reverse_append, List.reverse_singleton] at hi
        obtain ⟨o, ho⟩ := Inv.some_of (st := ys.reverse) hi h0
        have hl := HR.out.hp.look r
        rw [HA.at_some ho] at hl
        obtain ⟨c0, c1, c2, c3, hf⟩ := HR.out.hp.cells
        obtain ⟨d0, d1, d2, d3, d4, d5, d6, d7, d8, d9, d10, d11, df⟩ := HR.out.hp.ocells ho
        have hpo := hi.pos r o ho
        have hcn := hi.cnt r o ho
        have hle := inH_le G r
        have hcl := List.count_le_length (a := r) (l := [r] ++ ys.reverse)
        have hmu := HR.out.mu
        have hbo := HR.out.bd r o ho
        obtain ⟨x, hx, hxA, _⟩ := hi.row r o ho
        obtain ⟨ha1, ha2, ha3⟩ := hi.arr _ _ hx
        have hwl := words_le hx
        have hal : arrC G.objs o.row ≤ G.objs.length := List.length_filter_le _ _
        have e0 : muH G = wsum G.rows + 2 * G.objs.length := rfl
        have el : ([r] ++ ys.reverse).length = n + 1 := by simp [HN.out]
        have el2 : (ys ++ [r]).length = n + 1 := by simp [HN.out]
        have hb1 : 0 ≤ o.rc := by omega
        have hb2 : o.rc ≤ 1000000000 := by omega
        have hcnt : Calls Try.prog 75 #[.pointer (some ⟨A.ob r, 0, none⟩)] (wr.setCell ⟨A.ob r, 11, none⟩ (.int .i64 (o.rc - 1))) (fun e w' => e = .returned (.int .i64 (o.holds + (o.rc - 1))) ∧ Below (wr.setCell ⟨A.ob r, 11, none⟩ (.int .i64 (o.rc - 1))).heap.size (wr.setCell ⟨A.ob r, 11, none⟩ (.int .i64 (o.rc - 1))) w') := @count_calls (wr.setCell ⟨A.ob r, 11, none⟩ (.int .i64 (o.rc - 1))) hb A (G.upd r Ob.dec) S (HR.out.hp.dec ho) r o.dec (by rw [get_upd, if_pos rfl, ho]; rfl) hpo.1 hbo (by show _ ≤ o.rc - 1; omega) (by show o.rc - 1 ≤ _; omega)
        have hfree : o.holds + (o.rc - 1) = 0 → ∀ w2, Mut (· = A.ob r) wr w2 → HpAt w2 hb A (G.upd r Ob.dec) S → CallsIn Fence.wide 5 Try.prog 76 #[.pointer (some ⟨hb, 0, none⟩), .int .i64 r, .pointer (some ⟨A.ob r, 0, none⟩), .slice (some ⟨g, 0, none⟩) ys.length LC'] w2 (FreePost w2 hb A S (some ⟨g, 0, none⟩) (freeH (G.upd r Ob.dec) r o).1 (ys ++ (freeH (G.upd r Ob.dec) r o).2)) := fun hc w2 hm hp => by
          obtain ⟨_, _, _, _, _, _, hls⟩ := HR.out.ls.last
          have e1 : freeH (G.upd r Ob.dec) r o = freeH (G.upd r Ob.dec) r o.dec := rfl
          rw [e1]
          refine free_calls 5 (by omega) hp (o := o.dec) (by rw [get_upd, if_pos rfl, ho]; rfl) (x := x) hx hxA (by omega) (by omega) ha3 ?_ (by omega) (hls.chg hm fun k hk => by rw [hk]; exact HR.out.hp.So r o ho) (by rw [HN.out]; omega)
          intro hA r2 o2 h2 e2
          have hfi := (hi.free ho hc).row
          rw [freeH_none (H := G.upd r Ob.dec) (x := x) hx hA] at hfi
          obtain ⟨z, hz, _⟩ := hfi r2 o2 h2
          rw [e2] at hz
          have hz' : Mp.get (Mp.del G.rows o.row) o.row = some z := hz
          rw [Mp.get_del, if_pos rfl] at hz'
          cases hz'
        have HC := Lib.hid hcnt
        have HF := Lib.hid hfree
        have HO := Lib.hid ho
        have HDec := Lib.hid (HR.out.hp.dec ho)
        clear hcnt hfree hi ho hx hxA ha1 ha2 ha3 hwl hal e0 el el2 hpo hcn hle hcl hmu hbo d0 d1 d2 d3 d4 d5 d6 d7 d8 d9 d10 h0
        generalize hrc : o.rc = rc at *
        have HRC := Lib.hid hrc
        clear hrc
        generalize hm : o.holds + (rc - 1) = m at *
        have HM : Hid (o.holds + (o.rc - 1) = m) := Lib.hid (by rw [HRC.out]; exact hm)
        clear hm
        have HS : Hid (Mut (· = A.ob r) wr (wr.setCell ⟨A.ob r, 11, none⟩ (.int .i64 (rc - 1)))) := Lib.hid (Mut.setCell _ _ _ _ rfl)
        by_cases hc : m = 0
        · subst hc
          go_wp2_with (first
            | (go_at_call 75; refine HC.out.mono ?_; rintro e w2 ⟨rfl, hb2⟩
               have HM2 := Lib.hid (HS.out.then (Mut.of_below hb2))
               have HP2 := Lib.hid (HDec.out.below hb2)
               have HFC := Lib.hid ((callsIn_wide (n := 5)).1 (HF.out rfl w2 HM2.out HP2.out))
               rw [HN.out] at HFC
               clear hb2)
            | (go_at_call 76; refine HFC.out.mono ?_; intro e w3 hpost
               obtain ⟨LA2, LC2, he, hR2, hlt⟩ := HR.out.free H0.out HO.out HM.out HM2.out hpost
               subst he
               have HR2 := Lib.hid hR2
               have HLT := Lib.hid hlt
               clear hpost hR2 hlt))
          go_roundg (muH (freeH (G.upd r Ob.dec) r o).1 + (ys ++ (freeH (G.upd r Ob.dec) r o).2).length)
          case rel => exact ⟨_, LA2, LC2, _, by rw [List.length_append], Lib.hid rfl, HR2⟩
          case measure => have h1 := HK.out; have h2 := HLT.out; omega
        · have hc2 : (m == 0) = false := by simpa using hc
          have HC0 : Hid (o.holds + (o.rc - 1) ≠ 0) := Lib.hid (by rw [HM.out]; exact hc)
          clear hc
          go_wp2_with (go_at_call 75; refine HC.out.mono ?_; rintro e w2 ⟨rfl, hb2⟩
                       have HM2 := Lib.hid (HS.out.then (Mut.of_below hb2))
                       have HP2 := Lib.hid (HDec.out.below hb2)
                       clear hb2)
          go_roundg (muH (G.upd r Ob.dec) + ys.length)
          case rel => exact ⟨_, some ⟨g, 0, none⟩, LC', ys, by rw [HN.out], Lib.hid rfl, Lib.hid (HR.out.keep H0.out HO.out HC0.out HP2.out HM2.out)⟩
          case measure => have h1 := HK.out; rw [List.length_append, List.length_singleton] at h1; rw [mu_upd]; omega
end Go.Proofs.Ytodfpclekihbhaa
