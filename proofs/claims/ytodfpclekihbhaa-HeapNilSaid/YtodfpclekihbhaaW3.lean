/- Loops over an iterator that append what comes to a slice in a box. -/
import Derived.Test.YtodfpclekihbhaaW2
import Derived.Test.YtodfpclekihbhaaM2
namespace Go.Proofs.Ytodfpclekihbhaa
open Go.RowKit Go.Shelf
attribute [local go_sem] Oper.semAt_some

theorem wpIn_range_one {F : Fence} {n : Nat} {P : Program} {g : Operand} {p e : Tmp} {ty : TypeId} {ps : String} {kk : Nat} {body : Code} {Q : Exit → Act → World → Prop} {a : Act} {w : World}
    (hro : F.round = none) (h1 : 1 ≤ n) (hp : p < a.tmps.size) {gf : Nat} {bs : Array Value} (hg : a.eval g = .func (.func gf) bs #[]) (hFg : F.fn gf) (eg : ∀ args w, (callFunc gf args).run P w = .ok (.enter gf args) w)
    {xs : List Value} {Rd : World → Prop} (hseq : Gives F (n - 1) P gf bs xs Rd)
    (I : Nat → World → Prop) (hI : Stable I) (hI2 : ∀ j W l o o', I j W → w.heap.size ≤ l → W.heap[l]? = some o → o.isCells = false → I j (W.putObj l o')) (hrd : ∀ j W, I j W → Rd W) (h0 : I 0 w)
    (hbody : ∀ (l j : Nat) (h : j < xs.length) (W : World), I j W → body.wpIn (F.inRound l) (n - 1 - 1) P (goesOn w.heap.size (I (j + 1)) W) { tmps := (a.tmps.setIfInBounds p (xs[j]'h)).setIfInBounds e (xs[j]'h), defers := [] } W)
    (hdone : ∀ (D : Nat) (W : World), w.heap.size ≤ D → I xs.length W → W.heap[D]? = some (.deferred (some [])) → Q .normal { a with defers := { target := .collected D, args := #[] } :: a.defers } W) :
    (Code.rangeFunc g #[p] (.region kk #[{ dst := some e, op := .assign (.tmp p), type := ty, pos := ps, after := #[], guard := none }] false) body).wpIn F n P Q a w := by
  refine wpIn_range_met hro h1 hg hFg eg hseq I hI hI2 hrd h0 (fun x => { tmps := (a.tmps.setIfInBounds p x).setIfInBounds e x, defers := [] }) ?_ hbody hdone
  intro l x W K hK
  have e1 : (a.tmps.setIfInBounds p x)[p]?.getD undef = x := by simp [hp]
  gi_wp2
  exact hK
theorem KeepsFrom.of_mut {B : Nat} {T : Nat → Prop} {W W' : World} (h : Mut T W W') (hT : ∀ k o, T k → B ≤ k → W.heap[k]? = some o → o.isCells = true) : KeepsFrom B W W' :=
  ⟨h.size, fun k o hB hk ho => (h.block k (Array.getElem?_eq_some_iff.1 hk).1 (fun hTk => by have := hT k o hTk hB hk; rw [ho] at this; cases this)).trans hk⟩
/-- A box holds a slice that reads as a list; of what lay in w0 the box and the slice's first row alone may have turned. -/
def BoxAt (w0 : World) (Bs : Nat) (L0 : Option Addr) (zs : List Int) (W : World) : Prop :=
  ∃ LA LC, W.heap[Bs]? = some (.cells #[.slice LA zs.length LC] 35 (0, 0)) ∧ W.ownsRow 0 26 1 (.slice LA zs.length LC) zs.length (ints zs) ∧ (∀ a, LA = some a → L0 = some a ∨ w0.heap.size ≤ a.block) ∧ Mut (fun k => k = Bs ∨ ∃ a, L0 = some a ∧ a.block = k) w0 W
theorem own_head {w : World} {base n C size : Nat} {e : TypeId} {A : Option Addr} {xs : List Value} (h : w.ownsRow base e size (.slice A n C) n xs) (a : Addr) (ha : A = some a) : a = ⟨a.block, 0, none⟩ ∧ ∃ cs, w.heap[a.block]? = some (.cells cs e (0, 0)) := by
  rcases h.2 with ⟨h1, _⟩ | ⟨g, cap, cur, h1, h2, h3, h4⟩
  · injection h1 with h1; rw [ha] at h1; cases h1
  · injection h1 with e1
    rw [ha] at e1
    injection e1 with e1
    subst e1
    exact ⟨rfl, cur, h3⟩
theorem BoxAt.below {w0 W W' : World} {Bs : Nat} {L0 : Option Addr} {zs : List Int} (h : BoxAt w0 Bs L0 zs W) (hb : Below W.heap.size W W') : BoxAt w0 Bs L0 zs W' := by
  obtain ⟨LA, LC, h1, h2, h3, h4⟩ := h
  exact ⟨LA, LC, (hb.block _ (lt_of_heap h1)).trans h1, own_mut2 h2 (Mut.of_below (S := fun _ => False) hb) (fun _ _ h => h), h3, h4.then (Mut.of_below hb)⟩
theorem BoxAt.put {w0 W : World} {Bs : Nat} {L0 : Option Addr} {zs : List Int} (h : BoxAt w0 Bs L0 zs W) {l : Nat} {o o' : Obj} (hl : w0.heap.size ≤ l) (ho : W.heap[l]? = some o) (hc : o.isCells = false) : BoxAt w0 Bs L0 zs (W.putObj l o') := by
  obtain ⟨LA, LC, h1, h2, h3, h4⟩ := h
  have hm : Mut (· = l) W (W.putObj l o') := ⟨rfl, rfl, rfl, by simp, fun k _ hk => World.putObj_heap_other (fun e => hk e)⟩
  have ne : ∀ {b : Nat} {cs : Array Value} {t : TypeId} {fr : Nat × Nat}, W.heap[b]? = some (.cells cs t fr) → b ≠ l := fun {b cs t fr} hb e => by
    subst e
    rw [ho] at hb
    injection hb with hb
    rw [hb] at hc
    cases hc
  refine ⟨LA, LC, (hm.block _ (lt_of_heap h1) (ne h1)).trans h1, own_mut2 h2 hm (fun a ha e => ?_), h3, h4.trans hm fun i hi => .inr (by rw [hi]; exact hl)⟩
  obtain ⟨_, cs, hcs⟩ := own_head h2 a ha
  exact ne hcs e
theorem own_rebase {w : World} {b0 b n C size : Nat} {e : TypeId} {A : Option Addr} {xs : List Value} (h : w.ownsRow b0 e size (.slice A n C) n xs) (hb : ∀ a, A = some a → b ≤ a.block) : w.ownsRow b e size (.slice A n C) n xs := by
  refine ⟨h.1, ?_⟩
  rcases h.2 with h1 | ⟨g, cap, cur, h1, h2, h3⟩
  · exact .inl h1
  · injection h1 with e1 e2 e3
    subst e3
    exact .inr ⟨g, C, cur, by rw [e1], hb _ e1, h3⟩
theorem isCells_of {cs : Array Value} {t : TypeId} {fr : Nat × Nat} {o : Obj} (h : some (Obj.cells cs t fr) = some o) : o.isCells = true := by cases h; rfl
theorem Try.infoRef : (Try.prog.info? 26).map (fun i => (i.zero, i.size, i.bytes)) = some (some (.int .i64 0), 1, 8) := by kernel_rfl
/-- A number is appended to the slice in a box: in a fenced walk. -/
theorem appI {F : Fence} {nF : Nat} {ops : Array Oper} {rest : List Oper} {o : Oper} {a : Act} {Q : Exit → Act → World → Prop} {w : World} (hgd : o.guard = none) (s x : Operand)
    (ho : o.op = .call { callee := .builtin .append, args := #[s, x], argTypes := #[35, 35] }) (w0 : World) (Bs : Nat) (L0 : Option Addr) (zs : List Int) (y : Int) (LA : Option Addr) (LC : Nat)
    (hbox : w.heap[Bs]? = some (.cells #[.slice LA zs.length LC] 35 (0, 0))) (hown : w.ownsRow 0 26 1 (.slice LA zs.length LC) zs.length (ints zs)) (hL : ∀ a, LA = some a → L0 = some a ∨ w0.heap.size ≤ a.block) (hm : Mut (fun k => k = Bs ∨ ∃ a, L0 = some a ∧ a.block = k) w0 w)
    (hs : a.eval s = .slice LA zs.length LC) {p : Nat} (hx : a.eval x = .slice (some ⟨p, 0, none⟩) 1 1) (hp : p = w.heap.size) (hn : zs.length ≤ 1000000000)
    (h : ∀ g C w', w'.cell? ⟨Bs, 0, none⟩ = some (.slice LA zs.length LC) → w'.frozen? ⟨Bs, 0, none⟩ = false →
      Hid (BoxAt w0 Bs L0 (zs ++ [y]) (w'.setCell ⟨Bs, 0, none⟩ (.slice (some ⟨g, 0, none⟩) (zs.length + 1) C)) ∧ ∀ B, KeepsFrom B w (w'.setCell ⟨Bs, 0, none⟩ (.slice (some ⟨g, 0, none⟩) (zs.length + 1) C))) → wpListIn F nF Try.prog ops Q rest (a.put o.dst (.slice (some ⟨g, 0, none⟩) (zs.length + 1) C)) w') :
    wpListIn F nF Try.prog ops Q (o :: rest) a (w.alloc (.cells #[.int .i64 y] 26)) := by
  subst hp
  obtain ⟨i0, hi, hz0, hz1, hz2⟩ := info_parts Try.infoRef
  refine wpListIn_append_own_at _ hgd s x 35 ho 0 26 i0 (.int .i64 0) 1 8 Try.underlying35 hi hz0 hz1 hz2 rfl (by decide) (.slice LA zs.length LC) zs.length (ints zs) hs (hown.alloc _) ⟨w.heap.size, 0, none⟩ 1 1 [.int .i64 y] hx rfl ?c1 ?c2 ?c3 ?c4 ?c5 ?_
  case c1 => exact World.news_of_block (cs := #[.int .i64 y]) (t := 26) (fr := (0, 0)) (heap_alloc_new w _)
  case c2 => intro u hu; simp at hu; subst hu; rfl
  case c3 => simp only [maxLen]; omega
  case c4 => omega
  case c5 => omega
  intro v1 w1 hown1 hgrow _ hblk
  rcases hown1.2 with ⟨_, h0⟩ | ⟨g, C, cur, rfl, _, hg1, hg2, hg3, hg4, hg5⟩
  · exact absurd h0 (by omega)
  have ba : Below w.heap.size w (w.alloc (.cells #[.int .i64 y] 26)) := (Below.refl _ _).alloc (Nat.le_refl _) _
  have hsz : (w.alloc (.cells #[.int .i64 y] 26)).heap.size = w.heap.size + 1 := World.size_alloc _ _
  have hbox1 : (w.alloc (.cells #[.int .i64 y] 26)).heap[Bs]? = some (.cells #[.slice LA zs.length LC] 35 (0, 0)) := (ba.block _ (lt_of_heap hbox)).trans hbox
  have hrowne : ∀ a, LA = some a → a.block ≠ Bs := fun a ha => by
    obtain ⟨_, cs, hcs⟩ := own_head hown a ha
    exact ne_ty hcs hbox (by decide)
  have hm1 : Mut (fun k => ∃ a, LA = some a ∧ a.block = k) (w.alloc (.cells #[.int .i64 y] 26)) w1 := Mut.of_grown hgrow fun k hk => .inl (ownB hk)
  have hbox2 : w1.heap[Bs]? = some (.cells #[.slice LA zs.length LC] 35 (0, 0)) := (hm1.block _ (lt_of_heap hbox1) (fun ⟨a, ha, e⟩ => hrowne a ha e)).trans hbox1
  have hm2 : Mut (fun k => k = Bs ∨ ∃ a, LA = some a ∧ a.block = k) w (w1.setCell ⟨Bs, 0, none⟩ (.slice (some ⟨g, 0, none⟩) (zs.length + 1) C)) :=
    ((Mut.of_below ba).trans (hm1.mono (S' := fun k => k = Bs ∨ ∃ a, LA = some a ∧ a.block = k) fun i hi => .inl (.inr hi)) fun i hi => .inl hi).then (Mut.setCell _ _ _ _ (.inl rfl))
  have hgne : g ≠ Bs := ne_ty hg1 hbox2 (by decide)
  refine h g C w1 (cell_of_heap hbox2 rfl) (frozen_of_heap hbox2 0) (Lib.hid ⟨?_, ?_⟩)
  · have e1 : (zs ++ [y]).length = zs.length + 1 := by simp
    refine ⟨some ⟨g, 0, none⟩, C, ?_, ?_, ?_, ?_⟩
    · rw [e1, heap_setCell_same w1 Bs 0 _ _ _ hbox2]; rfl
    · rw [e1]
      have : ints (zs ++ [y]) = ints zs ++ [.int .i64 y] := by simp [ints]
      rw [this]
      exact own_mut2 hown1 (Mut.setCell (S := (· = Bs)) w1 Bs 0 _ rfl) fun a ha e => by
        injection ha with ha
        subst ha
        exact hgne e
    · intro a ha
      injection ha with ha
      subst ha
      rcases hblk with hb | hb
      · obtain ⟨a', ha', e⟩ := ownB hb.symm
        obtain ⟨e2, _⟩ := own_head hown a' ha'
        have : a' = ⟨g, 0, none⟩ := by rw [e2, e]
        subst this
        exact hL _ ha'
      · have : g = w.heap.size + 1 := by simpa [Value.ownBlock, hsz] using hb
        have := hm.size
        exact .inr (by show w0.heap.size ≤ g; omega)
    · refine hm.trans hm2 fun i hi => ?_
      rcases hi with hi | ⟨a, ha, hi⟩
      · exact .inl (.inl hi)
      · rcases hL a ha with h5 | h5
        · exact .inl (.inr ⟨a, h5, hi⟩)
        · exact .inr (by rw [← hi]; exact h5)
  · intro B
    refine KeepsFrom.of_mut hm2 fun k o hk _ hko => ?_
    rcases hk with hk | ⟨a, ha, hk⟩
    · subst hk
      rw [hbox] at hko
      exact isCells_of hko
    · obtain ⟨_, cs, hcs⟩ := own_head hown a ha
      rw [← hk, hcs] at hko
      exact isCells_of hko
theorem ints_take {ts : List Int} {j : Nat} (h : j < (ints ts).length) : ∃ hj : j < ts.length, (ints ts)[j]'h = .int .i64 (ts[j]'hj) ∧ ts.take (j + 1) = ts.take j ++ [ts[j]'hj] := by
  have hj : j < ts.length := by simpa [ints] using h
  exact ⟨hj, by simp [ints], List.take_succ_eq_append_getElem hj⟩
set_option maxHeartbeats 2000000 in
/-- slices.AppendSeq(nil, seq), against an iterator that gives a list. -/
theorem appendSeq_met (n : Nat) (hn : 2 ≤ n) (gf : Nat) (bs : Array Value) (eg : ∀ args w, (callFunc gf args).run Try.prog w = .ok (.enter gf args) w) (ts : List Int) (hts : ts.length ≤ 1000000000) (Rd : World → Prop) (hseq : Gives Fence.wide (n - 1) Try.prog gf bs (ints ts) Rd) (w : World) (hRd : ∀ W, Below w.heap.size w W → Rd W) :
    CallsIn Fence.wide n Try.prog 91 #[.slice none 0 0, .func (.func gf) bs #[]] w fun e w' => ∃ LA LC, e = .returned (.slice LA ts.length LC) ∧ w'.ownsRow w.heap.size 26 1 (.slice LA ts.length LC) ts.length (ints ts) ∧ Below w.heap.size w w' := by
  refine callsIn_of_wp_marks Try.func91 rfl trivial ?_ rfl
  simp only [Try.ntmps91, List.size_toArray, List.length_cons, List.length_nil, Nat.reduceAdd, Nat.reduceSub, Array.replicate_succ, Array.replicate_zero, List.push_toArray, List.append_toArray, List.nil_append, List.cons_append]
  have HS := Lib.hid hseq
  have HR := Lib.hid hRd
  have HE := Lib.hid eg
  have HT := Lib.hid hts
  clear hseq hRd eg hts
  gi_wp2
  have base : BoxAt w w.heap.size none [] (w.alloc (.cells #[.slice none 0 0] 35)) := ⟨none, 0, heap_alloc_new w _, World.ownsRow_nil _ _ _ _, (fun a h => by cases h), Mut.of_below ((Below.refl _ _).alloc (Nat.le_refl _) _)⟩
  have toB : ∀ {zs W}, BoxAt w w.heap.size none zs W → Below w.heap.size w W := fun {zs W} hb => by
    obtain ⟨_, _, _, _, _, hm⟩ := hb
    exact hm.to_below (Nat.le_refl _) fun k hk => by
      rcases hk with rfl | ⟨a, ha, _⟩
      · exact Nat.le_refl _
      · cases ha
  refine wpIn_range_one rfl (by omega) (by simp) rfl trivial HE.out HS.out (fun j W => BoxAt w w.heap.size none (ts.take j) W) (fun j A B h hb => h.below hb) (fun j W l o o' h hl ho hc => h.put (by have := hl; simp at this; omega) ho hc) (fun j W h => HR.out W (toB h)) base ?_ ?_
  · intro l j hj W hW
    obtain ⟨hj2, hx, htk⟩ := ints_take hj
    rw [hx]
    have hlen : (ts.take j).length ≤ 1000000000 := by have := HT.out; rw [List.length_take]; omega
    have HK : Hid (BoxAt w w.heap.size none (ts.take (j + 1)) = BoxAt w w.heap.size none (ts.take j ++ [ts[j]'hj2])) := Lib.hid (by rw [htk])
    generalize ts[j]'hj2 = y at *
    generalize ts.take j = zs at *
    obtain ⟨LA, LC, h1, h2, h3, h4⟩ := hW
    have c1 := cell_of_heap (v := .slice LA zs.length LC) h1 (j := 0) rfl
    have c2 := frozen_of_heap h1 0
    have H1 := Lib.hid h1
    have H2 := Lib.hid h2
    have H3 := Lib.hid h3
    have H4 := Lib.hid h4
    clear h1 h2 h3 h4 hx htk base HS
    gi_wp2_with (first
      | (gi_at_builtin; refine appI rfl _ _ rfl w w.heap.size none zs y LA LC H1.out H2.out H3.out H4.out rfl rfl rfl hlen ?_; intro g C w1 d1 d2 HB)
      | gi_in)
    exact ⟨HB.out.2 _, by rw [HK.out]; exact HB.out.1⟩
  · intro D W hD hW hdef
    rename_i Q' K hK
    refine hK _ _ ?_
    rw [List.take_of_length_le (by simp [ints])] at hW
    have HB := Lib.hid (toB hW)
    obtain ⟨LA, LC, h1, h2, h3, h4⟩ := hW
    have hrow : ∀ a, LA = some a → a.block < W.heap.size ∧ a.block ≠ D ∧ w.heap.size ≤ a.block := fun a ha => by
      obtain ⟨_, cs, hcs⟩ := own_head h2 a ha
      refine ⟨lt_of_heap hcs, fun e => ?_, ?_⟩
      · rw [e, hdef] at hcs; cases hcs
      · rcases h3 a ha with h5 | h5
        · cases h5
        · exact h5
    have hD2 : w.heap.size ≤ D := by simp at hD; omega
    have hm : Mut (· = D) W (W.putObj D (.deferred none)) := ⟨rfl, rfl, rfl, by simp, fun k _ hk => World.putObj_heap_other (fun e => hk e)⟩
    have c1 := cell_of_heap (v := .slice LA ts.length LC) h1 (j := 0) rfl
    have c2 := frozen_of_heap h1 0
    have H2 := Lib.hid h2
    have H5 := Lib.hid hrow
    have H6 := Lib.hid hm
    have H7 := Lib.hid hdef
    have H8 := Lib.hid hD2
    clear h1 h2 h3 h4 hrow hm hdef hD2 hD base hK
    gi_wp2
    refine ⟨by simp, .inl ⟨_, _, rfl, run_takeDeferred H7.out, ?_⟩⟩
    refine ⟨_, results_tmp rfl _ _ _, LA, LC, rfl, ?_, HB.out.trans (H6.out.to_below HB.out.size fun k hk => by rw [hk]; exact H8.out)⟩
    exact own_rebase (own_mut2 H2.out H6.out fun a ha e => (H5.out a ha).2.1 e) fun a ha => (H5.out a ha).2.2
set_option maxHeartbeats 1000000 in
/-- slices.Collect(seq), against an iterator that gives a list. -/
theorem collect_met (n : Nat) (hn : 3 ≤ n) (gf : Nat) (bs : Array Value) (eg : ∀ args w, (callFunc gf args).run Try.prog w = .ok (.enter gf args) w) (ts : List Int) (hts : ts.length ≤ 1000000000) (Rd : World → Prop) (hseq : Gives Fence.wide (n - 1 - 1) Try.prog gf bs (ints ts) Rd) (w : World) (hRd : ∀ W, Below w.heap.size w W → Rd W) :
    CallsIn Fence.wide n Try.prog 74 #[.func (.func gf) bs #[]] w fun e w' => ∃ LA LC, e = .returned (.slice LA ts.length LC) ∧ w'.ownsRow w.heap.size 26 1 (.slice LA ts.length LC) ts.length (ints ts) ∧ Below w.heap.size w w' := by
  have h1 : 1 ≤ n := by omega
  have HC := Lib.hid (appendSeq_met (n - 1) (by omega) gf bs eg ts hts Rd hseq w hRd)
  have hf : Fence.wide.fn 91 := trivial
  clear hseq hRd hts eg hn
  refine callsIn_of_wp Try.func74 rfl trivial ?_ rfl
  simp only [Try.ntmps74, List.size_toArray, List.length_cons, List.length_nil, Nat.reduceAdd, Nat.reduceSub, Array.replicate_succ, Array.replicate_zero, List.push_toArray, List.append_toArray, List.nil_append, List.cons_append]
  gi_wp2_with (gi_at_call 91; refine HC.out.mono ?_; rintro e w' ⟨LA, LC, rfl, hrow, hb⟩)
  go_ret
  exact ⟨LA, LC, rfl, hrow, hb⟩
end Go.Proofs.Ytodfpclekihbhaa
