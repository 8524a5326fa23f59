/- Texts on regular expressions, merged: X2, X3, X4, X5. -/
import Derived.Test.YtcajnmhbkjngbaaG02
import Derived.Laws.CopyRow
import Derived.Laws.Externs
import Derived.Lib.Overlaps
import Derived.Lib.AppendZerosOnto
import Derived.Lib.SliceRun
import Derived.Shelf.RegionOpenPlain
/- A character of a set. -/
namespace Go.Proofs.Ytcajnmhbkjngbaa
open Go.RowKit Go.Shelf
variable {w w' : World} {cb : Nat} {A : CA} {S : Nat → Prop} {cs : List Int} {ats : AT} {K : CS}

theorem single_bad (h : CpAt w cb A S cs ats K) {p : Int} (hi : K.i ≤ cs.length) (hp : ats.l[cs.length]? = some p) (hl : cs.length ≤ 100000) (hn : pSng cs K.i = none) : Calls Try.prog 122 #[.pointer (some ⟨cb, 0, none⟩)] w fun e w' => e = thrown p 16 ∧ Mut S w w' := by
  unfold pSng at hn
  cases hc : cs[K.i]? with
  | none =>
    have hle : cs.length ≤ K.i := by simpa using hc
    have he : K.i = cs.length := by omega
    have H1 := Lib.hid (next_end h hle (he ▸ hp))
    clear h hn hc hi he hle hp
    go_enter Try.func122, Try.ntmps122
    go_wp2_with (first
      | (go_at_call 100; refine H1.out.mono ?_; rintro e w1 ⟨rfl, hm⟩; have HM := Lib.hid hm; clear hm))
    exact ⟨rfl, rfl, HM.out⟩
  | some c =>
    rw [hc] at hn
    simp only at hn
    by_cases h92 : c = 92
    · subst h92
      rw [if_pos rfl] at hn
      have hc2 : cs[K.i + 1]? = none := by
        cases hq : cs[K.i + 1]? with
        | none => rfl
        | some q => rw [hq] at hn; cases hn
      have hle : cs.length ≤ K.i + 1 := by simpa using hc2
      have hlt := (List.getElem?_eq_some_iff.1 hc).1
      have he : K.i + 1 = cs.length := by omega
      have H1 := Lib.hid (next_ok h hc hl)
      have HS : Hid (S cb) := Lib.hid h.Sb
      have H2 : Hid (∀ w1, CpAt w1 cb A S cs ats { K with i := K.i + 1 } → Calls Try.prog 100 #[.pointer (some ⟨cb, 0, none⟩)] w1 fun e w' => e = thrown p 16 ∧ Mut S w1 w') := Lib.hid fun w1 h1 => next_end h1 hle (show ats.l[K.i + 1]? = some p by rw [he]; exact hp)
      have t1 : True := trivial
      clear h hn hc hc2 hi he hle hp hlt
      go_enter Try.func122, Try.ntmps122
      go_wp2_with (first
        | (go_at_call 100; have _t := t1; refine H1.out.mono ?_; rintro e w1 ⟨rfl, h1, hm⟩; have H3 := Lib.hid (H2.out w1 h1); have HM := Lib.hid hm; clear h1 hm t1 _t)
        | (go_at_call 100; refine H3.out.mono ?_; rintro e w2 ⟨rfl, hm⟩; have HM2 := Lib.hid hm; clear hm))
      exact ⟨rfl, rfl, (HM.out.mono fun k hk => .inl (hk ▸ HS.out)).then HM2.out⟩
    · rw [if_neg h92] at hn; cases hn
theorem single_ok (h : CpAt w cb A S cs ats K) {a : Int} {j : Nat} (hl : cs.length ≤ 100000) (hn : pSng cs K.i = some (a, j)) : Calls Try.prog 122 #[.pointer (some ⟨cb, 0, none⟩)] w fun e w' => e = .returned (.int .i32 a) ∧ CpAt w' cb A S cs ats { K with i := j } ∧ Mut (· = cb) w w' := by
  unfold pSng at hn
  cases hc : cs[K.i]? with
  | none => rw [hc] at hn; cases hn
  | some c =>
    rw [hc] at hn
    simp only at hn
    have H1 := Lib.hid (next_ok h hc hl)
    by_cases h92 : c = 92
    · subst h92
      rw [if_pos rfl] at hn
      cases hc2 : cs[K.i + 1]? with
      | none => rw [hc2] at hn; cases hn
      | some d =>
        rw [hc2] at hn
        cases hn
        have H2 : Hid (∀ w1, CpAt w1 cb A S cs ats { K with i := K.i + 1 } → Calls Try.prog 100 #[.pointer (some ⟨cb, 0, none⟩)] w1 fun e w' => e = .returned (.int .i32 d) ∧ CpAt w' cb A S cs ats { K with i := K.i + 2 } ∧ Mut (· = cb) w1 w') := Lib.hid fun w1 h1 => next_ok h1 hc2 hl
        have t1 : True := trivial
        clear h hc hc2
        go_enter Try.func122, Try.ntmps122
        go_wp2_with (first
          | (go_at_call 100; have _t := t1; refine H1.out.mono ?_; rintro e w1 ⟨rfl, h1, hm⟩; have H3 := Lib.hid (H2.out w1 h1); have HM := Lib.hid hm; clear h1 hm t1 _t)
          | (go_at_call 100; refine H3.out.mono ?_; rintro e w2 ⟨rfl, h2, hm⟩; have HM2 := Lib.hid hm; have HC := Lib.hid h2; clear hm h2)
          | (go_at_call 116; refine (escaped_calls _ _).mono ?_; rintro e w3 ⟨rfl, rfl⟩))
        go_ret
        exact ⟨rfl, HC.out, HM.out.then HM2.out⟩
    · rw [if_neg h92] at hn
      cases hn
      have hb : (a == 92) = false := by simpa using h92
      clear h hc
      go_enter Try.func122, Try.ntmps122
      go_wp2_with (first
        | (go_at_call 100; refine H1.out.mono ?_; rintro e w1 ⟨rfl, h1, hm⟩; have HC := Lib.hid h1; have HM := Lib.hid hm; clear h1 hm))
      go_ret
      exact ⟨rfl, HC.out, HM.out⟩
end Go.Proofs.Ytcajnmhbkjngbaa

/- An instruction is added. -/
namespace Go.Proofs.Ytcajnmhbkjngbaa
open Go.RowKit Go.Shelf
variable {w w' : World} {cb : Nat} {A : CA} {S : Nat → Prop} {cs : List Int} {ats : AT} {K : CS}

theorem info_inst : (Try.prog.info? 99).map (fun i => (i.zero, i.size, i.bytes)) = some (some (.agg #[.int .i64 0, .int .i64 0, .int .i64 0, .slice none 0 0, .bool false]), 5, 56) := by kernel_rfl
theorem CI.one (x : CI) : ∀ u ∈ x.cells, u.oneCell' = true := by
  intro u hu
  simp only [CI.cells, List.mem_cons, List.not_mem_nil, or_false] at hu
  rcases hu with rfl | rfl | rfl | rfl | rfl <;> rfl
/-- The compiler's cells behind an append. -/
theorem CpAt.keep (h : CpAt w cb A S cs ats K) {w2 : World} (hm : Mut (fun k => ∃ a, A.cd = some a ∧ a.block = k) w w2) : CCells w2 cb A cs.length ats K := by
  have hb2 : w2.heap[cb]? = some (.cells (A.cells cs.length ats K) 93 (0, 0)) := (hm.block cb (lt_of_heap h.blk) fun ⟨a, ha, e⟩ => by
    obtain ⟨cur, hc, _⟩ := h.row a ha
    exact ne_ty hc h.blk (by decide) e).trans h.blk
  exact ⟨cell_of_heap hb2 rfl, cell_of_heap hb2 rfl, cell_of_heap hb2 rfl, cell_of_heap hb2 rfl, cell_of_heap hb2 rfl, cell_of_heap hb2 rfl, fun i => frozen_of_heap hb2 i⟩
theorem CPo.recode (h : CpAt w cb A S cs ats K) {W w2 : World} (hb : Below w.heap.size w W) {A1 : Option Addr} {C1 n : Nat} {code : List CI} (hn : code.length = n) (hm : Mut (fun k => ∃ a, A.cd = some a ∧ a.block = k) W w2) (ho : w2.ownsRow 0 99 5 (.slice A1 n C1) n (cellsL code))
    (hl : ∀ a1, A1 = some a1 → (∃ a, A.cd = some a ∧ a.block = a1.block) ∨ W.heap.size ≤ a1.block) (hsp : ∀ x ∈ code, RdP W x.sa x.r.spans ∧ ∀ a, x.sa = some a → a.block < W.heap.size ∧ ¬ S a.block) : CPo w cb S cs ats { K with code := code } (w2.setCell ⟨cb, 5, none⟩ (.slice A1 n C1)) := by
  subst hn
  have h' := h.below hb
  refine ⟨_, _, h'.recode hm ho hl hsp, (Mut.of_below hb).then ((hm.mono fun k hk => .inl (by obtain ⟨a, ha, rfl⟩ := hk; exact h.Sc a ha)).then (Mut.setCell _ _ _ _ h.Sb)), fun k hk => ?_⟩
  rcases hk with hk | ⟨_, a, ha, rfl⟩
  · exact .inl hk
  · rcases hl a ha with ⟨b, hb2, e⟩ | e
    · exact .inl (e ▸ h.Sc b hb2)
    · exact .inr (Nat.le_trans hb.size e)
theorem snoc_len (x : CI) (c : List CI) : (c ++ [x]).length = c.length + 1 := by simp
set_option maxHeartbeats 2000000 in
theorem emit_calls (h : CpAt w cb A S cs ats K) (x : CI) (hsp : RdP w x.sa x.r.spans) (hns : ∀ a, x.sa = some a → a.block < w.heap.size ∧ ¬ S a.block) (hn : K.code.length ≤ 1000000) :
    Calls Try.prog 51 #[.pointer (some ⟨cb, 0, none⟩), .agg x.cells.toArray] w fun e w' => e = .returned (.int .i64 (K.code.length : Nat)) ∧ CPo w cb S cs ats { K with code := K.code ++ [x] } w' := by
  have h1 : x.cells.toArray = #[.int .i64 x.r.op, .int .i64 x.r.x, .int .i64 x.r.y, .slice x.sa x.r.spans.length x.sc, .bool x.r.inv] := rfl
  have HR : Hid (∀ W, Below w.heap.size w W → ∀ x', x' ∈ K.code ++ [x] → RdP W x'.sa x'.r.spans ∧ ∀ a, x'.sa = some a → a.block < W.heap.size ∧ ¬ S a.block) := Lib.hid fun W hb x' hx' => by
    rcases List.mem_append.1 hx' with hx' | hx'
    · exact ⟨(h.sp x' hx').below hb, fun a ha => ⟨Nat.lt_of_lt_of_le (h.nsp x' hx' a ha).1 hb.size, (h.nsp x' hx' a ha).2⟩⟩
    · rw [List.mem_singleton] at hx'; subst hx'
      exact ⟨hsp.below hb, fun a ha => ⟨Nat.lt_of_lt_of_le (hns a ha).1 hb.size, (hns a ha).2⟩⟩
  rw [h1]
  have HC : Hid (cellsL (K.code ++ [x]) = cellsL K.code ++ [.int .i64 x.r.op, .int .i64 x.r.x, .int .i64 x.r.y, .slice x.sa x.r.spans.length x.sc, .bool x.r.inv]) := Lib.hid (by rw [cellsL_append]; simp [cellsL, CI.cells])
  obtain ⟨c0, c1, c2, c3, c4, c5, hf⟩ := h.cells
  have HT := Lib.hid h
  have hlt := lt_of_heap h.blk
  clear h h1 hsp hns
  generalize x.r.op = v0 at *
  generalize x.r.x = v1 at *
  generalize x.r.y = v2 at *
  generalize x.r.inv = v4 at *
  generalize hlen : x.r.spans.length = v3 at *
  generalize x.sa = sa at *
  generalize x.sc = sc at *
  clear hlen
  have HB2 : Hid (Below w.heap.size w (((w.alloc (.cells #[.int .i64 v0, .int .i64 v1, .int .i64 v2, .slice sa v3 sc, .bool v4] 99)).drew).alloc (.cells #[.int .i64 v0, .int .i64 v1, .int .i64 v2, .slice sa v3 sc, .bool v4] 99))) := Lib.hid ((((Below.refl _ w).alloc (Nat.le_refl _) _).drew).alloc (by simp) _)
  have HT2 := Lib.hid (HT.out.below HB2.out)
  have HK : Hid ((((w.alloc (.cells #[.int .i64 v0, .int .i64 v1, .int .i64 v2, .slice sa v3 sc, .bool v4] 99)).drew).alloc (.cells #[.int .i64 v0, .int .i64 v1, .int .i64 v2, .slice sa v3 sc, .bool v4] 99)).heap[w.heap.size + 1]? = some (.cells #[.int .i64 v0, .int .i64 v1, .int .i64 v2, .slice sa v3 sc, .bool v4] 99 (0, 0))) := Lib.hid (by have := heap_alloc_new ((w.alloc (.cells #[.int .i64 v0, .int .i64 v1, .int .i64 v2, .slice sa v3 sc, .bool v4] 99)).drew) (.cells #[.int .i64 v0, .int .i64 v1, .int .i64 v2, .slice sa v3 sc, .bool v4] 99); simpa using this)
  have HONE : Hid (∀ u ∈ (#[.int .i64 v0, .int .i64 v1, .int .i64 v2, .slice sa v3 sc, .bool v4] : Array Value).toList, u.oneCell' = true) := Lib.hid fun u hu => by
    simp only [List.mem_cons, List.not_mem_nil, or_false] at hu
    rcases hu with rfl | rfl | rfl | rfl | rfl <;> rfl
  go_enter Try.func51, Try.ntmps51
  go_wp2
  go_region_law (refine step_gen Try.underlying91 info_inst rfl (by decide) (by decide) rfl _ _ rfl A.cd A.cdC K.code.length (cellsL K.code) #[.int .i64 v0, .int .i64 v1, .int .i64 v2, .slice sa v3 sc, .bool v4] rfl HT2.out.own _ rfl ?c1 rfl ?c2 (by omega) ?_; (case c1 => exact HK.out); (case c2 => exact HONE.out); intro A1 C1 w2 ho hm hl; have HO := Lib.hid ho.out; have HM := Lib.hid hm.out; have HL := Lib.hid hl.out; clear ho hm hl; obtain ⟨d0, d1, d2, d3, d4, d5, df⟩ := HT2.out.keep HM.out)
  all_goals go_wp2
  all_goals go_ret
  all_goals exact ⟨rfl, CPo.recode HT.out HB2.out (snoc_len x K.code) HM.out (by rw [HC.out]; exact HO.out) HL.out (HR.out _ HB2.out)⟩
end Go.Proofs.Ytcajnmhbkjngbaa

/- slices.Insert of one instruction. -/
namespace Go.Proofs.Ytcajnmhbkjngbaa
open Go.RowKit Go.Shelf

theorem Mut.setRow (w : World) (g : Nat) (cs : Array Value) : Mut (· = g) w (w.setRow g cs) :=
  ⟨rfl, rfl, rfl, by simp, fun k _ hk => setRow_other w g k cs hk⟩
/-- copy of elements of so many cells, within rows. -/
theorem run_copy_k (P : Program) (w : World) (dT sT ty elem : TypeId) (size g o dLen dCap : Nat) (a : Addr) (sLen sCap : Nat) (cur : Array Value) (t : TypeId) (cs : List Value)
    (hu : P.underlying dT = some (.slice elem)) (hs : (P.info? elem).map (·.size) = some size)
    (hg : w.heap[g]? = some (.cells cur t (0, 0))) (n : Nat) (hnm : Nat.min sLen dLen = n) (hn : cs.length = n * size)
    (hsrc : ∀ j v, cs[j]? = some v → w.cell? (a.add j) = some v) (hfit : o + cs.length ≤ cur.size) (h1 : ∀ v ∈ cs, v.oneCell' = true) :
    (Builtin.copy_ #[dT, sT] ty #[.slice (some ⟨g, o, none⟩) dLen dCap, .slice (some a) sLen sCap]).run P w =
      .ok (goInt n) (w.setRow g (cur.toList.take o ++ cs ++ cur.toList.drop (o + cs.length)).toArray) := by
  have hl := run_loadCells_list (P := P) w a cs hsrc
  have hst := run_storeCells_at P g o t cs 0 cur w hg (by simpa using hfit) h1
  cases hq : P.info? elem with
  | none => simp [hq] at hs
  | some i =>
    have hi : i.size = size := by simpa [hq] using hs
    simp [Builtin.copy_, run_underlying hu, Builtin.lenOf, Builtin.firstCells, sizeOf, typeInfo, hq, hi, hnm, ← hn, hl, hst]
theorem wpList_copy_is {ops : Array Oper} {rest : List Oper} {o : Oper} {a : Act} {w : World} {Q : Exit → Act → World → Prop} (hgd : o.guard = none) (d s : Operand) (t t' : TypeId)
    (ho : o.op = .call { callee := .builtin .copy, args := #[d, s], argTypes := #[t, t'] }) (v u : Value) (hd : a.eval d = v) (hs : a.eval s = u) {v' : Value} {w' : World}
    (hr : (Builtin.copy_ #[t, t'] o.type #[v, u]).run Try.prog w = .ok v' w') (h : wpList Try.prog ops Q rest (a.put o.dst v') w') : wpList Try.prog ops Q (o :: rest) a w := by
  refine wpList_plain hgd fun K hK => ?_
  unfold Oper.wp execOp
  simp only [ho, resolve, invoke, builtin, Sem.run_bind, Sem.run_pure, Result.andThen_ok, List.map_toArray, List.map_cons, List.map_nil, hd, hs, hr]
  exact hK _ _ h
theorem wpList_append_is {ops : Array Oper} {rest : List Oper} {o : Oper} {a : Act} {w : World} {Q : Exit → Act → World → Prop} (hgd : o.guard = none) (d s : Operand) (t t' : TypeId)
    (ho : o.op = .call { callee := .builtin .append, args := #[d, s], argTypes := #[t, t'] }) (v u : Value) (hd : a.eval d = v) (hs : a.eval s = u) {v' : Value} {w' : World}
    (hr : (Builtin.append_ #[t, t'] o.type #[v, u]).run Try.prog w = .ok v' w') (h : wpList Try.prog ops Q rest (a.put o.dst v') w') : wpList Try.prog ops Q (o :: rest) a w := by
  refine wpList_plain hgd fun K hK => ?_
  unfold Oper.wp execOp
  simp only [ho, resolve, invoke, builtin, Sem.run_bind, Sem.run_pure, Result.andThen_ok, List.map_toArray, List.map_cons, List.map_nil, hd, hs, hr]
  exact hK _ _ h
theorem step_copy_is {ops : Array Oper} {o : Oper} {a : Act} {w : World} {K : Act → World → Prop} {Q : Exit → Act → World → Prop} {E : Prop}
    (hg : o.guard = none) (d x : Operand) (dT sT : TypeId) (hop : o.op = Op.call { callee := Callee.builtin Builtin.copy, args := #[d, x], argTypes := #[dT, sT] })
    (v u : Value) (hd : a.eval d = v) (hx : a.eval x = u) {v' : Value} {w' : World} (hr : (Builtin.copy_ #[dT, sT] o.type #[v, u]).run Try.prog w = .ok v' w') (hK : K (a.put o.dst v') w') :
    if Region.wanted o (yielded ops a.tmps) = true then Oper.wp Try.prog o a w K Q else E := by
  have hw : Region.wanted o (yielded ops a.tmps) = true := by simp [Region.wanted, hg]
  rw [if_pos hw]
  unfold Oper.wp
  simp [execOp, hop, resolve, invoke, builtin, hd, hx, hr, Result.andThen]
  exact hK
theorem ins_list {α : Type} {cur xs vs : List α} {n C i : Nat} (hx : cur.take (n * 5) = xs) (hc : cur.length = C * 5) (hv : vs.length = 5) (hi : i < n) (hroom : n + 1 ≤ C) :
    ((cur.take ((i + 1) * 5) ++ xs.drop (i * 5) ++ cur.drop ((i + 1) * 5 + (xs.drop (i * 5)).length)).take (i * 5) ++ vs ++ (cur.take ((i + 1) * 5) ++ xs.drop (i * 5) ++ cur.drop ((i + 1) * 5 + (xs.drop (i * 5)).length)).drop (i * 5 + vs.length)).take ((n + 1) * 5) = xs.take (i * 5) ++ vs ++ xs.drop (i * 5) := by
  have hxl : xs.length = n * 5 := by rw [← hx, List.length_take, hc]; omega
  have hl1 : (cur.take ((i + 1) * 5)).length = (i + 1) * 5 := by rw [List.length_take, hc]; omega
  have e1 : (cur.take ((i + 1) * 5) ++ xs.drop (i * 5) ++ cur.drop ((i + 1) * 5 + (xs.drop (i * 5)).length)).take (i * 5) = xs.take (i * 5) := by
    rw [List.append_assoc, List.take_append_of_le_length (by omega), List.take_take, ← hx, List.take_take]
    congr 1
    omega
  have e2 : (cur.take ((i + 1) * 5) ++ xs.drop (i * 5) ++ cur.drop ((i + 1) * 5 + (xs.drop (i * 5)).length)).drop (i * 5 + vs.length) = xs.drop (i * 5) ++ cur.drop ((i + 1) * 5 + (xs.drop (i * 5)).length) := by
    rw [List.append_assoc]
    exact List.drop_left' (by rw [hl1, hv]; omega)
  rw [e1, e2, ← List.append_assoc]
  exact List.take_left' (by simp only [List.length_append, List.length_take, List.length_drop, hxl, hv]; omega)
theorem ins_list2 {α : Type} {row xs vs : List α} {n G i : Nat} (hx : row.take (i * 5) = xs.take (i * 5)) (hxl : xs.length = n * 5) (hc : row.length = G * 5) (hv : vs.length = 5) (hi : i < n) (hroom : n + 1 ≤ G) :
    ((row.take (i * 5) ++ vs ++ row.drop (i * 5 + vs.length)).take ((i + 1) * 5) ++ xs.drop (i * 5) ++ (row.take (i * 5) ++ vs ++ row.drop (i * 5 + vs.length)).drop ((i + 1) * 5 + (xs.drop (i * 5)).length)).take ((n + 1) * 5) = xs.take (i * 5) ++ vs ++ xs.drop (i * 5) := by
  have e1 : (row.take (i * 5) ++ vs ++ row.drop (i * 5 + vs.length)).take ((i + 1) * 5) = xs.take (i * 5) ++ vs := by
    rw [hx]
    exact List.take_left' (by simp only [List.length_append, List.length_take, hxl, hv]; omega)
  rw [e1]
  exact List.take_left' (by simp only [List.length_append, List.length_take, List.length_drop, hxl, hv]; omega)
theorem sizeInst : (Try.prog.info? 99).map (·.size) = some 5 := by kernel_rfl
/-- What Insert leaves. -/
def InsPo (w : World) (A : Option Addr) (n : Nat) (ys : List Value) (e : Ending) (w' : World) : Prop := ∃ A1 C1, e = .returned (.slice A1 (n + 1) C1) ∧ w'.ownsRow 0 99 5 (.slice A1 (n + 1) C1) (n + 1) ys ∧ Mut (fun k => ∃ a, A = some a ∧ a.block = k) w w' ∧ ∀ a1, A1 = some a1 → (∃ a, A = some a ∧ a.block = a1.block) ∨ w.heap.size ≤ a1.block
set_option maxHeartbeats 2000000 in
/-- At the end. -/
theorem insert_end {w : World} {A : Option Addr} {C n : Nat} {xs : List Value} (h : w.ownsRow 0 99 5 (.slice A n C) n xs) (hn : n ≤ 1000000) {vb : Nat} {vs : Array Value} (hvb : w.heap[vb]? = some (.cells vs 99 (0, 0))) (hvs : vs.size = 5) (h1 : ∀ u ∈ vs.toList, u.oneCell' = true) :
    Calls Try.prog 101 #[.slice A n C, .int .i64 (n : Nat), .slice (some ⟨vb, 0, none⟩) 1 1] w (InsPo w A n (xs ++ vs.toList)) := by
  have H := Lib.hid h
  obtain ⟨i0, hi0, hz0, hz1, hz2⟩ := info_parts info_inst
  have HI := Lib.hid (And.intro hi0 (And.intro hz0 (And.intro hz1 hz2)))
  have HN := Lib.hid (World.news_of_block hvb)
  have HV := Lib.hid hvs
  have H1 := Lib.hid h1
  clear h hi0 hz0 hz1 hz2 hvb hvs h1
  go_enter Try.func101, Try.ntmps101
  go_wp2_with (at_builtin
               refine wpList_append_own_at _ rfl _ _ 91 rfl 0 99 i0 _ 5 56 Try.underlying91 HI.out.1 HI.out.2.1 HI.out.2.2.1 HI.out.2.2.2 rfl (by decide) (.slice A n C) n xs rfl H.out ⟨vb, 0, none⟩ 1 1 vs.toList rfl (by simpa using HV.out) HN.out H1.out ?c2 ?c3 (Nat.zero_le _) ?_
               case c2 => simp only [maxLen]; omega
               case c3 => omega
               intro v1 w1 ho hg _ hat
               obtain ⟨A1, C1, rfl⟩ := own_slice ho
               have HP : Hid (InsPo w A n (xs ++ vs.toList) (.returned (.slice A1 (n + 1) C1)) w1) := Lib.hid ⟨A1, C1, rfl, ho, Mut.of_grown hg fun k hk => .inl (ownB hk), fun a1 ha1 => by
                 subst ha1
                 rcases hat with h5 | h5
                 · exact .inl (ownB (h5.symm.trans rfl))
                 · have h5 : some a1.block = some w.heap.size := h5
                   injection h5 with h5
                   exact .inr (by omega)⟩
               clear ho hg hat)
  all_goals go_ret
  all_goals exact HP.out
set_option maxRecDepth 100000 in
set_option maxHeartbeats 4000000 in
/-- Within, where there is room. -/
theorem insert_room {w : World} {g C n i : Nat} {xs : List Value} (h : w.ownsRow 0 99 5 (.slice (some ⟨g, 0, none⟩) n C) n xs) (hn : n ≤ 1000000) (hi : i < n) (hroom : n + 1 ≤ C) {vb : Nat} {vs : Array Value} (hvb : w.heap[vb]? = some (.cells vs 99 (0, 0))) (hne : vb ≠ g) (hvs : vs.size = 5) (h1 : ∀ u ∈ vs.toList, u.oneCell' = true) (h2 : ∀ u ∈ xs, u.oneCell' = true) {ys : List Value} (hys : ys = xs.take (i * 5) ++ vs.toList ++ xs.drop (i * 5)) :
    Calls Try.prog 101 #[.slice (some ⟨g, 0, none⟩) n C, .int .i64 (i : Nat), .slice (some ⟨vb, 0, none⟩) 1 1] w (InsPo w (some ⟨g, 0, none⟩) n ys) := by
  have hxl : xs.length = n * 5 := h.1
  obtain ⟨cur, hcur, hcs, hC, htake⟩ : ∃ cur, w.heap[g]? = some (.cells cur 99 (0, 0)) ∧ cur.size = C * 5 ∧ C ≤ maxLen ∧ cur.toList.take (n * 5) = xs := by
    rcases h.2 with ⟨e, _⟩ | ⟨g', cap, cur, e1, _, e3, e4, e5, e6, e7⟩
    · cases e
    · injection e1 with e1 _ e2
      injection e1 with e1
      injection e1 with e1
      subst e1 e2
      exact ⟨cur, e3, e6, e5, e7⟩
  unfold maxLen at hC
  have hsh1 : w.shape? vb = some (99, 5) := by simp [World.shape?, hvb, hvs]
  have hsh2 : w.shape? g = some (99, C * 5) := by simp [World.shape?, hcur, hcs]
  have hov : ∀ lb cb, (callFunc 117 #[.slice (some ⟨vb, 0, none⟩) 1 1, .slice (some ⟨g, (i + 1) * 5, none⟩) lb cb]).run Try.prog w = .ok (.value (.bool false)) w := fun lb cb => by
    rw [run_callFunc_extern Try.func117 (by kernel_rfl) (by kernel_rfl) (by kernel_rfl) (e := Extern.SlicesOverlaps.overlaps #[91, 91] #[4]) (by kernel_rfl),
      Lib.run_overlaps_apart w 91 4 99 Try.underlying91 5 Try.sizeOf99 ⟨vb, 0, none⟩ ⟨g, (i + 1) * 5, none⟩ 1 1 lb cb hne 99 99 5 (C * 5) hsh1 hsh2 (by omega) (frozen_of_heap hvb 0) (frozen_of_heap hvb 5)]
    rfl
  obtain ⟨cur1, hcur1⟩ : ∃ cur1, cur1 = (cur.toList.take ((i + 1) * 5) ++ xs.drop (i * 5) ++ cur.toList.drop ((i + 1) * 5 + (xs.drop (i * 5)).length)).toArray := ⟨_, rfl⟩
  have hdl : (xs.drop (i * 5)).length = (n - i) * 5 := by rw [List.length_drop, hxl]; omega
  have hadd : ∀ (b o j : Nat), (⟨b, o, none⟩ : Addr).add j = ⟨b, o + j, none⟩ := fun b o j => by unfold Addr.add; split <;> simp_all
  have hcp1 : ∀ (W : World), W.heap = w.heap → ∀ ty dc sc, (Builtin.copy_ #[91, 91] ty #[.slice (some ⟨g, (i + 1) * 5, none⟩) (n - i) dc, .slice (some ⟨g, i * 5, none⟩) (n + 1 - i) sc]).run Try.prog W = .ok (goInt ((n - i : Nat) : Int)) (W.setRow g cur1) := fun W hW ty dc sc => by
    have hWg : W.heap[g]? = some (.cells cur 99 (0, 0)) := by rw [hW]; exact hcur
    rw [run_copy_k Try.prog W 91 91 ty 99 5 g ((i + 1) * 5) _ dc ⟨g, i * 5, none⟩ _ sc cur 99 (xs.drop (i * 5)) Try.underlying91 sizeInst hWg (n - i) (by simp only [Nat.min_def]; split <;> omega) hdl (fun j v hj => by
      rw [hadd]
      rw [List.getElem?_drop, ← htake, List.getElem?_take] at hj
      split at hj
      · exact cell_of_heap hWg (by simpa using hj)
      · cases hj) (by rw [hdl, hcs]; omega) (fun v hv => h2 v (List.mem_of_mem_drop hv)), hcur1]
  have hc1s : cur1.size = C * 5 := by
    rw [hcur1]
    simp only [List.size_toArray, List.length_append, List.length_take, List.length_drop, hdl, Array.length_toList, hcs]
    omega
  obtain ⟨cur2, hcur2⟩ : ∃ cur2, cur2 = (cur1.toList.take (i * 5) ++ vs.toList ++ cur1.toList.drop (i * 5 + vs.toList.length)).toArray := ⟨_, rfl⟩
  have hvl : vs.toList.length = 5 := by simpa using hvs
  have hcp2 : ∀ (W : World), W.heap[g]? = some (.cells cur1 99 (0, 0)) → W.heap[vb]? = some (.cells vs 99 (0, 0)) → ∀ ty dc, (Builtin.copy_ #[91, 91] ty #[.slice (some ⟨g, i * 5, none⟩) (n + 1 - i) dc, .slice (some ⟨vb, 0, none⟩) 1 1]).run Try.prog W = .ok (goInt ((1 : Nat) : Int)) (W.setRow g cur2) := fun W hW hV ty dc => by
    rw [run_copy_k Try.prog W 91 91 ty 99 5 g (i * 5) _ dc ⟨vb, 0, none⟩ _ 1 cur1 99 vs.toList Try.underlying91 sizeInst hW 1 (by simp only [Nat.min_def]; split <;> omega) (by omega) (World.news_of_block hV) (by rw [hvl, hc1s]; omega) h1, hcur2]
  have hfin : ∀ (W : World), W.heap[g]? = some (.cells cur1 99 (0, 0)) → Mut (· = g) w W → InsPo w (some ⟨g, 0, none⟩) n ys (.returned (.slice (some ⟨g, 0, none⟩) (n + 1) C)) (W.setRow g cur2) := fun W hW hm => by
    rw [hys]
    refine ⟨some ⟨g, 0, none⟩, C, rfl, ⟨?_, .inr ⟨g, C, cur2, rfl, Nat.zero_le _, setRow_heap W g cur1 _ 99 _ hW, hroom, by unfold maxLen; omega, ?_, ?_⟩⟩, (hm.then (Mut.setRow W g cur2)).mono fun k hk => .inl ⟨_, rfl, hk.symm⟩, fun a1 ha1 => .inl ⟨a1, ha1, rfl⟩⟩
    · simp only [List.length_append, List.length_take, hdl, hvl, hxl]; omega
    · rw [hcur2]
      simp only [List.size_toArray, List.length_append, List.length_take, List.length_drop, hvl, Array.length_toList, hc1s]
      omega
    · rw [hcur2, hcur1]
      exact ins_list htake (by simpa using hcs) hvl hi hroom
  clear htake hcur1 hcur2 hc1s hdl hvl h1 h2 hsh1 hsh2 hxl hcs
  have hz3 : ¬ (C : Int) < (n : Int) + 1 := by omega
  have hz2 : ¬ ((i : Int) = (n : Int)) := by omega
  have hq1 : ¬ (C = i + 1) := by omega
  have hq2 : ¬ (C = i) := by omega
  have hw1 : IntKind.i64.wrap ((i : Int) + 1) = (i : Int) + 1 := by rw [IntKind.wrap_i64]; omega
  have hb1 : (0 : Int) ≤ (i : Int) + 1 := by omega
  have hb3 : (i : Int) ≤ (n : Int) + 1 := by omega
  have htn : ((i : Int) + 1).toNat = i + 1 := by omega
  have mixed : Try.prog.follows .mixedOrders = true := by kernel_rfl
  have hin : i ≤ n := by omega
  have HW1 : Hid ((w.drew.setRow g cur1).heap[g]? = some (.cells cur1 99 (0, 0))) := Lib.hid (setRow_heap w.drew g cur _ 99 _ hcur)
  have HW2 : Hid ((w.drew.setRow g cur1).heap[vb]? = some (.cells vs 99 (0, 0))) := Lib.hid ((setRow_other w.drew g vb cur1 hne).trans hvb)
  have HF : Hid (InsPo w (some ⟨g, 0, none⟩) n ys (.returned (.slice (some ⟨g, 0, none⟩) (n + 1) C)) ((w.drew.setRow g cur1).setRow g cur2)) := Lib.hid (hfin _ HW1.out (((Mut.refl (· = g) w).drewN 1).then (Mut.setRow _ _ _)))
  have hc2' := hcp2 _ HW1.out HW2.out
  have hc1' := hcp1 w.drew rfl
  clear h hvb hcur hys hfin hcp1 hcp2
  go_enter Try.func101, Try.ntmps101
  go_wp2_with (simp only [hov])
  go_region
  go_wp2
  go_ret
  exact HF.out
set_option maxRecDepth 100000 in
set_option maxHeartbeats 4000000 in
/-- Within, where there is no room: a new row. -/
theorem insert_grow {w : World} {g C n i : Nat} {xs : List Value} (h : w.ownsRow 0 99 5 (.slice (some ⟨g, 0, none⟩) n C) n xs) (hn : n ≤ 1000000) (hi : i < n) (hroom : C < n + 1) {vb : Nat} {vs : Array Value} (hvb : w.heap[vb]? = some (.cells vs 99 (0, 0))) (hvs : vs.size = 5) (h1 : ∀ u ∈ vs.toList, u.oneCell' = true) (h2 : ∀ u ∈ xs, u.oneCell' = true) {ys : List Value} (hys : ys = xs.take (i * 5) ++ vs.toList ++ xs.drop (i * 5)) :
    Calls Try.prog 101 #[.slice (some ⟨g, 0, none⟩) n C, .int .i64 (i : Nat), .slice (some ⟨vb, 0, none⟩) 1 1] w (InsPo w (some ⟨g, 0, none⟩) n ys) := by
  have hxl : xs.length = n * 5 := h.1
  obtain ⟨cur, hcur, hcs, hC, hnC, htake⟩ : ∃ cur, w.heap[g]? = some (.cells cur 99 (0, 0)) ∧ cur.size = C * 5 ∧ C ≤ maxLen ∧ n ≤ C ∧ cur.toList.take (n * 5) = xs := by
    rcases h.2 with ⟨e, _⟩ | ⟨g', cap, cur, e1, _, e3, e4, e5, e6, e7⟩
    · cases e
    · injection e1 with e1 _ e2
      injection e1 with e1
      injection e1 with e1
      subst e1 e2
      exact ⟨cur, e3, e6, e5, e4, e7⟩
  unfold maxLen at hC
  obtain ⟨i0, hi0, hz0, hzs, hzb⟩ := info_parts info_inst
  have hadd : ∀ (b o j : Nat), (⟨b, o, none⟩ : Addr).add j = ⟨b, o + j, none⟩ := fun b o j => by unfold Addr.add; split <;> simp_all
  have hsrc : ∀ (W : World), W.heap[g]? = some (.cells cur 99 (0, 0)) → ∀ q j v, (xs.drop q)[j]? = some v → W.cell? ((⟨g, q, none⟩ : Addr).add j) = some v := fun W hW q j v hj => by
    rw [hadd]
    rw [List.getElem?_drop, ← htake, List.getElem?_take] at hj
    split at hj
    · exact cell_of_heap hW (by simpa using hj)
    · cases hj
  have hold : (Builtin.firstCells i0.size i (.slice (some ⟨g, 0, none⟩) i C)).run Try.prog w.drew = .ok (xs.take (i * 5)).toArray w.drew := by
    rw [hzs]
    have hl := run_loadCells_list (P := Try.prog) w.drew ⟨g, 0, none⟩ (xs.take (i * 5)) (fun j v hj => by
      rw [List.getElem?_take] at hj
      split at hj
      · exact hsrc w.drew hcur 0 j v (by simpa using hj)
      · cases hj)
    rw [show (xs.take (i * 5)).length = i * 5 by rw [List.length_take, hxl]; omega] at hl
    simp [Builtin.firstCells, hl]
  have hik : i + (n + 1 - i) = n + 1 := by omega
  have hkk : (n : Int) + 1 - (i : Int) = ((n + 1 - i : Nat) : Int) := by omega
  obtain ⟨G, hG⟩ : ∃ G, G = grownCap w (n + 1) C 99 := ⟨_, rfl⟩
  obtain ⟨Z, hZ⟩ : ∃ Z : Value, Z = .agg #[.int .i64 0, .int .i64 0, .int .i64 0, .slice none 0 0, .bool false] := ⟨_, rfl⟩
  obtain ⟨ROW, hROW⟩ : ∃ ROW : Array Value, ROW = (xs.take (i * 5)).toArray ++ Builtin.zeroCells Z.cells (n + 1 - i) ++ Builtin.zeroCells Z.cells (G - (n + 1)) := ⟨_, rfl⟩
  have hrz : ∀ ty, (Builtin.append_ #[91, 3] ty #[.slice (some ⟨g, 0, none⟩) i C, .int .i64 ((n : Int) + 1 - (i : Int))]).run Try.prog w =
      .ok (.slice (some ⟨w.heap.size, 0, none⟩) (n + 1) G) (w.drew.alloc (.cells ROW 99)) := fun ty => by
    have h := Lib.run_append_grow_zeros w 91 3 ty 99 i0 Z .i64 .i64 Try.underlying91 Try.underlying3 hi0 (by rw [hz0, hZ]) (some ⟨g, 0, none⟩) i C (xs.take (i * 5)) hold (n + 1 - i) (by omega) (by omega) (by omega) (by omega) (by rw [hzb]; omega) (by rw [hzb, hik]; exact growslice_fits hroom (by omega))
    rw [hik, ← hG, ← hROW] at h
    rw [hkk]
    exact h
  have hGn : n + 1 ≤ G := by rw [hG]; exact grownCap_ge w _ _ _
  have hG63 : G ≤ 9223372036854775807 := by
    have := grownCap_le_maxLen w (n + 1) C 99 (by unfold maxLen; omega)
    rw [← hG] at this
    unfold maxLen at this
    omega
  have hRs : ROW.size = G * 5 := by
    rw [hROW]
    simp only [Array.size_append, List.size_toArray, size_zeroCells, List.length_take, hxl]
    have : Z.cells.size = 5 := by rw [hZ]; rfl
    rw [this]
    omega
  have hRt : ROW.toList.take (i * 5) = xs.take (i * 5) := by
    rw [hROW]
    simp only [Array.toList_append, List.append_assoc]
    exact List.take_left' (by rw [List.length_take, hxl]; omega)
  clear hG hROW hZ hold hz0 hzs hzb hi0
  obtain ⟨W1, hW1⟩ : ∃ W1, W1 = w.drew.alloc (.cells ROW 99) := ⟨_, rfl⟩
  rw [← hW1] at hrz
  have hgl := lt_of_heap hcur
  have hW1N : W1.heap[w.heap.size]? = some (.cells ROW 99 (0, 0)) := by rw [hW1]; exact heap_alloc_new w.drew _
  have hm1 : Below w.heap.size w W1 := by rw [hW1]; exact ((Below.refl _ w).drew).alloc (Nat.le_refl _) _
  have hW1o : ∀ k, k < w.heap.size → W1.heap[k]? = w.heap[k]? := fun k hk => hm1.block k hk
  have hvl : vs.toList.length = 5 := by simpa using hvs
  have hdl : (xs.drop (i * 5)).length = (n - i) * 5 := by rw [List.length_drop, hxl]; omega
  obtain ⟨row1, hrow1⟩ : ∃ row1, row1 = (ROW.toList.take (i * 5) ++ vs.toList ++ ROW.toList.drop (i * 5 + vs.toList.length)).toArray := ⟨_, rfl⟩
  obtain ⟨row2, hrow2⟩ : ∃ row2, row2 = (row1.toList.take ((i + 1) * 5) ++ xs.drop (i * 5) ++ row1.toList.drop ((i + 1) * 5 + (xs.drop (i * 5)).length)).toArray := ⟨_, rfl⟩
  have hr1s : row1.size = G * 5 := by
    rw [hrow1]
    simp only [List.size_toArray, List.length_append, List.length_take, List.length_drop, hvl, Array.length_toList, hRs]
    omega
  have hcA : ∀ ty dc, (Builtin.copy_ #[91, 91] ty #[.slice (some ⟨w.heap.size, i * 5, none⟩) (n + 1 - i) dc, .slice (some ⟨vb, 0, none⟩) 1 1]).run Try.prog W1 = .ok (goInt ((1 : Nat) : Int)) (W1.setRow w.heap.size row1) := fun ty dc => by
    rw [run_copy_k Try.prog W1 91 91 ty 99 5 w.heap.size (i * 5) _ dc ⟨vb, 0, none⟩ _ 1 ROW 99 vs.toList Try.underlying91 sizeInst hW1N 1 (by simp only [Nat.min_def]; split <;> omega) (by omega) (World.news_of_block ((hW1o vb (lt_of_heap hvb)).trans hvb)) (by rw [hvl, hRs]; omega) h1, hrow1]
  obtain ⟨W2, hW2⟩ : ∃ W2, W2 = W1.setRow w.heap.size row1 := ⟨_, rfl⟩
  have hW2N : W2.heap[w.heap.size]? = some (.cells row1 99 (0, 0)) := by rw [hW2]; exact setRow_heap W1 _ _ _ 99 _ hW1N
  have hW2g : W2.heap[g]? = some (.cells cur 99 (0, 0)) := by rw [hW2]; exact (setRow_other W1 _ g row1 (by omega)).trans ((hW1o g hgl).trans hcur)
  have hcB : ∀ ty dc sc, (Builtin.copy_ #[91, 91] ty #[.slice (some ⟨w.heap.size, (i + 1) * 5, none⟩) (n - i) dc, .slice (some ⟨g, i * 5, none⟩) (n - i) sc]).run Try.prog W2.drew = .ok (goInt ((n - i : Nat) : Int)) (W2.drew.setRow w.heap.size row2) := fun ty dc sc => by
    rw [run_copy_k Try.prog W2.drew 91 91 ty 99 5 w.heap.size ((i + 1) * 5) _ dc ⟨g, i * 5, none⟩ _ sc row1 99 (xs.drop (i * 5)) Try.underlying91 sizeInst hW2N (n - i) (by simp only [Nat.min_def]; split <;> omega) hdl (hsrc W2.drew hW2g (i * 5)) (by rw [hdl, hr1s]; omega) (fun v hv => h2 v (List.mem_of_mem_drop hv)), hrow2]
  have HF : Hid (InsPo w (some ⟨g, 0, none⟩) n ys (.returned (.slice (some ⟨w.heap.size, 0, none⟩) (n + 1) G)) (W2.drew.setRow w.heap.size row2)) := Lib.hid (by
    have hm2 : Mut (· = w.heap.size) W1 W2 := by rw [hW2]; exact Mut.setRow _ _ _
    have hm3 : Mut (· = w.heap.size) W2 (W2.drew.setRow w.heap.size row2) := ((Mut.refl _ W2).drewN 1).then (Mut.setRow _ _ _)
    rw [hys]
    refine ⟨some ⟨w.heap.size, 0, none⟩, G, rfl, ⟨?_, .inr ⟨w.heap.size, G, row2, rfl, Nat.zero_le _, setRow_heap W2.drew _ row1 _ 99 _ hW2N, hGn, by unfold maxLen; omega, ?_, ?_⟩⟩, (Mut.of_below hm1).trans (hm2.then hm3) fun k hk => .inr (Nat.le_of_eq hk.symm), fun a1 ha1 => .inr (by injection ha1 with ha1; subst ha1; exact Nat.le_refl _)⟩
    · simp only [List.length_append, List.length_take, hdl, hvl, hxl]; omega
    · rw [hrow2]
      simp only [List.size_toArray, List.length_append, List.length_take, List.length_drop, hxl, Array.length_toList, hr1s]
      omega
    · rw [hrow2, hrow1]
      exact ins_list2 hRt hxl (by simpa using hRs) hvl hi hGn)
  rw [← hW2] at hcA
  clear hm1 htake hrow1 hrow2 hr1s hdl hvl h1 h2 hxl hcs h hvb hcur hys hW1N hW2N hW2g hW1o hRt hRs hsrc hW1 hW2 hvs
  have hz3 : (C : Int) < (n : Int) + 1 := by omega
  have hz2 : ¬ ((i : Int) = (n : Int)) := by omega
  have hq1 : ¬ (G = i + 1) := by omega
  have hq2 : ¬ (G = i) := by omega
  have hq3 : ¬ (C = i) := by omega
  have hw1 : IntKind.i64.wrap ((i : Int) + 1) = (i : Int) + 1 := by rw [IntKind.wrap_i64]; omega
  have hb1 : (0 : Int) ≤ (i : Int) + 1 := by omega
  have hb3 : (i : Int) ≤ (n : Int) + 1 := by omega
  have htn : ((i : Int) + 1).toNat = i + 1 := by omega
  have hin : i ≤ n := by omega
  have hiC : i ≤ C := by omega
  clear hkk hik
  go_enter Try.func101, Try.ntmps101
  have HRZ := Lib.hid hrz
  clear hrz
  go_wp2_with (at_builtin; refine wpList_append_is rfl _ _ 91 3 rfl _ _ rfl rfl (HRZ.out _) ?_)
  go_region
  go_wp2
  go_ret
  exact HF.out
/-- An instruction is inserted into a row of the call's own. -/
theorem insert_any {w : World} {A : Option Addr} {C n i : Nat} {xs : List Value} (h : w.ownsRow 0 99 5 (.slice A n C) n xs) (hn : n ≤ 1000000) (hi : i ≤ n) {vb : Nat} {vs : Array Value} (hvb : w.heap[vb]? = some (.cells vs 99 (0, 0))) (hne : ∀ a, A = some a → vb ≠ a.block) (hvs : vs.size = 5) (h1 : ∀ u ∈ vs.toList, u.oneCell' = true) (h2 : ∀ u ∈ xs, u.oneCell' = true) {ys : List Value} (hys : ys = xs.take (i * 5) ++ vs.toList ++ xs.drop (i * 5)) :
    Calls Try.prog 101 #[.slice A n C, .int .i64 (i : Nat), .slice (some ⟨vb, 0, none⟩) 1 1] w (InsPo w A n ys) := by
  by_cases hin : i = n
  · subst hin
    have hxl : xs.length = i * 5 := h.1
    rw [hys, List.take_of_length_le (by omega), List.drop_of_length_le (by omega), List.append_nil]
    exact insert_end h hn hvb hvs h1
  · obtain ⟨g, rfl⟩ : ∃ g, A = some ⟨g, 0, none⟩ := by
      rcases h.2 with ⟨_, e⟩ | ⟨g', cap, cur, e1, _⟩
      · omega
      · injection e1 with e1
        exact ⟨g', e1⟩
    by_cases hroom : n + 1 ≤ C
    · exact insert_room h hn (by omega) hroom hvb (hne _ rfl) hvs h1 h2 hys
    · exact insert_grow h hn (by omega) (by omega) hvb hvs h1 h2 hys
end Go.Proofs.Ytcajnmhbkjngbaa

/- The compiler's insert. -/
namespace Go.Proofs.Ytcajnmhbkjngbaa
open Go.RowKit Go.Shelf
variable {w w' : World} {cb : Nat} {A : CA} {S : Nat → Prop} {cs : List Int} {ats : AT} {K : CS}

def bumpC (f : Nat) (x : CI) : CI := { x with r := bump f x.r }
/-- While the instructions behind an inserted one move. -/
def bumpTo (c : List CI) (f : Nat) (x : CI) (k : Nat) : List CI := c.take f ++ x :: (((c.drop f).take k).map (bumpC f) ++ (c.drop f).drop k)
def insC (c : List CI) (f : Nat) (x : CI) : List CI := c.take f ++ x :: (c.drop f).map (bumpC f)
theorem riL_insC (c : List CI) (f : Nat) (x : CI) : riL (insC c f x) = insR (riL c) f x.r := by
  unfold riL insC insR
  simp only [List.map_append, List.map_cons, List.map_map, List.map_take, List.map_drop]
  rfl
theorem bumpTo_zero (c : List CI) (f : Nat) (x : CI) : bumpTo c f x 0 = c.take f ++ x :: c.drop f := by simp [bumpTo]
theorem bumpTo_all (c : List CI) (f : Nat) (x : CI) {k : Nat} (hk : (c.drop f).length ≤ k) : bumpTo c f x k = insC c f x := by
  unfold bumpTo insC
  rw [List.take_of_length_le hk, List.drop_of_length_le hk, List.append_nil]
theorem len_bumpTo {c : List CI} {f : Nat} {x : CI} {k : Nat} (hf : f ≤ c.length) (hk : k ≤ c.length - f) : (bumpTo c f x k).length = c.length + 1 := by
  simp only [bumpTo, List.length_append, List.length_cons, List.length_map, List.length_take, List.length_drop]
  omega
theorem get_bumpTo {c : List CI} {f : Nat} {x : CI} {k : Nat} (hf : f ≤ c.length) (hk : k < c.length - f) : (bumpTo c f x k)[f + 1 + k]? = c[f + k]? := by
  unfold bumpTo
  rw [List.getElem?_append_right (by rw [List.length_take]; omega), List.length_take, Nat.min_eq_left hf, show f + 1 + k - f = k + 1 by omega, List.getElem?_cons_succ, List.getElem?_append_right (by rw [List.length_map, List.length_take, List.length_drop]; omega), List.length_map, List.length_take, List.length_drop, Nat.min_eq_left (by omega), Nat.sub_self, List.getElem?_drop, List.getElem?_drop]
  rfl
theorem set_bumpTo {c : List CI} {f : Nat} {x : CI} {k : Nat} {z : CI} (hf : f ≤ c.length) (hz : c[f + k]? = some z) : (bumpTo c f x k).set (f + 1 + k) (bumpC f z) = bumpTo c f x (k + 1) := by
  have hk := (List.getElem?_eq_some_iff.1 hz).1
  have hd : (c.drop f)[k]? = some z := by rw [List.getElem?_drop]; exact hz
  have hkl : k < (c.drop f).length := (List.getElem?_eq_some_iff.1 hd).1
  have hdk : (c.drop f)[k] = z := (List.getElem?_eq_some_iff.1 hd).2
  unfold bumpTo
  rw [List.set_append_right _ _ (by rw [List.length_take]; omega), List.length_take, Nat.min_eq_left hf, show f + 1 + k - f = k + 1 by omega, List.set_cons_succ, List.set_append_right _ _ (by rw [List.length_map, List.length_take]; omega), List.length_map, List.length_take, Nat.min_eq_left (by omega), Nat.sub_self]
  congr 2
  rw [List.take_succ_eq_append_getElem hkl, List.map_append, List.append_assoc, hdk]
  congr 1
  rw [List.drop_eq_getElem_cons hkl, hdk]
  rfl
theorem cellsL_drop (c : List CI) (k : Nat) : (cellsL c).drop (k * 5) = cellsL (c.drop k) := by
  have h1 := List.take_append_drop k c
  have h2 : cellsL c = cellsL (c.take k) ++ cellsL (c.drop k) := by rw [← cellsL_append, h1]
  by_cases hk : k ≤ c.length
  · rw [h2]
    exact List.drop_left' (by rw [cellsL_len, List.length_take, Nat.min_eq_left hk])
  · rw [List.drop_of_length_le (by rw [cellsL_len]; omega), List.drop_of_length_le (by omega)]
    rfl
theorem cellsL_ins (c : List CI) (f : Nat) (x : CI) : cellsL (c.take f ++ x :: c.drop f) = (cellsL c).take (f * 5) ++ x.cells.toArray.toList ++ (cellsL c).drop (f * 5) := by
  rw [cellsL_take, cellsL_drop, cellsL_append]
  simp [cellsL]
theorem cellsL_one (c : List CI) : ∀ u ∈ cellsL c, u.oneCell' = true := fun u hu => by
  obtain ⟨x, _, hx⟩ := List.mem_flatMap.1 hu
  exact x.one u hx
/-- Numbers within the code. -/
def NBd (c : List CI) (n : Nat) : Prop := ∀ z ∈ c, 0 ≤ z.r.x ∧ z.r.x ≤ n ∧ 0 ≤ z.r.y ∧ z.r.y ≤ n
theorem NBd.bump {c : List CI} {n f : Nat} (h : NBd c n) : NBd (c.map (bumpC f)) (n + 1) := fun z hz => by
  obtain ⟨y, hy, rfl⟩ := List.mem_map.1 hz
  have := h y hy
  show 0 ≤ (if (f : Int) ≤ y.r.x then y.r.x + 1 else y.r.x) ∧ (if (f : Int) ≤ y.r.x then y.r.x + 1 else y.r.x) ≤ ((n + 1 : Nat) : Int) ∧ 0 ≤ (if (f : Int) ≤ y.r.y then y.r.y + 1 else y.r.y) ∧ (if (f : Int) ≤ y.r.y then y.r.y + 1 else y.r.y) ≤ ((n + 1 : Nat) : Int)
  refine ⟨?_, ?_, ?_, ?_⟩ <;> split <;> omega
theorem NBd.mono {c : List CI} {n m : Nat} (h : NBd c n) (hm : n ≤ m) : NBd c m := fun z hz => by have := h z hz; omega
theorem NBd.ins {c : List CI} {n f : Nat} {x : CI} (h : NBd c n) (hx : 0 ≤ x.r.x ∧ x.r.x ≤ n + 1 ∧ 0 ≤ x.r.y ∧ x.r.y ≤ n + 1) : NBd (insC c f x) (n + 1) := fun z hz => by
  unfold insC at hz
  rcases List.mem_append.1 hz with hz | hz
  · have := h z (List.mem_of_mem_take hz); omega
  · rcases List.mem_cons.1 hz with rfl | hz
    · omega
    · exact NBd.bump (fun y hy => h y (List.mem_of_mem_drop hy)) z hz
/-- The first part of insert: the instruction is laid in. -/
theorem CPo.laid (h : CpAt w cb A S cs ats K) {W : World} (hb : Below w.heap.size w W) (x : CI) (f : Nat) (hf : f ≤ K.code.length) (hsp : ∀ a, x.sa = some a → a.block < w.heap.size ∧ ¬ S a.block) (hrd : RdP w x.sa x.r.spans) {e : Ending} {w2 : World} (hp : InsPo W A.cd K.code.length (cellsL (K.code.take f ++ x :: K.code.drop f)) e w2) :
    ∃ A1 C1, e = .returned (.slice A1 (K.code.length + 1) C1) ∧ CCells w2 cb A cs.length ats K ∧ CPo w cb S cs ats { K with code := K.code.take f ++ x :: K.code.drop f } (w2.setCell ⟨cb, 5, none⟩ (.slice A1 (K.code.length + 1) C1)) := by
  obtain ⟨A1, C1, rfl, ho, hm, hl⟩ := hp
  refine ⟨A1, C1, rfl, (h.below hb).keep hm, CPo.recode h hb (by simp; omega) hm ho hl fun y hy => ?_⟩
  have hy2 : y ∈ K.code ∨ y = x := by
    rcases List.mem_append.1 hy with hy | hy
    · exact .inl (List.mem_of_mem_take hy)
    · rcases List.mem_cons.1 hy with rfl | hy
      · exact .inr rfl
      · exact .inl (List.mem_of_mem_drop hy)
  rcases hy2 with hy2 | rfl
  · exact ⟨(h.sp y hy2).below hb, fun a ha => ⟨Nat.lt_of_lt_of_le (h.nsp y hy2 a ha).1 hb.size, (h.nsp y hy2 a ha).2⟩⟩
  · exact ⟨hrd.below hb, fun a ha => ⟨Nat.lt_of_lt_of_le (hsp a ha).1 hb.size, (hsp a ha).2⟩⟩
/-- What a round of the loop writes. -/
def stB (w : World) (g o f : Nat) (z : CI) : World :=
  if (f : Int) ≤ z.r.y then (if (f : Int) ≤ z.r.x then w.setCell ⟨g, o + 1, none⟩ (.int .i64 (z.r.x + 1)) else w).setCell ⟨g, o + 2, none⟩ (.int .i64 (z.r.y + 1)) else (if (f : Int) ≤ z.r.x then w.setCell ⟨g, o + 1, none⟩ (.int .i64 (z.r.x + 1)) else w)
theorem CpAt.bumpAt {c : List CI} {f k : Nat} {x z : CI} {K' : CS} (hK' : K' = { K with code := bumpTo c f x k }) (h : CpAt w cb A S cs ats K') (hf : f ≤ c.length) (hz : c[f + k]? = some z) :
    ∃ g, A.cd = some ⟨g, 0, none⟩ ∧ g ≠ cb ∧ g < w.heap.size ∧ w.cell? ⟨g, (f + 1 + k) * 5 + 1, none⟩ = some (.int .i64 z.r.x) ∧ w.cell? ⟨g, (f + 1 + k) * 5 + 2, none⟩ = some (.int .i64 z.r.y) ∧ w.frozen? ⟨g, (f + 1 + k) * 5 + 1, none⟩ = false ∧ w.frozen? ⟨g, (f + 1 + k) * 5 + 2, none⟩ = false ∧
      CpAt (stB w g ((f + 1 + k) * 5) f z) cb A S cs ats { K with code := bumpTo c f x (k + 1) } ∧ Mut S w (stB w g ((f + 1 + k) * 5) f z) := by
  subst hK'
  have hk := (List.getElem?_eq_some_iff.1 hz).1
  have hzz : (bumpTo c f x k)[f + 1 + k]? = some z := (get_bumpTo hf (by omega)).trans hz
  have hset := set_bumpTo (x := x) hf hz
  have hlt := (List.getElem?_eq_some_iff.1 hzz).1
  obtain ⟨g, hA, hg, hc1, hf1, hu1⟩ := h.upd (j := 1) (v := .int .i64 (z.r.x + 1)) { z with r := { z.r with x := z.r.x + 1 } } hzz (by omega) rfl rfl rfl
  obtain ⟨g', hA', _, hc2, hf2, hu2⟩ := h.upd (j := 2) (v := .int .i64 (z.r.y + 1)) { z with r := { z.r with y := z.r.y + 1 } } hzz (by omega) rfl rfl rfl
  have e : g' = g := by rw [hA] at hA'; injection hA' with hA'; injection hA' with hA'; exact hA'.symm
  subst e
  obtain ⟨cur, hcur, _⟩ := h.row _ hA
  refine ⟨g', hA, ne_ty hcur h.blk (by decide), hg, hc1, hc2, hf1, hf2, ?_, ?_⟩
  · unfold stB
    rw [← hset]
    by_cases h1 : (f : Int) ≤ z.r.x
    · by_cases h2 : (f : Int) ≤ z.r.y
      · rw [if_pos h2, if_pos h1]
        have hz1 : ((bumpTo c f x k).set (f + 1 + k) { z with r := { z.r with x := z.r.x + 1 } })[f + 1 + k]? = some { z with r := { z.r with x := z.r.x + 1 } } := by rw [List.getElem?_set, if_pos rfl, if_pos hlt]
        obtain ⟨g3, hA3, _, _, _, hu3⟩ := hu1.upd (j := 2) (v := .int .i64 (z.r.y + 1)) (bumpC f z) hz1 (by omega) (by simp [bumpC, bump, CI.cells, if_pos h1, if_pos h2]) rfl rfl
        have e : g3 = g' := by rw [hA] at hA3; injection hA3 with hA3; injection hA3 with hA3; exact hA3.symm
        subst e
        rw [List.set_set] at hu3
        exact hu3
      · rw [if_neg h2, if_pos h1]
        have e : bumpC f z = { z with r := { z.r with x := z.r.x + 1 } } := by simp [bumpC, bump, if_pos h1, if_neg h2]
        rw [e]; exact hu1
    · by_cases h2 : (f : Int) ≤ z.r.y
      · rw [if_pos h2, if_neg h1]
        have e : bumpC f z = { z with r := { z.r with y := z.r.y + 1 } } := by simp [bumpC, bump, if_neg h1, if_pos h2]
        rw [e]; exact hu2
      · rw [if_neg h2, if_neg h1]
        have e : bumpC f z = z := by simp [bumpC, bump, if_neg h1, if_neg h2]
        have e2 : (bumpTo c f x k).set (f + 1 + k) z = bumpTo c f x k := by
          obtain ⟨hl, he⟩ := List.getElem?_eq_some_iff.1 hzz
          conv => rhs; rw [← List.set_getElem_self hl, he]
        rw [e, e2]
        exact h
  · unfold stB
    have hS := h.Sc _ hA
    by_cases h1 : (f : Int) ≤ z.r.x
    · by_cases h2 : (f : Int) ≤ z.r.y
      · rw [if_pos h2, if_pos h1]; exact (Mut.setCell _ _ _ _ hS).then (Mut.setCell _ _ _ _ hS)
      · rw [if_neg h2, if_pos h1]; exact Mut.setCell _ _ _ _ hS
    · by_cases h2 : (f : Int) ≤ z.r.y
      · rw [if_pos h2, if_neg h1]; exact Mut.setCell _ _ _ _ hS
      · rw [if_neg h2, if_neg h1]; exact Mut.refl _ _
end Go.Proofs.Ytcajnmhbkjngbaa

