/- Maps as lists: a deletion; the operation in a fenced walk. -/
import Derived.Test.YtodfpclekihbhaaH0
import Derived.OwnWalkIn
import Derived.Maps.OwnIn
import Derived.Maps.OwnSet
import Derived.Lib.Hide
namespace Go.Proofs.Ytodfpclekihbhaa.Mp
open Go.MapKept

variable {κ α : Type} [DecidableEq κ]
theorem map_erase {β γ : Type} (f : β → γ) (l : List β) (j : Nat) : (l.eraseIdx j).map f = (l.map f).eraseIdx j := by
  induction l generalizing j with
  | nil => rfl
  | cons x l ih =>
    cases j with
    | zero => rfl
    | succ j => simp only [List.eraseIdx_cons_succ, List.map_cons, ih]
theorem del_none {L : List (κ × α)} {x : κ} (h : get L x = none) : del L x = L := by
  unfold del
  rw [List.filter_eq_self]
  intro p hp
  simpa using (get_none_iff L x).1 h p hp
theorem del_erase {L : List (κ × α)} (hn : (L.map (·.1)).Nodup) {j : Nat} {x : κ} {a : α} (h : L[j]? = some (x, a)) : del L x = L.eraseIdx j := by
  induction L generalizing j with
  | nil => cases h
  | cons p L ih =>
    simp only [List.map_cons, List.nodup_cons, List.mem_map, not_exists, not_and] at hn
    cases j with
    | zero =>
      simp only [List.getElem?_cons_zero, Option.some.injEq] at h
      subst h
      have e1 : del ((x, a) :: L) x = del L x := by simp [del]
      rw [e1, List.eraseIdx_cons_zero]
      exact del_none ((get_none_iff L x).2 fun q hq => hn.1 q hq)
    | succ j =>
      simp only [List.getElem?_cons_succ] at h
      have hne : ¬ p.1 = x := fun e => hn.1 (x, a) (List.mem_of_getElem? h) e.symm
      have e1 : del (p :: L) x = p :: del L x := by simp [del, hne]
      rw [e1, List.eraseIdx_cons_succ, ih hn.2 h]
variable {w : World} {b : Nat} {K : κ → Value} {V : α → Value} {L : List (κ × α)} {P : Program} {t k e : TypeId} {d : TypeDesc}
/-- A deletion. -/
theorem MapIs.delete (h : MapIs w b K V L) (ht : P.underlying t = some (.map k e)) (hk : P.underlying k = some d) (hK : ∀ x, IsKey d (K x)) (hi : ∀ x y, K x = K y → x = y) (x : κ) (ty : TypeId) :
    ∃ o, (Builtin.delete_ #[t, k] ty #[.map (some b), K x]).run P w = .ok (.tuple #[]) (setB w b o) ∧ MapIs (setB w b o) b K V (del L x) := by
  have hn := h.nodup
  obtain ⟨es, clk, hb, hs, hm, hks, ⟨h1, h2, h3⟩ | ⟨j, a0, h1, h2, h3, en, h4, h5⟩⟩ := h.find hK hi x
  · refine ⟨.map es clk, ?_, es, clk, (heap_set hb).1, hs, by rw [del_none h2]; exact hm⟩
    simp [Builtin.delete_, run_underlying ht, MapKept.run_getObj_map hb, MapKept.run_checkKey hk (hK x), MapKept.run_findKey hk h1, MapKept.run_setObj_map _ hb, Result.andThen, setB]
  · refine ⟨.map (es.eraseIdxIfInBounds j) clk, ?_, _, clk, (heap_set hb).1, stamped_erase hs _, ?_⟩
    · simp [Builtin.delete_, run_underlying ht, MapKept.run_getObj_map hb, MapKept.run_checkKey hk (hK x), MapKept.run_findKey hk h1, MapKept.run_setObj_map _ hb, Result.andThen, setB]
    · have hj : j < es.size := (Array.getElem?_eq_some_iff.1 h4).1
      rw [del_erase hn h3, Array.eraseIdxIfInBounds, dif_pos hj, Array.toList_eraseIdx]
      rw [map_erase, map_erase, hm]
/-- A deletion, in a fenced walk. -/
theorem wpListIn_delete_map {F : Fence} {nF : Nat} {ops : Array Oper} {rest : List Oper} {o : Oper} {a : Act} {Q : Exit → Act → World → Prop} (hg : o.guard = none) (m x : Operand)
    (hop : o.op = Op.call { callee := Callee.builtin Builtin.delete, args := #[m, x], argTypes := #[t, k] })
    (h : MapIs w b K V L) (ht : P.underlying t = some (.map k e)) (hk : P.underlying k = some d) (hK : ∀ x, IsKey d (K x)) (hi : ∀ x y, K x = K y → x = y) (y : κ) (hm : a.eval m = .map (some b)) (hx : a.eval x = K y)
    (hQ : ∀ w', Go.RowKit.Hid (MapIs w' b K V (del L y)) → Go.RowKit.Hid (Mut (· = b) w w') → wpListIn F nF P ops Q rest (a.put o.dst (.tuple #[])) w') :
    wpListIn F nF P ops Q (o :: rest) a w := by
  refine wpListIn_plain hg fun K' hK' => ?_
  obtain ⟨o', hrun, r1⟩ := h.delete ht hk hK hi y o.type
  unfold Oper.wpIn
  refine ⟨by simp [Oper.about, hop, resolve, Target.leads, Sem.run_pure], ?_⟩
  rw [Oper.semAt_plain F _ _ (by rw [hop]; intro c hc'; cases hc')]
  simp [execOp, hop, resolve, invoke, builtin, hm, hx, hrun, Result.andThen]
  exact hK' _ _ (hQ _ (Go.Lib.hid r1) (Go.Lib.hid (Mut.setB w b o' rfl)))
end Go.Proofs.Ytodfpclekihbhaa.Mp
