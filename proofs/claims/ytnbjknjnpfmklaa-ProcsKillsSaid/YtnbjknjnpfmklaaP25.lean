/- An invariant of the table, in plain Lean. -/
import Derived.Test.YtnbjknjnpfmklaaP24
namespace Go.Proofs.Ytnbjknjnpfmklaa
open Go.RowKit

structure Good (T : Tb) : Prop where
  last : T.last = (T.P.length : Int)
  pid : ∀ (j : Nat) (h : j < T.P.length), (T.P[j]'h).pid = (j : Int) + 1
  nd : T.ready.Nodup
  rin : ∀ x ∈ T.ready, 1 ≤ x ∧ x ≤ (T.P.length : Int)
  cnr : T.cur ∉ T.ready
  cin : T.cur = 0 ∨ (1 ≤ T.cur ∧ T.cur ≤ (T.P.length : Int))
theorem Good.new (q : Int) (s : List Int) : Good (newT q s) :=
  ⟨rfl, fun j h => absurd h (Nat.not_lt_zero _), List.nodup_nil, (fun x h => by cases h), (fun h => by cases h), .inl rfl⟩
theorem setP_pid (P : List Pr) (x : Int) (f : Pr → Pr) (hf : ∀ p, (f p).pid = p.pid) (j : Nat) (h : j < (setP P x f).length) : ((setP P x f)[j]'h).pid = (P[j]'(by simpa [setP] using h)).pid := by
  show ((P.modify (x - 1).toNat f)[j]'(by simpa [setP] using h)).pid = _
  rw [List.getElem_modify]
  split
  · rw [hf]
  · rfl
theorem Good.setP {T : Tb} (g : Good T) (x : Int) (f : Pr → Pr) (hf : ∀ p, (f p).pid = p.pid) : Good { T with P := setP T.P x f } where
  last := by rw [len_setP]; exact g.last
  pid := fun j h => by rw [setP_pid _ _ _ hf]; exact g.pid j _
  nd := g.nd
  rin := fun y hy => by rw [len_setP]; exact g.rin y hy
  cnr := g.cnr
  cin := by rw [len_setP]; exact g.cin
theorem Good.off {T : Tb} (g : Good T) : Good (overT T) := ⟨g.last, g.pid, g.nd, g.rin, fun h => by have := (g.rin _ h).1; simp [overT] at this, .inl rfl⟩
theorem Good.curOk {T : Tb} (g : Good T) : CurOk T := fun h => by
  rcases g.cin with h0 | ⟨h1, h2⟩
  · exact absurd h0 h
  · unfold prAt
    rw [if_pos h1, List.getElem?_eq_getElem (by omega)]
    exact ⟨_, rfl⟩
theorem Good.choose {T : Tb} (g : Good T) (n : Int) : Good (chooseT T n) := by
  unfold chooseT
  split
  · exact g
  · exact ⟨g.last, g.pid, g.nd, g.rin, g.cnr, g.cin⟩
theorem Good.push {T : Tb} (g : Good T) (x : Int) (h1 : 1 ≤ x ∧ x ≤ (T.P.length : Int)) (h2 : x ∉ T.ready) (h3 : x ≠ T.cur) : Good { T with ready := T.ready ++ [x] } where
  last := g.last
  pid := g.pid
  nd := List.nodup_append.2 ⟨g.nd, by simp, fun a ha b hb e => by simp at hb; subst hb; exact h2 (e ▸ ha)⟩
  rin := fun y hy => by
    rcases List.mem_append.1 hy with h | h
    · exact g.rin y h
    · simp at h; subst h; exact h1
  cnr := fun h => by
    rcases List.mem_append.1 h with h | h
    · exact g.cnr h
    · simp at h; exact h3 h.symm
  cin := g.cin
theorem Good.drop {T : Tb} (g : Good T) (i : Nat) : Good { T with ready := T.ready.eraseIdx i } :=
  ⟨g.last, g.pid, g.nd.sublist (List.eraseIdx_sublist _ _), fun y hy => g.rin y ((List.eraseIdx_sublist _ _).subset hy), fun h => g.cnr ((List.eraseIdx_sublist _ _).subset h), g.cin⟩
theorem Good.turned {T : Tb} (g : Good T) (a b : Int) : Good (turnedT T a b) := by
  unfold turnedT
  split
  · exact g.setP _ _ fun _ => rfl
  · exact g
theorem Good.ends {T : Tb} (g : Good T) (st : Int) (why : ByteArray) : Good (endsT T st why) := by
  unfold endsT
  split
  · exact g
  · exact (g.setP T.cur (fun p => { p with state := st, why := why }) fun _ => rfl).off
theorem Good.wait {T : Tb} (g : Good T) (st : Int) : Good (waitT T st) := by
  unfold waitT
  split
  · exact (g.setP T.cur (fun p => { p with state := st, why := ⟨#[]⟩ }) fun _ => rfl).off
  · exact g
theorem Good.kill1 {T : Tb} (g : Good T) (id : Int) : Good (kill1 T id) := by
  have h1 : Good (endP T id) := g.setP _ _ fun _ => rfl
  have h2 : Good (offT (endP T id) id) := by unfold offT; split; exact h1.off; exact h1
  have h3 : (offT (endP T id) id).ready = T.ready := by unfold offT; split <;> rfl
  unfold Proofs.Ytnbjknjnpfmklaa.kill1 dropI
  rw [← h3]
  split
  · exact h2.drop _
  · exact h2
theorem Good.kill {T : Tb} (g : Good T) (pid : Int) (grp : Bool) (j : Nat) : Good (killS T pid grp j).1 := by
  induction j with
  | zero => exact g
  | succ j ih =>
    unfold killS
    split
    · exact ih.kill1 _
    · exact ih
end Go.Proofs.Ytnbjknjnpfmklaa
