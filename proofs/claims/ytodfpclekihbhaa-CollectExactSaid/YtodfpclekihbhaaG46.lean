/- The acts of a law's argument, opened; cuts too. -/
import Derived.Test.YtodfpclekihbhaaG44
import Derived.Test.YtodfpclekihbhaaG23
namespace Go.Proofs.Ytodfpclekihbhaa
set_option maxRecDepth 100000
open Go.RowKit Go.Deep Go.ChangeShapes Go.WideShapes

section
variable {H : Type} {enc : TypeId × Value → H} {W : World} {sp : Nat → Bool} {held : Bool}
theorem cellsAct : Try.prog.cellsOf 90 = 12 := by kernel_rfl
theorem act_open {n : Nat} {cs : List Value} {y : DataW H × List MemPlace} (h : DataW.trod enc Try.prog W 0 sp held n 90 cs = some y) : ∃ m : ActM, OpRd W m.op ∧ cs[0]? = some (.int .i64 m.op.k) ∧ cs[1]? = some (.int .i64 m.op.r) ∧ cs[2]? = some (.int .i64 m.op.x) ∧ cs[3]? = some (.int .i64 m.op.a) ∧ cs[4]? = some (.int .i64 m.op.b) ∧ cs[5]? = some (.string m.op.tx) ∧ cs[6]? = some (.int .i64 m.op.cls) ∧ cs[7]? = some (.slice m.op.ra m.op.refs.length m.op.rC) ∧ cs[8]? = some (.slice m.op.wa m.op.words.length m.op.wC) ∧ cs[9]? = some (.bool m.op.on) ∧ cs[10]? = some (.bool m.beg) ∧ cs[11]? = some (.int .i64 m.units) := by
  obtain ⟨xs, m, _, _, hl, hlen, hf⟩ := DataW.trod_struct Try.underlying90 h
  have g : ∀ (i : Nat) (f : Field), i < 3 → (_ : Array Field)[i]? = some f → ∃ y, DataW.trod enc Try.prog W 0 sp held m f.type ((cs.drop f.offset).take (Try.prog.cellsOf f.type)) = some y := fun i f hi hfi =>
    ⟨xs[i]'(by rw [hlen]; exact hi), by rw [hf i f hfi, List.getElem?_eq_getElem]⟩
  obtain ⟨_, h0⟩ := g 0 _ (by decide) rfl
  obtain ⟨_, h1⟩ := g 1 _ (by decide) rfl
  obtain ⟨_, h2⟩ := g 2 _ (by decide) rfl
  obtain ⟨op, hr, e0, e1, e2, e3, e4, e5, e6, e7, e8, e9⟩ := op_open h0
  obtain ⟨beg, e10⟩ := f_bool h1
  obtain ⟨u, e11⟩ := f_int Try.underlying3 cells3 h2
  have t : ∀ i, i < 10 → ((cs.drop 0).take (Try.prog.cellsOf 76))[i]? = cs[i]? := fun i hi => by rw [cellsOp, take_in hi, Nat.zero_add]
  exact ⟨⟨op, beg, u⟩, hr, (t 0 (by decide)).symm.trans e0, (t 1 (by decide)).symm.trans e1, (t 2 (by decide)).symm.trans e2, (t 3 (by decide)).symm.trans e3, (t 4 (by decide)).symm.trans e4, (t 5 (by decide)).symm.trans e5, (t 6 (by decide)).symm.trans e6, (t 7 (by decide)).symm.trans e7, (t 8 (by decide)).symm.trans e8, (t 9 (by decide)).symm.trans e9, e10, e11⟩
instance : Inhabited ActM := ⟨⟨default, false, 0⟩⟩
theorem acts_open {v : Value} {d : DataW H} {ps : List MemPlace} {base : Nat} (hk : Value.okWide Try.prog W .any base 87 v) (h : DataW.Trod enc Try.prog W 0 sp held 87 v d ps) :
    ∃ (l : List ActM) (A : Option Addr) (C : Nat), v = .slice A l.length C ∧ l.length ≤ maxLen ∧ ActsAt W A l := by
  obtain ⟨fuel, h⟩ := h
  obtain ⟨u, hu, h⟩ : ∃ u, v.cells.toList = [u] ∧ DataW.trod enc Try.prog W 0 sp held fuel 87 [u] = some (d, ps) := by
    rcases open_slice Try.underlying87 h with ⟨h1, _⟩ | ⟨a, len, cap, mm, n', D, Pl, h1, _⟩
    · exact ⟨_, h1, h1 ▸ h⟩
    · exact ⟨_, h1, h1 ▸ h⟩
  obtain ⟨A, n, C, rfl, hn, F, hF, hE⟩ := row_open (enc := enc) (sp := sp) (held := held) (sz := 12) Try.underlying87 cellsAct (by decide) h
  obtain ⟨G, hG⟩ := pick_lt (α := ActM) (p := fun k m => OpRd W m.op ∧ F k 0 = (.int .i64 m.op.k) ∧ F k 1 = (.int .i64 m.op.r) ∧ F k 2 = (.int .i64 m.op.x) ∧ F k 3 = (.int .i64 m.op.a) ∧ F k 4 = (.int .i64 m.op.b) ∧ F k 5 = (.string m.op.tx) ∧ F k 6 = (.int .i64 m.op.cls) ∧ F k 7 = (.slice m.op.ra m.op.refs.length m.op.rC) ∧ F k 8 = (.slice m.op.wa m.op.words.length m.op.wC) ∧ F k 9 = (.bool m.op.on) ∧ F k 10 = (.bool m.beg) ∧ F k 11 = (.int .i64 m.units)) (fun k hk => by
    obtain ⟨m, y, hy⟩ := hE k hk
    obtain ⟨m, hr, e⟩ := act_open hy
    exact ⟨m, hr, by simpa using e⟩)
  obtain rfl : v = .slice A n C := by
    cases v <;> simp [Value.cells] at hu ⊢
    · exact hu
    · simp [Value.okWide, Cell.okWide, Cell.ok, Try.underlying87] at hk
  have hget : ∀ j (h : j < ((List.range n).map G).length), ((List.range n).map G)[j]'h = G j := fun j h => by simp
  refine ⟨(List.range n).map G, A, C, by simp, by simpa using hn, fun j hj => ?_⟩
  have hj' : j < n := by simpa using hj
  obtain ⟨b, o, h1, h2, h3⟩ := hF j hj'
  obtain ⟨hr, g0, g1, g2, g3, g4, g5, g6, g7, g8, g9, g10, g11⟩ := hG j hj'
  rw [hget]
  refine ⟨hr, b, o, h1, ⟨h2, ?_, ?_, ?_, ?_, ?_, ?_, ?_, ?_, ?_, ?_⟩, ?_, ?_⟩
  · have := h3 0 (by decide); rwa [g0] at this
  · have := h3 1 (by decide); rwa [g1] at this
  · have := h3 2 (by decide); rwa [g2] at this
  · have := h3 3 (by decide); rwa [g3] at this
  · have := h3 4 (by decide); rwa [g4] at this
  · have := h3 5 (by decide); rwa [g5] at this
  · have := h3 6 (by decide); rwa [g6] at this
  · have := h3 7 (by decide); rwa [g7] at this
  · have := h3 8 (by decide); rwa [g8] at this
  · have := h3 9 (by decide); rwa [g9] at this
  · have := h3 10 (by decide); rwa [g10] at this
  · have := h3 11 (by decide); rwa [g11] at this
end
end Go.Proofs.Ytodfpclekihbhaa

