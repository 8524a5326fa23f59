/- The cuts of a law's argument, opened. -/
import Derived.Test.YtodfpclekihbhaaG47
import Derived.Test.YtodfpclekihbhaaG23
namespace Go.Proofs.Ytodfpclekihbhaa
set_option maxRecDepth 100000
open Go.RowKit Go.Deep Go.ChangeShapes Go.WideShapes

section
variable {H : Type} {enc : TypeId × Value → H} {W : World} {sp : Nat → Bool} {held : Bool}
theorem cellsCut : Try.prog.cellsOf 37 = 5 := by kernel_rfl
theorem cut_open {n : Nat} {cs : List Value} {y : DataW H × List MemPlace} (h : DataW.trod enc Try.prog W 0 sp held n 37 cs = some y) : ∃ m : CutM, cs[0]? = some (.int .i64 m.f) ∧ cs[1]? = some (.int .i64 m.t) ∧ cs[2]? = some (.int .i64 m.at_) ∧ cs[3]? = some (.int .i64 m.num) ∧ cs[4]? = some (.bool m.copy) := by
  obtain ⟨xs, m, _, _, hl, hlen, hf⟩ := DataW.trod_struct Try.underlying37 h
  have g : ∀ (i : Nat) (f : Field), i < 5 → (_ : Array Field)[i]? = some f → ∃ y, DataW.trod enc Try.prog W 0 sp held m f.type ((cs.drop f.offset).take (Try.prog.cellsOf f.type)) = some y := fun i f hi hfi =>
    ⟨xs[i]'(by rw [hlen]; exact hi), by rw [hf i f hfi, List.getElem?_eq_getElem]⟩
  obtain ⟨_, h0⟩ := g 0 _ (by decide) rfl
  obtain ⟨_, h1⟩ := g 1 _ (by decide) rfl
  obtain ⟨_, h2⟩ := g 2 _ (by decide) rfl
  obtain ⟨_, h3⟩ := g 3 _ (by decide) rfl
  obtain ⟨_, h4⟩ := g 4 _ (by decide) rfl
  obtain ⟨a, e0⟩ := f_int Try.underlying3 cells3 h0
  obtain ⟨b, e1⟩ := f_int Try.underlying3 cells3 h1
  obtain ⟨c, e2⟩ := f_int Try.underlying3 cells3 h2
  obtain ⟨d, e3⟩ := f_int Try.underlying2 cells2 h3
  obtain ⟨p, e4⟩ := f_bool h4
  exact ⟨⟨a, b, c, d, p⟩, e0, e1, e2, e3, e4⟩
instance : Inhabited CutM := ⟨⟨0, 0, 0, 0, false⟩⟩
theorem cuts_open {v : Value} {d : DataW H} {ps : List MemPlace} {base : Nat} (hk : Value.okWide Try.prog W .any base 22 v) (h : DataW.Trod enc Try.prog W 0 sp held 22 v d ps) :
    ∃ (l : List CutM) (A : Option Addr) (C : Nat), v = .slice A l.length C ∧ l.length ≤ maxLen ∧ CutsAt W A l := by
  obtain ⟨fuel, h⟩ := h
  obtain ⟨u, hu, h⟩ : ∃ u, v.cells.toList = [u] ∧ DataW.trod enc Try.prog W 0 sp held fuel 22 [u] = some (d, ps) := by
    rcases open_slice Try.underlying22 h with ⟨h1, _⟩ | ⟨a, len, cap, mm, n', D, Pl, h1, _⟩
    · exact ⟨_, h1, h1 ▸ h⟩
    · exact ⟨_, h1, h1 ▸ h⟩
  obtain ⟨A, n, C, rfl, hn, F, hF, hE⟩ := row_open (enc := enc) (sp := sp) (held := held) (sz := 5) Try.underlying22 cellsCut (by decide) h
  obtain ⟨G, hG⟩ := pick_lt (α := CutM) (p := fun k m => F k 0 = (.int .i64 m.f) ∧ F k 1 = (.int .i64 m.t) ∧ F k 2 = (.int .i64 m.at_) ∧ F k 3 = (.int .i64 m.num) ∧ F k 4 = (.bool m.copy)) (fun k hk => by
    obtain ⟨m, y, hy⟩ := hE k hk
    obtain ⟨m, e⟩ := cut_open hy
    exact ⟨m, by simpa using e⟩)
  obtain rfl : v = .slice A n C := by
    cases v <;> simp [Value.cells] at hu ⊢
    · exact hu
    · simp [Value.okWide, Cell.okWide, Cell.ok, Try.underlying22] at hk
  have hget : ∀ j (h : j < ((List.range n).map G).length), ((List.range n).map G)[j]'h = G j := fun j h => by simp
  refine ⟨(List.range n).map G, A, C, by simp, by simpa using hn, fun j hj => ?_⟩
  have hj' : j < n := by simpa using hj
  obtain ⟨b, o, h1, h2, h3⟩ := hF j hj'
  obtain ⟨g0, g1, g2, g3, g4⟩ := hG j hj'
  rw [hget]
  refine ⟨b, o, h1, h2, ?_, ?_, ?_, ?_, ?_⟩
  · have := h3 0 (by decide); rwa [g0] at this
  · have := h3 1 (by decide); rwa [g1] at this
  · have := h3 2 (by decide); rwa [g2] at this
  · have := h3 3 (by decide); rwa [g3] at this
  · have := h3 4 (by decide); rwa [g4] at this
end
end Go.Proofs.Ytodfpclekihbhaa

