/- The arguments of the laws, opened. -/
import Derived.Test.YtnbjknjnpfmklaaP42
import Derived.Test.YtnbjknjnpfmklaaP15
import Derived.OpenShut
import Derived.ChangeSame
namespace Go.Proofs.Ytnbjknjnpfmklaa
open Go.RowKit Go.Deep Go.ChangeShapes Go.WideShapes

section
variable {H : Type} {enc : TypeId × Value → H} {W : World} {sp : Nat → Bool} {held : Bool}

theorem ints_at {v : Value} {m : Nat} {x : DataW H × List MemPlace} (h : DataW.trod enc Try.prog W 0 sp held m 22 [v] = some x) : ∃ (zs : List Int) (A : Option Addr) (C : Nat), v = .slice A zs.length C ∧ (A = none → C = 0) ∧ RowI W A zs := by
  have hd := h
  obtain ⟨A, n, C, rfl, _, F, hF, hE⟩ := row_open (enc := enc) (sp := sp) (held := held) (sz := 1) Try.underlying22 cells3 (by decide) h
  have hz : ∀ k, k < n → ∃ z, F k 0 = .int .i64 z := fun k hk => by
    obtain ⟨m, y, hy⟩ := hE k hk
    obtain ⟨z, h1, _⟩ := DataW.trod_int Try.underlying3 hy
    exact ⟨z, by simpa using h1⟩
  let G : Nat → Int := fun k => match F k 0 with | .int .i64 z => z | _ => 0
  have hG : ∀ k, k < n → F k 0 = .int .i64 (G k) := fun k hk => by
    obtain ⟨z, hz⟩ := hz k hk
    simp only [G, hz]
  refine ⟨(List.range n).map G, A, C, by simp, fun hA => ?_, fun j hj => ?_⟩
  · subst hA
    rcases open_slice Try.underlying22 hd with ⟨h1, _⟩ | ⟨a, len, cap, mm, n', D, Pl, h1, _⟩
    · simp at h1; exact h1.2
    · simp at h1
  · have hj' : j < n := by simpa using hj
    obtain ⟨b, o, h1, h2, h3⟩ := hF j hj'
    have h4 := h3 0 (by decide)
    rw [hG j hj'] at h4
    refine ⟨b, o, h1, h2, ?_⟩
    rw [show ((List.range n).map G).getD j 0 = G j by simp [List.getD, hj']]
    simpa using h4
theorem cells9 : Try.prog.cellsOf 9 = 1 := by kernel_rfl
theorem cells5 : Try.prog.cellsOf 5 = 1 := by kernel_rfl
theorem cells22 : Try.prog.cellsOf 22 = 1 := by kernel_rfl
theorem cells52 : Try.prog.cellsOf 52 = 3 := by kernel_rfl
theorem start_open {v : Value} {d : DataW H} {ps : List MemPlace} {base : Nat} (hk : Value.okWide Try.prog W .any base 32 v) (h : DataW.Trod enc Try.prog W 0 sp held 32 v d ps) :
    ∃ (q : Int) (zs : List Int) (A : Option Addr) (C : Nat), v = .agg #[.int .i64 q, .slice A zs.length C] ∧ q ≤ 9223372036854775807 ∧ (A = none → C = 0) ∧ RowI W A zs ∧ ∀ a, A = some a → a.block < W.heap.size := by
  obtain ⟨fuel, h⟩ := h
  simp only [Value.okWide, Try.underlying32] at hk
  obtain ⟨cs, rfl, hsz, ts, hts, _, hrow⟩ := hk
  rw [show Try.prog.cellTypes Try.prog.depth 32 = some [3, 22] by kernel_rfl] at hts
  injection hts with hts
  subst hts
  rw [show Try.prog.cellsOf 32 = 2 by kernel_rfl] at hsz
  obtain ⟨a, b, rfl⟩ : ∃ a b, cs = #[a, b] := by
    obtain ⟨l⟩ := cs
    match l, hsz with
    | [a, b], _ => exact ⟨a, b, rfl⟩
  obtain ⟨y0, y1, n, _, _, h0, h1⟩ := trod_struct2 Try.underlying32 h
  obtain ⟨z, e0, _, hwf⟩ := DataW.trod_int Try.underlying3 h0
  rw [cells3] at e0
  obtain rfl : a = .int .i64 z := by simpa [Value.cells] using e0
  rw [cells22] at h1
  obtain ⟨zs, A, C, rfl, hA, hr⟩ := ints_at (v := b) h1
  refine ⟨z, zs, A, C, rfl, (bounds_i64 hwf).2, hA, hr, fun ad had => ?_⟩
  subst had
  obtain ⟨u, hu, hok⟩ := hrow 1 _ rfl
  obtain rfl : 22 = u := by simpa using hu
  simp only [Cell.okWide, Cell.ok, Try.underlying22] at hok
  obtain ⟨_, _, _, _, row, cells, hs, _⟩ := hok
  unfold World.shape? at hs
  rcases Nat.lt_or_ge ad.block W.heap.size with h2 | h2
  · exact h2
  · simp [Array.getElem?_eq_none h2] at hs
theorem acts_open {v : Value} {d : DataW H} {ps : List MemPlace} {base : Nat} (hk : Value.okWide Try.prog W .any base 33 v) (h : DataW.Trod enc Try.prog W 0 sp held 33 v d ps) :
    ∃ (l : List Ac) (A : Option Addr) (C : Nat), v = .slice A l.length C ∧ ActsAt W A l ∧ ActsOk l := by
  obtain ⟨fuel, h⟩ := h
  obtain ⟨u, hu, h⟩ : ∃ u, v.cells.toList = [u] ∧ DataW.trod enc Try.prog W 0 sp held fuel 33 [u] = some (d, ps) := by
    rcases open_slice Try.underlying33 h with ⟨h1, _⟩ | ⟨a, len, cap, mm, n', D, Pl, h1, _⟩
    · exact ⟨_, h1, h1 ▸ h⟩
    · exact ⟨_, h1, h1 ▸ h⟩
  obtain ⟨A, n, C, rfl, _, F, hF, hE⟩ := row_open (enc := enc) (sp := sp) (held := held) (sz := 3) Try.underlying33 cells52 (by decide) h
  have hz : ∀ k, k < n → ∃ a b s, F k 0 = .int .u8 a ∧ F k 1 = .int .i64 b ∧ F k 2 = .string s ∧ 0 ≤ a ∧ b ≤ 9223372036854775807 := fun k hk => by
    obtain ⟨m, y, hy⟩ := hE k hk
    obtain ⟨y0, y1, y2, m, _, _, h0, h1, h2⟩ := trod_struct3 Try.underlying52 hy
    obtain ⟨a, e0, _, w0⟩ := DataW.trod_int Try.underlying5 h0
    obtain ⟨b, e1, _, w1⟩ := DataW.trod_int Try.underlying3 h1
    obtain ⟨s, e2, _⟩ := DataW.trod_string Try.underlying9 h2
    rw [cells5] at e0
    rw [cells3] at e1
    rw [cells9] at e2
    rw [show List.range 3 = [0, 1, 2] from rfl] at e0 e1 e2
    exact ⟨a, b, s, by simpa using e0, by simpa using e1, by simpa using e2, (bounds_u8 w0).1, (bounds_i64 w1).2⟩
  let G : Nat → Ac := fun k => ⟨match F k 0 with | .int .u8 z => z | _ => 0, match F k 1 with | .int .i64 z => z | _ => 0, match F k 2 with | .string s => s | _ => ⟨#[]⟩⟩
  have hG : ∀ k, k < n → F k 0 = .int .u8 (G k).what ∧ F k 1 = .int .i64 (G k).n ∧ F k 2 = .string (G k).text ∧ 0 ≤ (G k).what ∧ (G k).n ≤ 9223372036854775807 := fun k hk => by
    obtain ⟨a, b, s, e0, e1, e2, w0, w1⟩ := hz k hk
    simp only [G, e0, e1, e2]
    exact ⟨trivial, trivial, trivial, w0, w1⟩
  obtain rfl : v = .slice A n C := by
    cases v <;> simp [Value.cells] at hu ⊢
    · exact hu
    · simp [Value.okWide, Cell.okWide, Cell.ok, Try.underlying33] at hk
  have hget : ∀ j (h : j < ((List.range n).map G).length), ((List.range n).map G)[j]'h = G j := fun j h => by simp
  refine ⟨(List.range n).map G, A, C, by simp, fun j hj => ?_, fun j hj => ?_, fun j hj => ?_⟩
  · have hj' : j < n := by simpa using hj
    obtain ⟨b, o, h1, h2, h3⟩ := hF j hj'
    obtain ⟨g0, g1, g2, _, _⟩ := hG j hj'
    rw [hget]
    refine ⟨b, o, h1, h2, ?_, ?_, ?_⟩
    · have := h3 0 (by decide); rw [g0] at this; exact this
    · have := h3 1 (by decide); rw [g1] at this; exact this
    · have := h3 2 (by decide); rw [g2] at this; exact this
  · rw [hget]; exact (hG j (by simpa using hj)).2.2.2.1
  · rw [hget]; exact (hG j (by simpa using hj)).2.2.2.2
end
end Go.Proofs.Ytnbjknjnpfmklaa
