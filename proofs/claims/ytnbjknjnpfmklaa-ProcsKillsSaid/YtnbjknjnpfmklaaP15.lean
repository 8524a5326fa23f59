/- Lists that came in as arguments, opened. -/
import Derived.Test.YtnbjknjnpfmklaaP14
import Derived.Deep.Strs
import Derived.Deep.Slices
import Derived.Lib.SmallJoins
namespace Go.Proofs.Ytnbjknjnpfmklaa
open Go.RowKit Go.Deep

/-- n elements of sz cells each lie at A. -/
def RowAt (W : World) (A : Option Addr) (n sz : Nat) (F : Nat → Nat → Value) : Prop :=
  ∀ k, k < n → ∃ b o, A = some ⟨b, o, none⟩ ∧ b < W.heap.size ∧ ∀ i, i < sz → W.cell? ⟨b, o + k * sz + i, none⟩ = some (F k i)

section
variable {H : Type} {enc : TypeId × Value → H} {W : World} {sp : Nat → Bool} {held : Bool}

theorem cell_spot {w : World} {a : Addr} {v : Value} (h : w.cell? a = some v) : a.spot = none ∧ a.block < w.heap.size := by
  unfold World.cell? at h
  split at h
  · rename_i hb
    split at h
    · cases h
    · rename_i hs
      exact ⟨by simpa using hs, (Array.getElem?_eq_some_iff.1 hb).1⟩
  · cases h
theorem row_open {t e : TypeId} {sz : Nat} {v : Value} {m : Nat} {x : DataW H × List MemPlace} (ht : Try.prog.underlying t = some (.slice e)) (hsz : Try.prog.cellsOf e = sz) (hpos : 0 < sz) (h : DataW.trod enc Try.prog W 0 sp held m t [v] = some x) :
    ∃ A n C, v = .slice A n C ∧ n ≤ maxLen ∧ ∃ F, RowAt W A n sz F ∧ ∀ k, k < n → ∃ m y, DataW.trod enc Try.prog W 0 sp held m e ((List.range sz).map (F k)) = some y := by
  rcases open_slice ht h with ⟨h1, _⟩ | ⟨a, len, cap, mm, n, D, Pl, h1, hb, hl, hm, hmm, _, hx⟩
  · obtain rfl : v = .slice none 0 0 := by simpa using h1
    exact ⟨none, 0, 0, rfl, Nat.zero_le _, fun _ _ => .nilIface, fun k hk => by omega, fun k hk => by omega⟩
  · obtain rfl : v = .slice (some a) len cap := by simpa using h1
    have hle : len ≤ mm := by rw [hmm]; split <;> omega
    refine ⟨_, _, _, rfl, by omega, fun k i => (W.cell? ⟨a.block, a.off + k * sz + i, none⟩).getD .nilIface, ?_, ?_⟩
    · intro k hk
      obtain ⟨cs0, h0, _⟩ := hx 0 (by omega)
      obtain ⟨_, hl0, hc0⟩ := World.cells?_some h0
      have hc00 := hc0 0 (by omega)
      rw [Nat.zero_mul] at hc00
      have ha : (a.add 0).add 0 = a := rfl
      rw [ha, List.getElem?_eq_getElem (by omega)] at hc00
      obtain ⟨hs, hlt⟩ := cell_spot hc00
      refine ⟨a.block, a.off, by cases a; simp at hs; simp [hs], hlt, fun i hi => ?_⟩
      obtain ⟨cs1, h1, _⟩ := hx k (by omega)
      obtain ⟨_, hl1, hc1⟩ := World.cells?_some h1
      have hc := hc1 i (by omega)
      have hadd : (a.add (k * Try.prog.cellsOf e)).add i = ⟨a.block, a.off + k * sz + i, none⟩ := by
        cases a; simp at hs; subst hs
        unfold Addr.add
        rw [hsz]
        split <;> rename_i q1 <;> split <;> rename_i q2 <;> simp_all
      rw [hadd, List.getElem?_eq_getElem (by omega)] at hc
      simp [hc]
    · intro k hk
      obtain ⟨cs0, h0, _⟩ := hx 0 (by omega)
      obtain ⟨_, hl0, hc0⟩ := World.cells?_some h0
      have hc00 := hc0 0 (by omega)
      rw [Nat.zero_mul] at hc00
      have ha : (a.add 0).add 0 = a := rfl
      rw [ha, List.getElem?_eq_getElem (by omega)] at hc00
      obtain ⟨hs, hlt⟩ := cell_spot hc00
      obtain ⟨cs1, h1, h2⟩ := hx k (by omega)
      obtain ⟨_, hl1, hc1⟩ := World.cells?_some h1
      refine ⟨n, (D k, Pl k), ?_⟩
      · have : (List.range sz).map (fun i => (W.cell? ⟨a.block, a.off + k * sz + i, none⟩).getD .nilIface) = cs1 := by
          apply List.ext_getElem (by simp [hl1, hsz])
          intro i q1 q2
          have hi : i < sz := by simpa using q1
          have hc := hc1 i (by omega)
          have hadd : (a.add (k * Try.prog.cellsOf e)).add i = ⟨a.block, a.off + k * sz + i, none⟩ := by
            cases a; simp at hs; subst hs
            unfold Addr.add
            rw [hsz]
            split <;> rename_i q1 <;> split <;> rename_i q2 <;> simp_all
          rw [hadd, List.getElem?_eq_getElem q2] at hc
          simp [hc]
        rw [this]
        exact h2

theorem cells3 : Try.prog.cellsOf 3 = 1 := by kernel_rfl
theorem ints_open {v : Value} {d : DataW H} {ps : List MemPlace} {base : Nat} (hk : Value.okWide Try.prog W .any base 22 v) (h : DataW.Trod enc Try.prog W 0 sp held 22 v d ps) : ∃ (zs : List Int) (A : Option Addr) (C : Nat), v = .slice A zs.length C ∧ (A = none → C = 0) ∧ RowI W A zs := by
  obtain ⟨fuel, h⟩ := h
  obtain ⟨u, hu, h⟩ : ∃ u, v.cells.toList = [u] ∧ DataW.trod enc Try.prog W 0 sp held fuel 22 [u] = some (d, ps) := by
    rcases open_slice Try.underlying22 h with ⟨h1, _⟩ | ⟨a, len, cap, mm, n', D, Pl, h1, _⟩
    · exact ⟨_, h1, h1 ▸ h⟩
    · exact ⟨_, h1, h1 ▸ h⟩
  have hd := h
  obtain ⟨A, n, C, rfl, _, F, hF, hE⟩ := row_open (enc := enc) (sp := sp) (held := held) (sz := 1) Try.underlying22 cells3 (by decide) h
  have hz : ∀ k, k < n → ∃ z, F k 0 = .int .i64 z := fun k hk => by
    obtain ⟨m, y, hy⟩ := hE k hk
    obtain ⟨z, h1, _⟩ := DataW.trod_int Try.underlying3 hy
    exact ⟨z, by simpa using h1⟩
  let G : Nat → Int := fun k => match F k 0 with | .int .i64 z => z | _ => 0
  have hG : ∀ k, k < n → F k 0 = .int .i64 (G k) := fun k hk => by
    obtain ⟨z, hz⟩ := hz k hk
    simp only [G, hz]
  obtain rfl : v = .slice A n C := by
    cases v <;> simp [Value.cells] at hu ⊢
    · exact hu
    · simp [Value.okWide, Cell.okWide, Cell.ok, Try.underlying22] at hk
  refine ⟨(List.range n).map G, A, C, by simp, fun hA => ?_, fun j hj => ?_⟩
  · subst hA
    rcases open_slice Try.underlying22 hd with ⟨h1, _⟩ | ⟨a, len, cap, mm, n', D, Pl, h1, _⟩
    · simp at h1; exact h1.2
    · simp at h1
  · have hj' : j < n := by simpa using hj
    obtain ⟨b, o, h1, h2, h3⟩ := hF j hj'
    have h4 := h3 0 (by decide)
    rw [hG j hj'] at h4
    refine ⟨b, o, h1, h2, ?_⟩
    rw [show ((List.range n).map G).getD j 0 = G j by simp [List.getD, hj']]
    simpa using h4
end
end Go.Proofs.Ytnbjknjnpfmklaa
