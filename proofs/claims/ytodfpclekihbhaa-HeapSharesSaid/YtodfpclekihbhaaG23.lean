/- The calls of a law's argument, opened. -/
import Derived.Test.YtodfpclekihbhaaG21
import Derived.OpenShut
import Derived.ChangeSame
import Derived.Deep.Strs
import Derived.Deep.Slices
import Derived.Lib.SmallJoins
namespace Go.Proofs.Ytodfpclekihbhaa
set_option maxRecDepth 100000
open Go.RowKit Go.Deep Go.ChangeShapes Go.WideShapes

theorem pick_lt {α : Type} [Inhabited α] {n : Nat} {p : Nat → α → Prop} (h : ∀ i, i < n → ∃ a, p i a) : ∃ f : Nat → α, ∀ i, i < n → p i (f i) :=
  ⟨fun i => if hi : i < n then Classical.choose (h i hi) else default, fun i hi => by simp only [hi, dif_pos]; exact Classical.choose_spec (h i hi)⟩
/-- n elements of sz cells each lie at A. -/
def RowAt (W : World) (A : Option Addr) (n sz : Nat) (F : Nat → Nat → Value) : Prop :=
  ∀ k, k < n → ∃ b o, A = some ⟨b, o, none⟩ ∧ b < W.heap.size ∧ ∀ i, i < sz → W.cell? ⟨b, o + k * sz + i, none⟩ = some (F k i)

section
variable {H : Type} {enc : TypeId × Value → H} {W : World} {sp : Nat → Bool} {held : Bool}

theorem cell_spot {w : World} {a : Addr} {v : Value} (h : w.cell? a = some v) : a.spot = none ∧ a.block < w.heap.size := by
  unfold World.cell? at h
  split at h
  · rename_i hb
    split at h
    · cases h
    · rename_i hs
      exact ⟨by simpa using hs, (Array.getElem?_eq_some_iff.1 hb).1⟩
  · cases h
theorem row_open {t e : TypeId} {sz : Nat} {v : Value} {m : Nat} {x : DataW H × List MemPlace} (ht : Try.prog.underlying t = some (.slice e)) (hsz : Try.prog.cellsOf e = sz) (hpos : 0 < sz) (h : DataW.trod enc Try.prog W 0 sp held m t [v] = some x) :
    ∃ A n C, v = .slice A n C ∧ n ≤ maxLen ∧ ∃ F, RowAt W A n sz F ∧ ∀ k, k < n → ∃ m y, DataW.trod enc Try.prog W 0 sp held m e ((List.range sz).map (F k)) = some y := by
  rcases open_slice ht h with ⟨h1, _⟩ | ⟨a, len, cap, mm, n, D, Pl, h1, hb, hl, hm, hmm, _, hx⟩
  · obtain rfl : v = .slice none 0 0 := by simpa using h1
    exact ⟨none, 0, 0, rfl, Nat.zero_le _, fun _ _ => .nilIface, fun k hk => by omega, fun k hk => by omega⟩
  · obtain rfl : v = .slice (some a) len cap := by simpa using h1
    have hle : len ≤ mm := by rw [hmm]; split <;> omega
    refine ⟨_, _, _, rfl, by omega, fun k i => (W.cell? ⟨a.block, a.off + k * sz + i, none⟩).getD .nilIface, ?_, ?_⟩
    · intro k hk
      obtain ⟨cs0, h0, _⟩ := hx 0 (by omega)
      obtain ⟨_, hl0, hc0⟩ := World.cells?_some h0
      have hc00 := hc0 0 (by omega)
      rw [Nat.zero_mul] at hc00
      have ha : (a.add 0).add 0 = a := rfl
      rw [ha, List.getElem?_eq_getElem (by omega)] at hc00
      obtain ⟨hs, hlt⟩ := cell_spot hc00
      refine ⟨a.block, a.off, by cases a; simp at hs; simp [hs], hlt, fun i hi => ?_⟩
      obtain ⟨cs1, h1, _⟩ := hx k (by omega)
      obtain ⟨_, hl1, hc1⟩ := World.cells?_some h1
      have hc := hc1 i (by omega)
      have hadd : (a.add (k * Try.prog.cellsOf e)).add i = ⟨a.block, a.off + k * sz + i, none⟩ := by
        cases a; simp at hs; subst hs
        unfold Addr.add
        rw [hsz]
        split <;> rename_i q1 <;> split <;> rename_i q2 <;> simp_all
      rw [hadd, List.getElem?_eq_getElem (by omega)] at hc
      simp [hc]
    · intro k hk
      obtain ⟨cs0, h0, _⟩ := hx 0 (by omega)
      obtain ⟨_, hl0, hc0⟩ := World.cells?_some h0
      have hc00 := hc0 0 (by omega)
      rw [Nat.zero_mul] at hc00
      have ha : (a.add 0).add 0 = a := rfl
      rw [ha, List.getElem?_eq_getElem (by omega)] at hc00
      obtain ⟨hs, hlt⟩ := cell_spot hc00
      obtain ⟨cs1, h1, h2⟩ := hx k (by omega)
      obtain ⟨_, hl1, hc1⟩ := World.cells?_some h1
      refine ⟨n, (D k, Pl k), ?_⟩
      · have : (List.range sz).map (fun i => (W.cell? ⟨a.block, a.off + k * sz + i, none⟩).getD .nilIface) = cs1 := by
          apply List.ext_getElem (by simp [hl1, hsz])
          intro i q1 q2
          have hi : i < sz := by simpa using q1
          have hc := hc1 i (by omega)
          have hadd : (a.add (k * Try.prog.cellsOf e)).add i = ⟨a.block, a.off + k * sz + i, none⟩ := by
            cases a; simp at hs; subst hs
            unfold Addr.add
            rw [hsz]
            split <;> rename_i q1 <;> split <;> rename_i q2 <;> simp_all
          rw [hadd, List.getElem?_eq_getElem q2] at hc
          simp [hc]
        rw [this]
        exact h2


theorem cells3 : Try.prog.cellsOf 3 = 1 := by kernel_rfl
theorem cells2 : Try.prog.cellsOf 2 = 1 := by kernel_rfl
theorem cells4 : Try.prog.cellsOf 4 = 1 := by kernel_rfl
theorem cells9 : Try.prog.cellsOf 9 = 1 := by kernel_rfl
theorem cellsBs : Try.prog.cellsOf 30 = 1 := by kernel_rfl
theorem cellsWs : Try.prog.cellsOf 74 = 1 := by kernel_rfl
theorem cellsSh : Try.prog.cellsOf 73 = 2 := by kernel_rfl
theorem cellsW : Try.prog.cellsOf 133 = 2 := by kernel_rfl
theorem cellsOp : Try.prog.cellsOf 76 = 10 := by kernel_rfl
theorem take_one {cs : List Value} {o : Nat} {v : Value} (h : (cs.drop o).take 1 = [v]) : cs[o]? = some v := by
  have : ((cs.drop o).take 1)[0]? = some v := by rw [h]; rfl
  rw [List.getElem?_take_of_lt (by omega), List.getElem?_drop] at this
  simpa using this
theorem take_in {cs : List Value} {o n i : Nat} (hi : i < n) : ((cs.drop o).take n)[i]? = cs[o + i]? := by
  rw [List.getElem?_take_of_lt hi, List.getElem?_drop]
theorem f_int {t : TypeId} {k : IntKind} {n o : Nat} {cs : List Value} {y : DataW H × List MemPlace} (ht : Try.prog.underlying t = some (.int k)) (hc : Try.prog.cellsOf t = 1) (h : DataW.trod enc Try.prog W 0 sp held n t ((cs.drop o).take (Try.prog.cellsOf t)) = some y) : ∃ z, cs[o]? = some (.int k z) := by
  rw [hc] at h
  obtain ⟨z, h1, _⟩ := DataW.trod_int ht h
  exact ⟨z, take_one h1⟩
theorem f_str {n o : Nat} {cs : List Value} {y : DataW H × List MemPlace} (h : DataW.trod enc Try.prog W 0 sp held n 9 ((cs.drop o).take (Try.prog.cellsOf 9)) = some y) : ∃ z, cs[o]? = some (.string z) := by
  rw [cells9] at h
  obtain ⟨z, h1, _⟩ := DataW.trod_string Try.underlying9 h
  exact ⟨z, take_one h1⟩
theorem f_bool {n o : Nat} {cs : List Value} {y : DataW H × List MemPlace} (h : DataW.trod enc Try.prog W 0 sp held n 4 ((cs.drop o).take (Try.prog.cellsOf 4)) = some y) : ∃ z, cs[o]? = some (.bool z) := by
  rw [cells4] at h
  obtain ⟨z, h1, _⟩ := DataW.trod_bool Try.underlying4 h
  exact ⟨z, take_one h1⟩
theorem f_one {t : TypeId} {n o : Nat} {cs : List Value} {y : DataW H × List MemPlace} (ho : o < cs.length) (hc : Try.prog.cellsOf t = 1) (h : DataW.trod enc Try.prog W 0 sp held n t ((cs.drop o).take (Try.prog.cellsOf t)) = some y) : ∃ v, cs[o]? = some v ∧ DataW.trod enc Try.prog W 0 sp held n t [v] = some y := by
  rw [hc, List.drop_eq_getElem_cons ho] at h
  exact ⟨cs[o]'ho, List.getElem?_eq_getElem _, h⟩
theorem add_at (b o j : Nat) : (⟨b, o, none⟩ : Addr).add j = ⟨b, o + j, none⟩ := by
  unfold Addr.add
  split
  · rename_i h; subst h; rfl
  · rfl
theorem bools_open {v : Value} {m : Nat} {x : DataW H × List MemPlace} (h : DataW.trod enc Try.prog W 0 sp held m 30 [v] = some x) : ∃ (bs : List Bool) (A : Option Addr) (C : Nat), v = .slice A bs.length C ∧ RdB W A C bs := by
  have hd := h
  obtain ⟨A, n, C, rfl, _, F, hF, hE⟩ := row_open (enc := enc) (sp := sp) (held := held) (sz := 1) Try.underlying30 cells4 (by decide) h
  obtain ⟨G, hG⟩ := pick_lt (p := fun k (b : Bool) => F k 0 = .bool b) (fun k hk => by
    obtain ⟨m, y, hy⟩ := hE k hk
    obtain ⟨b, h1, _⟩ := DataW.trod_bool Try.underlying4 hy
    exact ⟨b, by simpa using h1⟩)
  refine ⟨(List.range n).map G, A, C, by simp, ⟨fun a ha j u hj => ?_, fun hA => ?_⟩⟩
  · obtain ⟨hj1, hj2⟩ := List.getElem?_eq_some_iff.1 hj
    have hj' : j < n := by simpa using hj1
    obtain ⟨b, o, h1, h2, h3⟩ := hF j hj'
    rw [ha] at h1
    injection h1 with h1
    subst h1
    have h4 := h3 0 (by decide)
    rw [hG j hj'] at h4
    rw [add_at, ← hj2]
    simpa using h4
  · subst hA
    rcases open_slice Try.underlying30 hd with ⟨h1, _⟩ | ⟨a, len, cap, mm, n', D, Pl, h1, _⟩
    · simp at h1; obtain ⟨rfl, rfl⟩ := h1; exact ⟨rfl, rfl⟩
    · simp at h1
theorem words_open {v : Value} {m : Nat} {x : DataW H × List MemPlace} (h : DataW.trod enc Try.prog W 0 sp held m 74 [v] = some x) : ∃ (ws : List Wd) (A : Option Addr) (C : Nat), v = .slice A ws.length C ∧ RdW W A ws := by
  obtain ⟨A, n, C, rfl, _, F, hF, hE⟩ := row_open (enc := enc) (sp := sp) (held := held) (sz := 2) Try.underlying74 cellsW (by decide) h
  obtain ⟨G, hG⟩ := pick_lt (α := Int × Int) (p := fun k b => F k 0 = .int .i64 b.1 ∧ F k 1 = .int .i64 b.2) (fun k hk => by
    obtain ⟨m, y, hy⟩ := hE k hk
    obtain ⟨y0, y1, m, _, _, h0, h1⟩ := trod_struct2 Try.underlying133 hy
    obtain ⟨a, ha⟩ := f_int Try.underlying2 cells2 h0
    obtain ⟨b, hb⟩ := f_int Try.underlying3 cells3 h1
    exact ⟨(a, b), by simpa using ha, by simpa using hb⟩)
  refine ⟨(List.range n).map fun k => ⟨(G k).1, (G k).2⟩, A, C, by simp, fun j hj => ?_⟩
  have hj' : j < n := by simpa using hj
  obtain ⟨b, o, h1, h2, h3⟩ := hF j hj'
  obtain ⟨g0, g1⟩ := hG j hj'
  refine ⟨b, o, h1, h2, ?_, ?_⟩
  · have := h3 0 (by decide); rw [g0] at this; simpa using this
  · have := h3 1 (by decide); rw [g1] at this; simpa using this
theorem op_open {n : Nat} {cs : List Value} {y : DataW H × List MemPlace} (h : DataW.trod enc Try.prog W 0 sp held n 76 cs = some y) : ∃ m : OpM, OpRd W m ∧ cs[0]? = some (.int .i64 m.k) ∧ cs[1]? = some (.int .i64 m.r) ∧ cs[2]? = some (.int .i64 m.x) ∧ cs[3]? = some (.int .i64 m.a) ∧ cs[4]? = some (.int .i64 m.b) ∧ cs[5]? = some (.string m.tx) ∧ cs[6]? = some (.int .i64 m.cls) ∧ cs[7]? = some (.slice m.ra m.refs.length m.rC) ∧ cs[8]? = some (.slice m.wa m.words.length m.wC) ∧ cs[9]? = some (.bool m.on) := by
  obtain ⟨xs, m, _, _, hl, hlen, hf⟩ := DataW.trod_struct Try.underlying76 h
  rw [cellsOp] at hl
  have g : ∀ (i : Nat) (f : Field), i < 9 → (_ : Array Field)[i]? = some f → ∃ y, DataW.trod enc Try.prog W 0 sp held m f.type ((cs.drop f.offset).take (Try.prog.cellsOf f.type)) = some y := fun i f hi hfi =>
    ⟨xs[i]'(by rw [hlen]; exact hi), by rw [hf i f hfi, List.getElem?_eq_getElem]⟩
  obtain ⟨_, h0⟩ := g 0 _ (by decide) rfl
  obtain ⟨_, h1⟩ := g 1 _ (by decide) rfl
  obtain ⟨_, h2⟩ := g 2 _ (by decide) rfl
  obtain ⟨_, h3⟩ := g 3 _ (by decide) rfl
  obtain ⟨_, h4⟩ := g 4 _ (by decide) rfl
  obtain ⟨_, h5⟩ := g 5 _ (by decide) rfl
  obtain ⟨_, h6⟩ := g 6 _ (by decide) rfl
  obtain ⟨_, h7⟩ := g 7 _ (by decide) rfl
  obtain ⟨_, h8⟩ := g 8 _ (by decide) rfl
  obtain ⟨k, e0⟩ := f_int Try.underlying3 cells3 h0
  obtain ⟨r, e1⟩ := f_int Try.underlying3 cells3 h1
  obtain ⟨x, e2⟩ := f_int Try.underlying3 cells3 h2
  obtain ⟨a, e3⟩ := f_int Try.underlying3 cells3 h3
  obtain ⟨b, e4⟩ := f_int Try.underlying3 cells3 h4
  obtain ⟨s, e5⟩ := f_str h5
  obtain ⟨y0, y1, m', _, _, s0, s1⟩ := trod_struct2 Try.underlying73 h6
  obtain ⟨c, e6⟩ := f_int Try.underlying3 cells3 s0
  obtain ⟨v7, e7, t7⟩ := f_one (by rw [List.length_take, List.length_drop, hl]; show 1 < min (Try.prog.cellsOf 73) (10 - 6); rw [cellsSh]; decide) cellsBs s1
  obtain ⟨v8, e8, t8⟩ := f_one (by rw [hl]; decide) cellsWs h7
  obtain ⟨on, e9⟩ := f_bool h8
  replace e6 : ((cs.drop 6).take (Try.prog.cellsOf 73))[0]? = some (.int .i64 c) := e6
  replace e7 : ((cs.drop 6).take (Try.prog.cellsOf 73))[1]? = some v7 := e7
  rw [cellsSh, take_in (by decide)] at e6 e7
  obtain ⟨bs, ra, rC, rfl, hb⟩ := bools_open t7
  obtain ⟨ws, wa, wC, rfl, hw⟩ := words_open t8
  exact ⟨⟨k, r, x, a, b, s, c, ra, bs, rC, wa, ws, wC, on⟩, ⟨hb, hw⟩, e0, e1, e2, e3, e4, e5, e6, e7, e8, e9⟩
instance : Inhabited OpM := ⟨⟨0, 0, 0, 0, 0, ⟨#[]⟩, 0, none, [], 0, none, [], 0, false⟩⟩
theorem ops_open {v : Value} {d : DataW H} {ps : List MemPlace} {base : Nat} (hk : Value.okWide Try.prog W .any base 71 v) (h : DataW.Trod enc Try.prog W 0 sp held 71 v d ps) :
    ∃ (l : List OpM) (A : Option Addr) (C : Nat), v = .slice A l.length C ∧ l.length ≤ maxLen ∧ OpsAt W A l := by
  obtain ⟨fuel, h⟩ := h
  obtain ⟨u, hu, h⟩ : ∃ u, v.cells.toList = [u] ∧ DataW.trod enc Try.prog W 0 sp held fuel 71 [u] = some (d, ps) := by
    rcases open_slice Try.underlying71 h with ⟨h1, _⟩ | ⟨a, len, cap, mm, n', D, Pl, h1, _⟩
    · exact ⟨_, h1, h1 ▸ h⟩
    · exact ⟨_, h1, h1 ▸ h⟩
  obtain ⟨A, n, C, rfl, hn, F, hF, hE⟩ := row_open (enc := enc) (sp := sp) (held := held) (sz := 10) Try.underlying71 cellsOp (by decide) h
  obtain ⟨G, hG⟩ := pick_lt (α := OpM) (p := fun k m => OpRd W m ∧ F k 0 = (.int .i64 m.k) ∧ F k 1 = (.int .i64 m.r) ∧ F k 2 = (.int .i64 m.x) ∧ F k 3 = (.int .i64 m.a) ∧ F k 4 = (.int .i64 m.b) ∧ F k 5 = (.string m.tx) ∧ F k 6 = (.int .i64 m.cls) ∧ F k 7 = (.slice m.ra m.refs.length m.rC) ∧ F k 8 = (.slice m.wa m.words.length m.wC) ∧ F k 9 = (.bool m.on)) (fun k hk => by
    obtain ⟨m, y, hy⟩ := hE k hk
    obtain ⟨m, hr, e⟩ := op_open hy
    exact ⟨m, hr, by simpa using e⟩)
  obtain rfl : v = .slice A n C := by
    cases v <;> simp [Value.cells] at hu ⊢
    · exact hu
    · simp [Value.okWide, Cell.okWide, Cell.ok, Try.underlying71] at hk
  have hget : ∀ j (h : j < ((List.range n).map G).length), ((List.range n).map G)[j]'h = G j := fun j h => by simp
  refine ⟨(List.range n).map G, A, C, by simp, by simpa using hn, fun j hj => ?_⟩
  have hj' : j < n := by simpa using hj
  obtain ⟨b, o, h1, h2, h3⟩ := hF j hj'
  obtain ⟨hr, g0, g1, g2, g3, g4, g5, g6, g7, g8, g9⟩ := hG j hj'
  rw [hget]
  refine ⟨hr, b, o, h1, ⟨h2, ?_, ?_, ?_, ?_, ?_, ?_, ?_, ?_, ?_, ?_⟩⟩
  · have := h3 0 (by decide); rwa [g0] at this
  · have := h3 1 (by decide); rwa [g1] at this
  · have := h3 2 (by decide); rwa [g2] at this
  · have := h3 3 (by decide); rwa [g3] at this
  · have := h3 4 (by decide); rwa [g4] at this
  · have := h3 5 (by decide); rwa [g5] at this
  · have := h3 6 (by decide); rwa [g6] at this
  · have := h3 7 (by decide); rwa [g7] at this
  · have := h3 8 (by decide); rwa [g8] at this
  · have := h3 9 (by decide); rwa [g9] at this
end
end Go.Proofs.Ytodfpclekihbhaa

