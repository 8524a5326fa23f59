/- A module that came in as an argument, opened. -/
import Derived.Test.YtadkbcdopcehhaaDoorE3
import Derived.Deep.Strs
import Derived.Deep.Slices
import Derived.Lib.SmallJoins
namespace Go.Proofs.YtadkbcdopcehhaaDoor
open Go.RowKit Go.Deep

/-- n elements of sz cells each lie at A. -/
def RowAt (W : World) (A : Option Addr) (n sz : Nat) (F : Nat → Nat → Value) : Prop :=
  ∀ k, k < n → ∃ b o, A = some ⟨b, o, none⟩ ∧ b < W.heap.size ∧ ∀ i, i < sz → W.cell? ⟨b, o + k * sz + i, none⟩ = some (F k i)

theorem pick_lt {α : Type} [Inhabited α] {n : Nat} {p : Nat → α → Prop} (h : ∀ i, i < n → ∃ a, p i a) : ∃ f : Nat → α, ∀ i, i < n → p i (f i) :=
  ⟨fun i => if hi : i < n then Classical.choose (h i hi) else default, fun i hi => by simp only [hi, dif_pos]; exact Classical.choose_spec (h i hi)⟩

section
variable {H : Type} {enc : TypeId × Value → H} {W : World} {sp : Nat → Bool} {held : Bool}

theorem cell_spot {w : World} {a : Addr} {v : Value} (h : w.cell? a = some v) : a.spot = none ∧ a.block < w.heap.size := by
  unfold World.cell? at h
  split at h
  · rename_i hb
    split at h
    · cases h
    · rename_i hs
      exact ⟨by simpa using hs, (Array.getElem?_eq_some_iff.1 hb).1⟩
  · cases h
theorem row_open {t e : TypeId} {sz : Nat} {v : Value} {m : Nat} {x : DataW H × List MemPlace} (ht : Tryd.prog.underlying t = some (.slice e)) (hsz : Tryd.prog.cellsOf e = sz) (hpos : 0 < sz) (h : DataW.trod enc Tryd.prog W 0 sp held m t [v] = some x) :
    ∃ A n C, v = .slice A n C ∧ n ≤ maxLen ∧ ∃ F, RowAt W A n sz F ∧ ∀ k, k < n → ∃ m y, DataW.trod enc Tryd.prog W 0 sp held m e ((List.range sz).map (F k)) = some y := by
  rcases open_slice ht h with ⟨h1, _⟩ | ⟨a, len, cap, mm, n, D, Pl, h1, hb, hl, hm, hmm, _, hx⟩
  · obtain rfl : v = .slice none 0 0 := by simpa using h1
    exact ⟨none, 0, 0, rfl, Nat.zero_le _, fun _ _ => .nilIface, fun k hk => by omega, fun k hk => by omega⟩
  · obtain rfl : v = .slice (some a) len cap := by simpa using h1
    have hle : len ≤ mm := by rw [hmm]; split <;> omega
    refine ⟨_, _, _, rfl, by omega, fun k i => (W.cell? ⟨a.block, a.off + k * sz + i, none⟩).getD .nilIface, ?_, ?_⟩
    · intro k hk
      obtain ⟨cs0, h0, _⟩ := hx 0 (by omega)
      obtain ⟨_, hl0, hc0⟩ := World.cells?_some h0
      have hc00 := hc0 0 (by omega)
      rw [Nat.zero_mul] at hc00
      have ha : (a.add 0).add 0 = a := rfl
      rw [ha, List.getElem?_eq_getElem (by omega)] at hc00
      obtain ⟨hs, hlt⟩ := cell_spot hc00
      refine ⟨a.block, a.off, by cases a; simp at hs; simp [hs], hlt, fun i hi => ?_⟩
      obtain ⟨cs1, h1, _⟩ := hx k (by omega)
      obtain ⟨_, hl1, hc1⟩ := World.cells?_some h1
      have hc := hc1 i (by omega)
      have hadd : (a.add (k * Tryd.prog.cellsOf e)).add i = ⟨a.block, a.off + k * sz + i, none⟩ := by
        cases a; simp at hs; subst hs
        unfold Addr.add
        rw [hsz]
        split <;> rename_i q1 <;> split <;> rename_i q2 <;> simp_all
      rw [hadd, List.getElem?_eq_getElem (by omega)] at hc
      simp [hc]
    · intro k hk
      obtain ⟨cs0, h0, _⟩ := hx 0 (by omega)
      obtain ⟨_, hl0, hc0⟩ := World.cells?_some h0
      have hc00 := hc0 0 (by omega)
      rw [Nat.zero_mul] at hc00
      have ha : (a.add 0).add 0 = a := rfl
      rw [ha, List.getElem?_eq_getElem (by omega)] at hc00
      obtain ⟨hs, hlt⟩ := cell_spot hc00
      obtain ⟨cs1, h1, h2⟩ := hx k (by omega)
      obtain ⟨_, hl1, hc1⟩ := World.cells?_some h1
      refine ⟨n, (D k, Pl k), ?_⟩
      · have : (List.range sz).map (fun i => (W.cell? ⟨a.block, a.off + k * sz + i, none⟩).getD .nilIface) = cs1 := by
          apply List.ext_getElem (by simp [hl1, hsz])
          intro i q1 q2
          have hi : i < sz := by simpa using q1
          have hc := hc1 i (by omega)
          have hadd : (a.add (k * Tryd.prog.cellsOf e)).add i = ⟨a.block, a.off + k * sz + i, none⟩ := by
            cases a; simp at hs; subst hs
            unfold Addr.add
            rw [hsz]
            split <;> rename_i q1 <;> split <;> rename_i q2 <;> simp_all
          rw [hadd, List.getElem?_eq_getElem q2] at hc
          simp [hc]
        rw [this]
        exact h2

theorem cells3 : Tryd.prog.cellsOf 3 = 1 := by kernel_rfl
theorem cells2 : Tryd.prog.cellsOf 2 = 1 := by kernel_rfl
theorem cells9 : Tryd.prog.cellsOf 9 = 1 := by kernel_rfl
theorem cells38 : Tryd.prog.cellsOf 38 = 3 := by kernel_rfl
theorem cells40 : Tryd.prog.cellsOf 40 = 10 := by kernel_rfl
theorem cells60 : Tryd.prog.cellsOf 60 = 11 := by kernel_rfl
theorem cells83 : Tryd.prog.cellsOf 83 = 1 := by kernel_rfl
theorem cells84 : Tryd.prog.cellsOf 84 = 1 := by kernel_rfl
theorem cells85 : Tryd.prog.cellsOf 85 = 1 := by kernel_rfl
theorem cells87 : Tryd.prog.cellsOf 87 = 4 := by kernel_rfl
theorem cells89 : Tryd.prog.cellsOf 89 = 2 := by kernel_rfl
theorem cells93 : Tryd.prog.cellsOf 93 = 3 := by kernel_rfl
theorem cells95 : Tryd.prog.cellsOf 95 = 3 := by kernel_rfl
theorem take_one {cs : List Value} {o : Nat} {v : Value} (h : (cs.drop o).take 1 = [v]) : cs[o]? = some v := by
  have : ((cs.drop o).take 1)[0]? = some v := by rw [h]; rfl
  rw [List.getElem?_take_of_lt (by omega), List.getElem?_drop] at this
  simpa using this
theorem take_in {cs : List Value} {o n i : Nat} (hi : i < n) : ((cs.drop o).take n)[i]? = cs[o + i]? := by
  rw [List.getElem?_take_of_lt hi, List.getElem?_drop]
theorem f_int {t : TypeId} {k : IntKind} {n o : Nat} {cs : List Value} {y : DataW H × List MemPlace} (ht : Tryd.prog.underlying t = some (.int k)) (hc : Tryd.prog.cellsOf t = 1) (h : DataW.trod enc Tryd.prog W 0 sp held n t ((cs.drop o).take (Tryd.prog.cellsOf t)) = some y) : ∃ z, cs[o]? = some (.int k z) := by
  rw [hc] at h
  obtain ⟨z, h1, _⟩ := DataW.trod_int ht h
  exact ⟨z, take_one h1⟩
theorem f_str {n o : Nat} {cs : List Value} {y : DataW H × List MemPlace} (h : DataW.trod enc Tryd.prog W 0 sp held n 9 ((cs.drop o).take (Tryd.prog.cellsOf 9)) = some y) : ∃ z, cs[o]? = some (.string z) := by
  rw [cells9] at h
  obtain ⟨z, h1, _⟩ := DataW.trod_string Tryd.underlying9 h
  exact ⟨z, take_one h1⟩
theorem f_opd {n o : Nat} {cs : List Value} {y : DataW H × List MemPlace} (h : DataW.trod enc Tryd.prog W 0 sp held n 38 ((cs.drop o).take (Tryd.prog.cellsOf 38)) = some y) :
    ∃ a b c, cs[o]? = some (.int .i64 a) ∧ cs[o + 1]? = some (.int .i64 b) ∧ cs[o + 2]? = some (.int .i64 c) := by
  obtain ⟨y0, y1, y2, m, _, _, h0, h1, h2⟩ := trod_struct3 Tryd.underlying38 h
  obtain ⟨a, ha⟩ := f_int Tryd.underlying3 cells3 h0
  obtain ⟨b, hb⟩ := f_int Tryd.underlying3 cells3 h1
  obtain ⟨c, hc⟩ := f_int Tryd.underlying3 cells3 h2
  rw [cells38, take_in (by decide)] at ha hb hc
  exact ⟨a, b, c, ha, hb, hc⟩
theorem inst_row {n : Nat} {cs : List Value} {y : DataW H × List MemPlace} (h : DataW.trod enc Tryd.prog W 0 sp held n 40 cs = some y) : ∃ c : Nat → Int, ∀ i, i < 10 → cs[i]? = some (.int .i64 (c i)) := by
  obtain ⟨xs, m, _, _, hl, hlen, hf⟩ := DataW.trod_struct Tryd.underlying40 h
  have g : ∀ (i : Nat) (f : Field), i < 4 → (_ : Array Field)[i]? = some f → ∃ y, DataW.trod enc Tryd.prog W 0 sp held m f.type ((cs.drop f.offset).take (Tryd.prog.cellsOf f.type)) = some y := fun i f hi hfi =>
    ⟨xs[i]'(by rw [hlen]; exact hi), by rw [hf i f hfi, List.getElem?_eq_getElem]⟩
  obtain ⟨_, h0⟩ := g 0 _ (by decide) rfl
  obtain ⟨_, h1⟩ := g 1 _ (by decide) rfl
  obtain ⟨_, h2⟩ := g 2 _ (by decide) rfl
  obtain ⟨_, h3⟩ := g 3 _ (by decide) rfl
  obtain ⟨a, ha⟩ := f_int Tryd.underlying3 cells3 h0
  obtain ⟨b1, b2, b3, hb1, hb2, hb3⟩ := f_opd h1
  obtain ⟨c1, c2, c3, hc1, hc2, hc3⟩ := f_opd h2
  obtain ⟨d1, d2, d3, hd1, hd2, hd3⟩ := f_opd h3
  refine ⟨fun i => [a, b1, b2, b3, c1, c2, c3, d1, d2, d3].getD i 0, fun i hi => ?_⟩
  have : i = 0 ∨ i = 1 ∨ i = 2 ∨ i = 3 ∨ i = 4 ∨ i = 5 ∨ i = 6 ∨ i = 7 ∨ i = 8 ∨ i = 9 := by omega
  rcases this with rfl | rfl | rfl | rfl | rfl | rfl | rfl | rfl | rfl | rfl <;> assumption
end

/-- What the laws read of a module. -/
structure MdV where
  nc : Nat
  c : Nat → Nat → Int
  ns : Nat
  sn : Nat → Nat
  sp : Nat → Nat → Int
  nt : Nat
  tn : Nat → Nat
  tp : Nat → Nat → Int
  nh : Nat
  hf : Nat → Int
  ht : Nat → Int
  hs : Nat → Int
  hn : Nat → Nat
  hp : Nat → Nat → Int
/-- A table of n lines of numbers, of n lines of strings; a list of patterns. -/
def JumpsAt (W : World) (B : Option Addr) (n : Nat) (pc : Nat → Int) : Prop :=
  ∀ j, j < n → ∃ b o, B = some ⟨b, o, none⟩ ∧ b < W.heap.size ∧ ∃ l h, W.cell? ⟨b, o + j * 3, none⟩ = some (.int .i64 l) ∧ W.cell? ⟨b, o + j * 3 + 1, none⟩ = some (.int .i64 h) ∧ W.cell? ⟨b, o + j * 3 + 2, none⟩ = some (.int .i64 (pc j))
def JumpsCAt (W : World) (B : Option Addr) (n : Nat) (pc : Nat → Int) : Prop :=
  ∀ j, j < n → ∃ b o, B = some ⟨b, o, none⟩ ∧ b < W.heap.size ∧ ∃ l h, W.cell? ⟨b, o + j * 3, none⟩ = some (.string l) ∧ W.cell? ⟨b, o + j * 3 + 1, none⟩ = some (.string h) ∧ W.cell? ⟨b, o + j * 3 + 2, none⟩ = some (.int .i64 (pc j))
def PatsAt (W : World) (B : Option Addr) (n : Nat) (pc : Nat → Int) : Prop :=
  ∀ j, j < n → ∃ b o, B = some ⟨b, o, none⟩ ∧ b < W.heap.size ∧ ∃ l, W.cell? ⟨b, o + j * 2, none⟩ = some (.string l) ∧ W.cell? ⟨b, o + j * 2 + 1, none⟩ = some (.int .i64 (pc j))
def CodeAt (W : World) (A : Option Addr) (m : MdV) : Prop :=
  ∀ k, k < m.nc → ∃ b o, A = some ⟨b, o, none⟩ ∧ b < W.heap.size ∧ ∀ i, i < 10 → W.cell? ⟨b, o + k * 10 + i, none⟩ = some (.int .i64 (m.c k i))
def CasesAt (W : World) (A : Option Addr) (m : MdV) : Prop :=
  ∀ k, k < m.ns → ∃ b o, A = some ⟨b, o, none⟩ ∧ b < W.heap.size ∧ ∃ B C, W.cell? ⟨b, o + k, none⟩ = some (.slice B (m.sn k) C) ∧ JumpsAt W B (m.sn k) (m.sp k)
def CasesCAt (W : World) (A : Option Addr) (m : MdV) : Prop :=
  ∀ k, k < m.nt → ∃ b o, A = some ⟨b, o, none⟩ ∧ b < W.heap.size ∧ ∃ B C, W.cell? ⟨b, o + k, none⟩ = some (.slice B (m.tn k) C) ∧ JumpsCAt W B (m.tn k) (m.tp k)
def HandAt (W : World) (A : Option Addr) (m : MdV) : Prop :=
  ∀ k, k < m.nh → ∃ b o, A = some ⟨b, o, none⟩ ∧ b < W.heap.size ∧ W.cell? ⟨b, o + k * 4, none⟩ = some (.int .i64 (m.hf k)) ∧ W.cell? ⟨b, o + k * 4 + 1, none⟩ = some (.int .i64 (m.ht k)) ∧ W.cell? ⟨b, o + k * 4 + 2, none⟩ = some (.int .i64 (m.hs k)) ∧
    ∃ B C, W.cell? ⟨b, o + k * 4 + 3, none⟩ = some (.slice B (m.hn k) C) ∧ PatsAt W B (m.hn k) (m.hp k)
/-- The cells of a module. -/
structure MdA where
  s : ByteArray
  a1 : Option Addr
  n1 : Nat
  c1 : Nat
  a2 : Option Addr
  n2 : Nat
  c2 : Nat
  a3 : Option Addr
  n3 : Nat
  c3 : Nat
  a4 : Option Addr
  c4 : Nat
  a5 : Option Addr
  n5 : Nat
  c5 : Nat
  a6 : Option Addr
  n6 : Nat
  c6 : Nat
  a7 : Option Addr
  c7 : Nat
  a8 : Option Addr
  c8 : Nat
  a9 : Option Addr
  n9 : Nat
  c9 : Nat
  a10 : Option Addr
  c10 : Nat
structure MdIs (W : World) (q : MdA) (m : MdV) : Prop where
  code : CodeAt W q.a4 m
  cases : CasesAt W q.a7 m
  casesC : CasesCAt W q.a8 m
  hand : HandAt W q.a10 m
  lc : m.nc ≤ maxLen
  ls : m.ns ≤ maxLen
  lt : m.nt ≤ maxLen
  lh : m.nh ≤ maxLen
  lsn : ∀ k, k < m.ns → m.sn k ≤ maxLen
  ltn : ∀ k, k < m.nt → m.tn k ≤ maxLen
  lhn : ∀ k, k < m.nh → m.hn k ≤ maxLen

section
variable {H : Type} {enc : TypeId × Value → H} {W : World} {sp : Nat → Bool} {held : Bool}
theorem code_open {v : Value} {n : Nat} {x : DataW H × List MemPlace} (h : DataW.trod enc Tryd.prog W 0 sp held n 52 [v] = some x) :
    ∃ A k C c, v = .slice A k C ∧ k ≤ maxLen ∧ ∀ j, j < k → ∃ b o, A = some ⟨b, o, none⟩ ∧ b < W.heap.size ∧ ∀ i, i < 10 → W.cell? ⟨b, o + j * 10 + i, none⟩ = some (.int .i64 ((c : Nat → Nat → Int) j i)) := by
  obtain ⟨A, k, C, rfl, hk, F, hF, hT⟩ := row_open Tryd.underlying52 cells40 (by decide) h
  obtain ⟨c, hc⟩ := pick_lt (p := fun j (c : Nat → Int) => ∀ i, i < 10 → F j i = .int .i64 (c i)) (fun j hj => by
    obtain ⟨m, y, hy⟩ := hT j hj
    obtain ⟨c, hc⟩ := inst_row hy
    exact ⟨c, fun i hi => by have := hc i hi; simpa [hi] using this⟩)
  exact ⟨A, k, C, c, rfl, hk, fun j hj => by
    obtain ⟨b, o, h1, h2, h3⟩ := hF j hj
    exact ⟨b, o, h1, h2, fun i hi => by rw [h3 i hi, hc j hj i hi]⟩⟩
theorem jumps_open {v : Value} {n : Nat} {x : DataW H × List MemPlace} (h : DataW.trod enc Tryd.prog W 0 sp held n 83 [v] = some x) :
    ∃ A k C pc, v = .slice A k C ∧ k ≤ maxLen ∧ JumpsAt W A k pc := by
  obtain ⟨A, k, C, rfl, hk, F, hF, hT⟩ := row_open Tryd.underlying83 cells93 (by decide) h
  obtain ⟨c, hc⟩ := pick_lt (p := fun j (c : Int) => (∃ l h, F j 0 = .int .i64 l ∧ F j 1 = .int .i64 h) ∧ F j 2 = .int .i64 c) (fun j hj => by
    obtain ⟨m, y, hy⟩ := hT j hj
    obtain ⟨y0, y1, y2, m, _, _, h0, h1, h2⟩ := trod_struct3 Tryd.underlying93 hy
    obtain ⟨a, ha⟩ := f_int Tryd.underlying2 cells2 h0
    obtain ⟨b, hb⟩ := f_int Tryd.underlying2 cells2 h1
    obtain ⟨c, hc⟩ := f_int Tryd.underlying3 cells3 h2
    exact ⟨c, ⟨a, b, by simpa using ha, by simpa using hb⟩, by simpa using hc⟩)
  exact ⟨A, k, C, c, rfl, hk, fun j hj => by
    obtain ⟨b, o, h1, h2, h3⟩ := hF j hj
    obtain ⟨⟨l, h, e0, e1⟩, e2⟩ := hc j hj
    exact ⟨b, o, h1, h2, l, h, by have := h3 0 (by decide); rwa [e0] at this, by have := h3 1 (by decide); rwa [e1] at this, by have := h3 2 (by decide); rwa [e2] at this⟩⟩
theorem jumpsC_open {v : Value} {n : Nat} {x : DataW H × List MemPlace} (h : DataW.trod enc Tryd.prog W 0 sp held n 84 [v] = some x) :
    ∃ A k C pc, v = .slice A k C ∧ k ≤ maxLen ∧ JumpsCAt W A k pc := by
  obtain ⟨A, k, C, rfl, hk, F, hF, hT⟩ := row_open Tryd.underlying84 cells95 (by decide) h
  obtain ⟨c, hc⟩ := pick_lt (p := fun j (c : Int) => (∃ l h, F j 0 = .string l ∧ F j 1 = .string h) ∧ F j 2 = .int .i64 c) (fun j hj => by
    obtain ⟨m, y, hy⟩ := hT j hj
    obtain ⟨y0, y1, y2, m, _, _, h0, h1, h2⟩ := trod_struct3 Tryd.underlying95 hy
    obtain ⟨a, ha⟩ := f_str h0
    obtain ⟨b, hb⟩ := f_str h1
    obtain ⟨c, hc⟩ := f_int Tryd.underlying3 cells3 h2
    exact ⟨c, ⟨a, b, by simpa using ha, by simpa using hb⟩, by simpa using hc⟩)
  exact ⟨A, k, C, c, rfl, hk, fun j hj => by
    obtain ⟨b, o, h1, h2, h3⟩ := hF j hj
    obtain ⟨⟨l, h, e0, e1⟩, e2⟩ := hc j hj
    exact ⟨b, o, h1, h2, l, h, by have := h3 0 (by decide); rwa [e0] at this, by have := h3 1 (by decide); rwa [e1] at this, by have := h3 2 (by decide); rwa [e2] at this⟩⟩
theorem pats_open {v : Value} {n : Nat} {x : DataW H × List MemPlace} (h : DataW.trod enc Tryd.prog W 0 sp held n 85 [v] = some x) :
    ∃ A k C pc, v = .slice A k C ∧ k ≤ maxLen ∧ PatsAt W A k pc := by
  obtain ⟨A, k, C, rfl, hk, F, hF, hT⟩ := row_open Tryd.underlying85 cells89 (by decide) h
  obtain ⟨c, hc⟩ := pick_lt (p := fun j (c : Int) => (∃ l, F j 0 = .string l) ∧ F j 1 = .int .i64 c) (fun j hj => by
    obtain ⟨m, y, hy⟩ := hT j hj
    obtain ⟨y0, y1, m, _, _, h0, h1⟩ := Go.ChangeShapes.trod_struct2 Tryd.underlying89 hy
    obtain ⟨a, ha⟩ := f_str h0
    obtain ⟨c, hc⟩ := f_int Tryd.underlying3 cells3 h1
    exact ⟨c, ⟨a, by simpa using ha⟩, by simpa using hc⟩)
  exact ⟨A, k, C, c, rfl, hk, fun j hj => by
    obtain ⟨b, o, h1, h2, h3⟩ := hF j hj
    obtain ⟨⟨l, e0⟩, e1⟩ := hc j hj
    exact ⟨b, o, h1, h2, l, by have := h3 0 (by decide); rwa [e0] at this, by have := h3 1 (by decide); rwa [e1] at this⟩⟩
theorem cases_open {v : Value} {n : Nat} {x : DataW H × List MemPlace} (h : DataW.trod enc Tryd.prog W 0 sp held n 55 [v] = some x) :
    ∃ A k C sn pc, v = .slice A k C ∧ k ≤ maxLen ∧ (∀ j, j < k → (sn : Nat → Nat) j ≤ maxLen) ∧ ∀ j, j < k → ∃ b o, A = some ⟨b, o, none⟩ ∧ b < W.heap.size ∧ ∃ B C, W.cell? ⟨b, o + j, none⟩ = some (.slice B (sn j) C) ∧ JumpsAt W B (sn j) ((pc : Nat → Nat → Int) j) := by
  obtain ⟨A, k, C, rfl, hk, F, hF, hT⟩ := row_open Tryd.underlying55 cells83 (by decide) h
  obtain ⟨c, hc⟩ := pick_lt (p := fun j (c : Nat × (Nat → Int)) => c.1 ≤ maxLen ∧ ∃ B C, F j 0 = .slice B c.1 C ∧ JumpsAt W B c.1 c.2) (fun j hj => by
    obtain ⟨m, y, hy⟩ := hT j hj
    obtain ⟨B, n, C, pc, h1, h2, h3⟩ := jumps_open hy
    exact ⟨(n, pc), h2, B, C, h1, h3⟩)
  exact ⟨A, k, C, fun j => (c j).1, fun j => (c j).2, rfl, hk, fun j hj => (hc j hj).1, fun j hj => by
    obtain ⟨b, o, h1, h2, h3⟩ := hF j hj
    obtain ⟨_, B, C, e0, e1⟩ := hc j hj
    exact ⟨b, o, h1, h2, B, C, by have := h3 0 (by decide); rw [e0, Nat.mul_one] at this; exact this, e1⟩⟩
theorem casesC_open {v : Value} {n : Nat} {x : DataW H × List MemPlace} (h : DataW.trod enc Tryd.prog W 0 sp held n 56 [v] = some x) :
    ∃ A k C sn pc, v = .slice A k C ∧ k ≤ maxLen ∧ (∀ j, j < k → (sn : Nat → Nat) j ≤ maxLen) ∧ ∀ j, j < k → ∃ b o, A = some ⟨b, o, none⟩ ∧ b < W.heap.size ∧ ∃ B C, W.cell? ⟨b, o + j, none⟩ = some (.slice B (sn j) C) ∧ JumpsCAt W B (sn j) ((pc : Nat → Nat → Int) j) := by
  obtain ⟨A, k, C, rfl, hk, F, hF, hT⟩ := row_open Tryd.underlying56 cells84 (by decide) h
  obtain ⟨c, hc⟩ := pick_lt (p := fun j (c : Nat × (Nat → Int)) => c.1 ≤ maxLen ∧ ∃ B C, F j 0 = .slice B c.1 C ∧ JumpsCAt W B c.1 c.2) (fun j hj => by
    obtain ⟨m, y, hy⟩ := hT j hj
    obtain ⟨B, n, C, pc, h1, h2, h3⟩ := jumpsC_open hy
    exact ⟨(n, pc), h2, B, C, h1, h3⟩)
  exact ⟨A, k, C, fun j => (c j).1, fun j => (c j).2, rfl, hk, fun j hj => (hc j hj).1, fun j hj => by
    obtain ⟨b, o, h1, h2, h3⟩ := hF j hj
    obtain ⟨_, B, C, e0, e1⟩ := hc j hj
    exact ⟨b, o, h1, h2, B, C, by have := h3 0 (by decide); rw [e0, Nat.mul_one] at this; exact this, e1⟩⟩
theorem hand_open {v : Value} {n : Nat} {x : DataW H × List MemPlace} (h : DataW.trod enc Tryd.prog W 0 sp held n 58 [v] = some x) :
    ∃ A k C, ∃ (hf ht hs : Nat → Int) (hn : Nat → Nat) (hp : Nat → Nat → Int), v = .slice A k C ∧ k ≤ maxLen ∧ (∀ j, j < k → hn j ≤ maxLen) ∧ ∀ j, j < k → ∃ b o, A = some ⟨b, o, none⟩ ∧ b < W.heap.size ∧ W.cell? ⟨b, o + j * 4, none⟩ = some (.int .i64 (hf j)) ∧ W.cell? ⟨b, o + j * 4 + 1, none⟩ = some (.int .i64 (ht j)) ∧ W.cell? ⟨b, o + j * 4 + 2, none⟩ = some (.int .i64 (hs j)) ∧
      ∃ B C, W.cell? ⟨b, o + j * 4 + 3, none⟩ = some (.slice B (hn j) C) ∧ PatsAt W B (hn j) (hp j) := by
  obtain ⟨A, k, C, rfl, hk, F, hF, hT⟩ := row_open Tryd.underlying58 cells87 (by decide) h
  obtain ⟨c, hc⟩ := pick_lt (p := fun j (c : (Int × Int × Int) × Nat × (Nat → Int)) => c.2.1 ≤ maxLen ∧ F j 0 = .int .i64 c.1.1 ∧ F j 1 = .int .i64 c.1.2.1 ∧ F j 2 = .int .i64 c.1.2.2 ∧ ∃ B C, F j 3 = .slice B c.2.1 C ∧ PatsAt W B c.2.1 c.2.2) (fun j hj => by
    obtain ⟨m, y, hy⟩ := hT j hj
    obtain ⟨y0, y1, y2, y3, m, _, _, h0, h1, h2, h3⟩ := Go.Joins.trod_struct4 Tryd.underlying87 hy
    obtain ⟨a, ha⟩ := f_int Tryd.underlying3 cells3 h0
    obtain ⟨b, hb⟩ := f_int Tryd.underlying3 cells3 h1
    obtain ⟨c, hc⟩ := f_int Tryd.underlying3 cells3 h2
    rw [cells85] at h3
    obtain ⟨B, n, C, pc, e1, e2, e3⟩ := pats_open (v := F j 3) h3
    exact ⟨((a, b, c), (n, pc)), e2, by simpa using ha, by simpa using hb, by simpa using hc, B, C, e1, e3⟩)
  refine ⟨A, k, C, fun j => (c j).1.1, fun j => (c j).1.2.1, fun j => (c j).1.2.2, fun j => (c j).2.1, fun j => (c j).2.2, rfl, hk, fun j hj => (hc j hj).1, fun j hj => ?_⟩
  obtain ⟨b, o, h1, h2, h3⟩ := hF j hj
  obtain ⟨_, e0, e1, e2, B, C, e3, e4⟩ := hc j hj
  exact ⟨b, o, h1, h2, by have := h3 0 (by decide); rwa [e0] at this, by have := h3 1 (by decide); rwa [e1] at this, by have := h3 2 (by decide); rwa [e2] at this, B, C, by have := h3 3 (by decide); rwa [e3] at this, e4⟩
theorem f_slice {t e : TypeId} {n o : Nat} {cs : List Value} {y : DataW H × List MemPlace} (ht : Tryd.prog.underlying t = some (.slice e)) (hc : Tryd.prog.cellsOf t = 1) (h : DataW.trod enc Tryd.prog W 0 sp held n t ((cs.drop o).take (Tryd.prog.cellsOf t)) = some y) : ∃ A k C, cs[o]? = some (.slice A k C) := by
  rw [hc] at h
  rcases DataW.trod_slice ht h with ⟨h1, _⟩ | ⟨a, len, cap, _, _, _, _, h1, _⟩
  · exact ⟨none, 0, 0, take_one h1⟩
  · exact ⟨_, _, _, take_one h1⟩
theorem f_one {t : TypeId} {n o : Nat} {cs : List Value} {y : DataW H × List MemPlace} {L : Nat} (hl : cs.length = L) (ho : o < L) (hc : Tryd.prog.cellsOf t = 1) (h : DataW.trod enc Tryd.prog W 0 sp held n t ((cs.drop o).take (Tryd.prog.cellsOf t)) = some y) : ∃ v, cs[o]? = some v ∧ DataW.trod enc Tryd.prog W 0 sp held n t [v] = some y := by
  rw [hc, List.drop_eq_getElem_cons (by omega)] at h
  exact ⟨cs[o]'(by omega), List.getElem?_eq_getElem _, h⟩
theorem md_open {v : Value} {d : DataW H} {ps : List MemPlace} (h : DataW.Trod enc Tryd.prog W 0 sp held 60 v d ps) :
    ∃ (q : MdA) (m : MdV), v = .agg #[.string q.s, .slice q.a1 q.n1 q.c1, .slice q.a2 q.n2 q.c2, .slice q.a3 q.n3 q.c3, .slice q.a4 m.nc q.c4, .slice q.a5 q.n5 q.c5, .slice q.a6 q.n6 q.c6, .slice q.a7 m.ns q.c7, .slice q.a8 m.nt q.c8, .slice q.a9 q.n9 q.c9, .slice q.a10 m.nh q.c10] ∧ MdIs W q m := by
  obtain ⟨fuel, h⟩ := h
  obtain ⟨xs, n, _, _, hl, hlen, hf⟩ := DataW.trod_struct Tryd.underlying60 h
  rw [cells60] at hl
  obtain ⟨cs, rfl⟩ : ∃ cs, v = .agg cs := by
    cases v <;> simp [Value.cells] at hl
    exact ⟨_, rfl⟩
  have hl' : cs.size = 11 := by simpa [Value.cells] using hl
  simp only [Value.cells] at hf hl
  have g : ∀ (i : Nat) (f : Field), i < 11 → (_ : Array Field)[i]? = some f → ∃ y, DataW.trod enc Tryd.prog W 0 sp held n f.type ((cs.toList.drop f.offset).take (Tryd.prog.cellsOf f.type)) = some y := fun i f hi hfi =>
    ⟨xs[i]'(by rw [hlen]; exact hi), by rw [hf i f hfi, List.getElem?_eq_getElem]⟩
  obtain ⟨_, h0⟩ := g 0 _ (by decide) rfl
  obtain ⟨_, h1⟩ := g 1 _ (by decide) rfl
  obtain ⟨_, h2⟩ := g 2 _ (by decide) rfl
  obtain ⟨_, h3⟩ := g 3 _ (by decide) rfl
  obtain ⟨_, h4⟩ := g 4 _ (by decide) rfl
  obtain ⟨_, h5⟩ := g 5 _ (by decide) rfl
  obtain ⟨_, h6⟩ := g 6 _ (by decide) rfl
  obtain ⟨_, h7⟩ := g 7 _ (by decide) rfl
  obtain ⟨_, h8⟩ := g 8 _ (by decide) rfl
  obtain ⟨_, h9⟩ := g 9 _ (by decide) rfl
  obtain ⟨_, h10⟩ := g 10 _ (by decide) rfl
  obtain ⟨s, e0⟩ := f_str h0
  obtain ⟨a1, n1, c1, e1⟩ := f_slice Tryd.underlying49 (by kernel_rfl) h1
  obtain ⟨a2, n2, c2, e2⟩ := f_slice Tryd.underlying50 (by kernel_rfl) h2
  obtain ⟨a3, n3, c3, e3⟩ := f_slice Tryd.underlying51 (by kernel_rfl) h3
  obtain ⟨a5, n5, c5, e5⟩ := f_slice Tryd.underlying53 (by kernel_rfl) h5
  obtain ⟨a6, n6, c6, e6⟩ := f_slice Tryd.underlying54 (by kernel_rfl) h6
  obtain ⟨a9, n9, c9, e9⟩ := f_slice Tryd.underlying57 (by kernel_rfl) h9
  obtain ⟨v4, e4, t4⟩ := f_one hl (by decide) (by kernel_rfl) h4
  obtain ⟨v7, e7, t7⟩ := f_one hl (by decide) (by kernel_rfl) h7
  obtain ⟨v8, e8, t8⟩ := f_one hl (by decide) (by kernel_rfl) h8
  obtain ⟨v10, e10, t10⟩ := f_one hl (by decide) (by kernel_rfl) h10
  obtain ⟨a4, nc, c4, c, rfl, lc, hcode⟩ := code_open t4
  obtain ⟨a7, ns, c7, sn, sp, rfl, ls, lsn, hcases⟩ := cases_open t7
  obtain ⟨a8, nt, c8, tn, tp, rfl, lt, ltn, hcasesC⟩ := casesC_open t8
  obtain ⟨a10, nh, c10, hf, ht, hs, hn, hp, rfl, lh, lhn, hhand⟩ := hand_open t10
  refine ⟨⟨s, a1, n1, c1, a2, n2, c2, a3, n3, c3, a4, c4, a5, n5, c5, a6, n6, c6, a7, c7, a8, c8, a9, n9, c9, a10, c10⟩, ⟨nc, c, ns, sn, sp, nt, tn, tp, nh, hf, ht, hs, hn, hp⟩, congrArg Value.agg ?_, ⟨hcode, hcases, hcasesC, hhand, lc, ls, lt, lh, lsn, ltn, lhn⟩⟩
  apply Array.ext_getElem?
  intro k
  rcases Nat.lt_or_ge k 11 with hk | hk
  · rw [← Array.getElem?_toList]
    have : k = 0 ∨ k = 1 ∨ k = 2 ∨ k = 3 ∨ k = 4 ∨ k = 5 ∨ k = 6 ∨ k = 7 ∨ k = 8 ∨ k = 9 ∨ k = 10 := by omega
    rcases this with rfl | rfl | rfl | rfl | rfl | rfl | rfl | rfl | rfl | rfl | rfl <;> first | exact e0 | exact e1 | exact e2 | exact e3 | exact e4 | exact e5 | exact e6 | exact e7 | exact e8 | exact e9 | exact e10
  · rw [Array.getElem?_eq_none (by omega), Array.getElem?_eq_none (by simpa using hk)]
end
end Go.Proofs.YtadkbcdopcehhaaDoor
