/- The contract of inst.Next. -/
import Derived.Test.YtadkbcdopcehhaaDoorE8
namespace Go.Proofs.YtadkbcdopcehhaaDoor
open Go.RowKit

/-- The box of an instruction's variable. -/
def Bi (w : World) (p : Nat) (c0 c1 c2 c3 c4 c5 c6 c7 c8 c9 : Int) : Prop := w.cell? ⟨p, 0, none⟩ = some (.int .i64 c0) ∧ w.cell? ⟨p, 1, none⟩ = some (.int .i64 c1) ∧ w.cell? ⟨p, 2, none⟩ = some (.int .i64 c2) ∧ w.cell? ⟨p, 3, none⟩ = some (.int .i64 c3) ∧ w.cell? ⟨p, 4, none⟩ = some (.int .i64 c4) ∧ w.cell? ⟨p, 5, none⟩ = some (.int .i64 c5) ∧ w.cell? ⟨p, 6, none⟩ = some (.int .i64 c6) ∧ w.cell? ⟨p, 7, none⟩ = some (.int .i64 c7) ∧ w.cell? ⟨p, 8, none⟩ = some (.int .i64 c8) ∧ w.cell? ⟨p, 9, none⟩ = some (.int .i64 c9)
theorem Bi.next {w w' : World} {p : Nat} {c0 c1 c2 c3 c4 c5 c6 c7 c8 c9 : Int} (h : Bi w p c0 c1 c2 c3 c4 c5 c6 c7 c8 c9) (hlt : p < w.heap.size) (hb : Below w.heap.size w w') : Bi w' p c0 c1 c2 c3 c4 c5 c6 c7 c8 c9 := by
  have g : ∀ (j : Nat) (v : Value), w.cell? ⟨p, j, none⟩ = some v → w'.cell? ⟨p, j, none⟩ = some v := fun j v hv => (hb.cell (p := ⟨p, j, none⟩) hlt).trans hv
  obtain ⟨x0, x1, x2, x3, x4, x5, x6, x7, x8, x9⟩ := h
  exact ⟨g _ _ x0, g _ _ x1, g _ _ x2, g _ _ x3, g _ _ x4, g _ _ x5, g _ _ x6, g _ _ x7, g _ _ x8, g _ _ x9⟩
theorem Bi.new (w : World) (c0 c1 c2 c3 c4 c5 c6 c7 c8 c9 : Int) : Bi (w.alloc (.cells #[.int .i64 c0, .int .i64 c1, .int .i64 c2, .int .i64 c3, .int .i64 c4, .int .i64 c5, .int .i64 c6, .int .i64 c7, .int .i64 c8, .int .i64 c9] 40)) w.heap.size c0 c1 c2 c3 c4 c5 c6 c7 c8 c9 := by
  unfold Bi
  simp only [cell_new]
  exact ⟨rfl, rfl, rfl, rfl, rfl, rfl, rfl, rfl, rfl, rfl⟩
theorem CodeAt.ten {w w' : World} {A : Option Addr} {m : MdV} (h : CodeAt w A m) {k : Nat} (hk : k < m.nc) {c0 c1 c2 c3 c4 c5 c6 c7 c8 c9 : Int} (hc : ∀ i, i < 10 → m.c k i = [c0, c1, c2, c3, c4, c5, c6, c7, c8, c9].getD i 0) (hb : Below w.heap.size w w') :
    ∃ b o, A = some ⟨b, o, none⟩ ∧ b < w.heap.size ∧ w'.cell? ⟨b, o + k * 10, none⟩ = some (.int .i64 c0) ∧ w'.cell? ⟨b, o + k * 10 + 1, none⟩ = some (.int .i64 c1) ∧ w'.cell? ⟨b, o + k * 10 + 2, none⟩ = some (.int .i64 c2) ∧ w'.cell? ⟨b, o + k * 10 + 3, none⟩ = some (.int .i64 c3) ∧ w'.cell? ⟨b, o + k * 10 + 4, none⟩ = some (.int .i64 c4) ∧ w'.cell? ⟨b, o + k * 10 + 5, none⟩ = some (.int .i64 c5) ∧ w'.cell? ⟨b, o + k * 10 + 6, none⟩ = some (.int .i64 c6) ∧ w'.cell? ⟨b, o + k * 10 + 7, none⟩ = some (.int .i64 c7) ∧ w'.cell? ⟨b, o + k * 10 + 8, none⟩ = some (.int .i64 c8) ∧ w'.cell? ⟨b, o + k * 10 + 9, none⟩ = some (.int .i64 c9) := by
  obtain ⟨b, o, h1, h2, h3⟩ := h k hk
  refine ⟨b, o, h1, h2, ?_⟩
  have g : ∀ (i : Nat) (v : Int), i < 10 → [c0, c1, c2, c3, c4, c5, c6, c7, c8, c9].getD i 0 = v → w'.cell? ⟨b, o + k * 10 + i, none⟩ = some (.int .i64 v) := fun i v hi hv => (hb.cell (p := ⟨b, _, none⟩) h2).trans (by rw [h3 i hi, hc i hi, hv])
  exact ⟨g 0 _ (by decide) rfl, g 1 _ (by decide) rfl, g 2 _ (by decide) rfl, g 3 _ (by decide) rfl, g 4 _ (by decide) rfl, g 5 _ (by decide) rfl, g 6 _ (by decide) rfl, g 7 _ (by decide) rfl, g 8 _ (by decide) rfl, g 9 _ (by decide) rfl⟩

theorem next_out (q : MdA) (m : MdV) (at_ : Int) (w : World) (h : at_ < 0 ∨ (m.nc : Int) ≤ at_) :
    Calls Tryd.prog 29 #[.agg #[.string q.s, .slice q.a1 q.n1 q.c1, .slice q.a2 q.n2 q.c2, .slice q.a3 q.n3 q.c3, .slice q.a4 m.nc q.c4, .slice q.a5 q.n5 q.c5, .slice q.a6 q.n6 q.c6, .slice q.a7 m.ns q.c7, .slice q.a8 m.nt q.c8, .slice q.a9 q.n9 q.c9, .slice q.a10 m.nh q.c10], .int .i64 at_] w fun e w' => e = .returned (.tuple #[.slice none 0 0, .int .i64 11]) ∧ Below w.heap.size w w' := by
  have HB := Lib.hid ((Below.refl w.heap.size w).alloc (Nat.le_refl _) (.cells #[.string q.s, .slice q.a1 q.n1 q.c1, .slice q.a2 q.n2 q.c2, .slice q.a3 q.n3 q.c3, .slice q.a4 m.nc q.c4, .slice q.a5 q.n5 q.c5, .slice q.a6 q.n6 q.c6, .slice q.a7 m.ns q.c7, .slice q.a8 m.nt q.c8, .slice q.a9 q.n9 q.c9, .slice q.a10 m.nh q.c10] 60))
  by_cases c1 : at_ < 0
  · clear h
    go_enter Tryd.func29, Tryd.ntmps29
    go_wp2
    all_goals go_ret2
    all_goals exact ⟨rfl, HB.out⟩
  · have c2 : (m.nc : Int) ≤ at_ := by omega
    clear h
    go_enter Tryd.func29, Tryd.ntmps29
    go_wp2
    all_goals go_ret2
    all_goals exact ⟨rfl, HB.out⟩

set_option maxHeartbeats 1000000 in
theorem next_err (q : MdA) (m : MdV) (k : Nat) (hk : k < m.nc) (w : World) (hm : MdIs w q m) (c0 c1 c2 c3 c4 c5 c6 c7 c8 c9 : Int) (hc : ∀ i, i < 10 → m.c k i = [c0, c1, c2, c3, c4, c5, c6, c7, c8, c9].getD i 0) (hne : chkI c0 c1 c2 c3 c4 c5 c6 c7 c8 c9 ≠ 0) :
    Calls Tryd.prog 29 #[.agg #[.string q.s, .slice q.a1 q.n1 q.c1, .slice q.a2 q.n2 q.c2, .slice q.a3 q.n3 q.c3, .slice q.a4 m.nc q.c4, .slice q.a5 q.n5 q.c5, .slice q.a6 q.n6 q.c6, .slice q.a7 m.ns q.c7, .slice q.a8 m.nt q.c8, .slice q.a9 q.n9 q.c9, .slice q.a10 m.nh q.c10], .int .i64 (k : Int)] w fun e w' => e = .returned (.tuple #[.slice none 0 0, .int .i64 (chkI c0 c1 c2 c3 c4 c5 c6 c7 c8 c9)]) ∧ Below w.heap.size w w' := by
  have HB := Lib.hid ((Below.refl w.heap.size w).alloc (Nat.le_refl _) (.cells #[.string q.s, .slice q.a1 q.n1 q.c1, .slice q.a2 q.n2 q.c2, .slice q.a3 q.n3 q.c3, .slice q.a4 m.nc q.c4, .slice q.a5 q.n5 q.c5, .slice q.a6 q.n6 q.c6, .slice q.a7 m.ns q.c7, .slice q.a8 m.nt q.c8, .slice q.a9 q.n9 q.c9, .slice q.a10 m.nh q.c10] 60))
  obtain ⟨b, o, ha, hb, k0, k1, k2, k3, k4, k5, k6, k7, k8, k9⟩ := hm.code.ten hk hc HB.out
  have HC := Lib.hid (fun w => check_calls c0 c1 c2 c3 c4 c5 c6 c7 c8 c9 w)
  generalize chkI c0 c1 c2 c3 c4 c5 c6 c7 c8 c9 = r at *
  have hne' : (r != 0) = true := by simpa using hne
  have g0 : ¬ (k : Int) < 0 := by omega
  have g1 : ¬ (m.nc : Int) ≤ (k : Int) := by omega
  have i0 : (0 : Int) ≤ (k : Int) := by omega
  have i1 : (k : Int) < (m.nc : Int) := by omega
  rw [ha] at HB k0 k1 k2 k3 k4 k5 k6 k7 k8 k9 ⊢
  clear hm hc hne ha hb
  go_enter Tryd.func29, Tryd.ntmps29
  go_wp2_with (go_at_call 21; refine (HC.out _).mono ?_; rintro e w3 ⟨rfl, hb3⟩; have HB3 := Lib.hid ((HB.out.alloc HB.out.size _).step2 hb3); clear hb3)
  all_goals go_ret2
  all_goals exact ⟨rfl, HB3.out⟩
end Go.Proofs.YtadkbcdopcehhaaDoor
