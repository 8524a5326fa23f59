/- The contract of the reference's Next. -/
import Derived.Test.YtadkbcdopcehhaaDoorE11
namespace Go.Proofs.YtadkbcdopcehhaaDoor
open Go.RowKit

theorem with_new (zs : List Int) (n : Int) (A : Option Addr) (C : Nat) (w : World) (hr : RowI w A zs) (hl : zs.length ≤ 10000) :
    Calls Tryd.prog 46 #[.slice A zs.length C, .int .i64 n] w fun e w' => ∃ ys A1 C1, e = .returned (.slice A1 ys.length C1) ∧ ys = withI zs n ∧ RowI w' A1 ys ∧ Below w.heap.size w w' :=
  (with_calls zs n A C w hr hl).mono fun _ _ ⟨A1, C1, h1, h2, h3⟩ => ⟨_, A1, C1, h1, rfl, RowI.of_own h2, h3⟩

theorem rnext_out (q : MdA) (m : MdV) (at_ : Int) (w : World) (h : at_ < 0 ∨ (m.nc : Int) ≤ at_) :
    Calls Tryd.prog 30 #[.agg #[.string q.s, .slice q.a1 q.n1 q.c1, .slice q.a2 q.n2 q.c2, .slice q.a3 q.n3 q.c3, .slice q.a4 m.nc q.c4, .slice q.a5 q.n5 q.c5, .slice q.a6 q.n6 q.c6, .slice q.a7 m.ns q.c7, .slice q.a8 m.nt q.c8, .slice q.a9 q.n9 q.c9, .slice q.a10 m.nh q.c10], .int .i64 at_] w fun e w' => e = .returned (.tuple #[.slice none 0 0, .int .i64 11]) ∧ Below w.heap.size w w' := by
  have HB := Lib.hid ((Below.refl w.heap.size w).alloc (Nat.le_refl _) (.cells #[.string q.s, .slice q.a1 q.n1 q.c1, .slice q.a2 q.n2 q.c2, .slice q.a3 q.n3 q.c3, .slice q.a4 m.nc q.c4, .slice q.a5 q.n5 q.c5, .slice q.a6 q.n6 q.c6, .slice q.a7 m.ns q.c7, .slice q.a8 m.nt q.c8, .slice q.a9 q.n9 q.c9, .slice q.a10 m.nh q.c10] 60))
  by_cases c1 : at_ < 0
  · clear h
    go_enter Tryd.func30, Tryd.ntmps30
    go_wp2
    all_goals go_ret2
    all_goals exact ⟨rfl, HB.out⟩
  · have c2 : (m.nc : Int) ≤ at_ := by omega
    clear h
    go_enter Tryd.func30, Tryd.ntmps30
    go_wp2
    all_goals go_ret2
    all_goals exact ⟨rfl, HB.out⟩

set_option maxHeartbeats 1000000 in
theorem rnext_err (q : MdA) (m : MdV) (k : Nat) (hk : k < m.nc) (w : World) (hm : MdIs w q m) (c0 c1 c2 c3 c4 c5 c6 c7 c8 c9 : Int) (hc : ∀ i, i < 10 → m.c k i = [c0, c1, c2, c3, c4, c5, c6, c7, c8, c9].getD i 0) (hne : chkI c0 c1 c2 c3 c4 c5 c6 c7 c8 c9 ≠ 0) :
    Calls Tryd.prog 30 #[.agg #[.string q.s, .slice q.a1 q.n1 q.c1, .slice q.a2 q.n2 q.c2, .slice q.a3 q.n3 q.c3, .slice q.a4 m.nc q.c4, .slice q.a5 q.n5 q.c5, .slice q.a6 q.n6 q.c6, .slice q.a7 m.ns q.c7, .slice q.a8 m.nt q.c8, .slice q.a9 q.n9 q.c9, .slice q.a10 m.nh q.c10], .int .i64 (k : Int)] w fun e w' => e = .returned (.tuple #[.slice none 0 0, .int .i64 (chkI c0 c1 c2 c3 c4 c5 c6 c7 c8 c9)]) ∧ Below w.heap.size w w' := by
  have HB := Lib.hid ((Below.refl w.heap.size w).alloc (Nat.le_refl _) (.cells #[.string q.s, .slice q.a1 q.n1 q.c1, .slice q.a2 q.n2 q.c2, .slice q.a3 q.n3 q.c3, .slice q.a4 m.nc q.c4, .slice q.a5 q.n5 q.c5, .slice q.a6 q.n6 q.c6, .slice q.a7 m.ns q.c7, .slice q.a8 m.nt q.c8, .slice q.a9 q.n9 q.c9, .slice q.a10 m.nh q.c10] 60))
  obtain ⟨b, o, ha, hb, k0, k1, k2, k3, k4, k5, k6, k7, k8, k9⟩ := hm.code.ten hk hc HB.out
  have HC := Lib.hid (fun w => rcheck_calls c0 c1 c2 c3 c4 c5 c6 c7 c8 c9 w)
  generalize chkI c0 c1 c2 c3 c4 c5 c6 c7 c8 c9 = r at *
  have hne' : (r != 0) = true := by simpa using hne
  have g0 : ¬ (k : Int) < 0 := by omega
  have g1 : ¬ (m.nc : Int) ≤ (k : Int) := by omega
  have i0 : (0 : Int) ≤ (k : Int) := by omega
  have i1 : (k : Int) < (m.nc : Int) := by omega
  rw [ha] at HB k0 k1 k2 k3 k4 k5 k6 k7 k8 k9 ⊢
  clear hm hc hne ha hb
  go_enter Tryd.func30, Tryd.ntmps30
  go_wp2_with (go_at_call 22; refine (HC.out _).mono ?_; rintro e w3 ⟨rfl, hb3⟩; have HB3 := Lib.hid ((HB.out.alloc HB.out.size _).step2 hb3); clear hb3)
  all_goals go_ret2
  all_goals exact ⟨rfl, HB3.out⟩

end Go.Proofs.YtadkbcdopcehhaaDoor
