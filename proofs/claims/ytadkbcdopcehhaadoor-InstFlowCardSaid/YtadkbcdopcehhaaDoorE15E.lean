/- The law InstFlow, joined. -/
import Derived.Test.YtadkbcdopcehhaaDoorE15A
import Derived.Test.YtadkbcdopcehhaaDoorE15B
import Derived.Test.YtadkbcdopcehhaaDoorE15C
import Derived.Test.YtadkbcdopcehhaaDoorE15D
set_option linter.unusedSimpArgs false
namespace Go.Proofs.YtadkbcdopcehhaaDoor
open Go.RowKit

theorem law_flow (q : MdA) (m : MdV) (at_ : Int) (w : World) (hm : MdIs w q m) (ht : SpTab w) :
    Calls Tryd.prog 11 #[.agg #[.string q.s, .slice q.a1 q.n1 q.c1, .slice q.a2 q.n2 q.c2, .slice q.a3 q.n3 q.c3, .slice q.a4 m.nc q.c4, .slice q.a5 q.n5 q.c5, .slice q.a6 q.n6 q.c6, .slice q.a7 m.ns q.c7, .slice q.a8 m.nt q.c8, .slice q.a9 q.n9 q.c9, .slice q.a10 m.nh q.c10], .int .i64 at_] w fun e w' => e = .returned (.bool true) ∧ Below w.heap.size w w' := by
  by_cases hE : nxE m at_ = 0
  · have h1 : ¬ outM m at_ := fun h => by unfold nxE at hE; rw [if_pos h] at hE; omega
    obtain ⟨k, rfl⟩ : ∃ k : Nat, at_ = (k : Int) := ⟨at_.toNat, by unfold outM at h1; omega⟩
    have hc : chkM m k = 0 := by
      unfold nxE at hE
      rw [if_neg h1, Int.toNat_natCast] at hE
      by_cases hc : chkM m k ≠ 0
      · rw [if_pos hc] at hE; contradiction
      · omega
    have hk : k < m.nc := by unfold outM at h1; omega
    have hf := fitM m k hc
    by_cases eZ : zM m k = 106
    · exact flow_c0 q m k hk w hm ht hE hf eZ
    · by_cases eY : yM m k = 115
      · exact flow_c1 q m k hk w hm ht hE hf eZ eY
      · by_cases eT : yM m k = 116
        · exact flow_c2 q m k hk w hm ht hE hf eZ eY eT
        · exact flow_c3 q m k hk w hm ht hE hf eZ eY eT
  · exact flow_err q m at_ w hm ht hE
end Go.Proofs.YtadkbcdopcehhaaDoor
