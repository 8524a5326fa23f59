/- The contract of the reference's Next, joined. -/
import Derived.Test.YtadkbcdopcehhaaDoorE12A
import Derived.Test.YtadkbcdopcehhaaDoorE12B
import Derived.Test.YtadkbcdopcehhaaDoorE12C
import Derived.Test.YtadkbcdopcehhaaDoorE12D
namespace Go.Proofs.YtadkbcdopcehhaaDoor
open Go.RowKit

theorem rnext_in (q : MdA) (m : MdV) (k : Nat) (hk : k < m.nc) (w : World) (hm : MdIs w q m) (hf : Few m) (c0 c1 c2 c3 c4 c5 c6 c7 c8 c9 : Int) (hc : ∀ i, i < 10 → m.c k i = [c0, c1, c2, c3, c4, c5, c6, c7, c8, c9].getD i 0)
    (s : ByteArray) (x y z : UInt8) (Y Z : Int) (hY : (y.toNat : Int) = Y) (hZ : (z.toNat : Int) = Z) (en : Bool)
    (hchk : ∀ w, Calls Tryd.prog 22 #[.agg #[.int .i64 c0, .int .i64 c1, .int .i64 c2, .int .i64 c3, .int .i64 c4, .int .i64 c5, .int .i64 c6, .int .i64 c7, .int .i64 c8, .int .i64 c9]] w fun e w' => e = .returned (.int .i64 0) ∧ Below w.heap.size w w')
    (hends : ∀ w, Calls Tryd.prog 32 #[.int .i64 c0] w fun e w' => e = .returned (.bool en) ∧ Below w.heap.size w w')
    (hentry : ∀ w, Calls Tryd.prog 13 #[.int .i64 c0] w fun e w' => e = .returned (.tuple #[.string s, .string ⟨#[x, y, z]⟩]) ∧ Below w.heap.size w w')
    (hA : Y = 115 ∨ Y = 116 → 0 ≤ c5) (T L : List Int) (E : Int) (hT : T = tabI m Y c5)
    (h4s : Y = 115 → (m.ns : Int) ≤ c5 → L = [] ∧ E = 4) (h4t : Y = 116 → (m.nt : Int) ≤ c5 → L = [] ∧ E = 4)
    (h0 : ¬ (Y = 115 ∧ (m.ns : Int) ≤ c5) → ¬ (Y = 116 ∧ (m.nt : Int) ≤ c5) → L = withs (((if en then [] else [(k : Int) + 1]) ++ (if Z = 106 then [c8] else [])) ++ T) ∧ E = 0) :
    Calls Tryd.prog 30 #[.agg #[.string q.s, .slice q.a1 q.n1 q.c1, .slice q.a2 q.n2 q.c2, .slice q.a3 q.n3 q.c3, .slice q.a4 m.nc q.c4, .slice q.a5 q.n5 q.c5, .slice q.a6 q.n6 q.c6, .slice q.a7 m.ns q.c7, .slice q.a8 m.nt q.c8, .slice q.a9 q.n9 q.c9, .slice q.a10 m.nh q.c10], .int .i64 (k : Int)] w fun e w' => NxR w L E e w' := by
  by_cases eZ : Z = 106
  · cases en
    · exact rnext_c0 q m k hk w hm hf c0 c1 c2 c3 c4 c5 c6 c7 c8 c9 hc s x y z Y Z hY hZ false hchk hends hentry hA T L E hT h4s h4t h0 rfl eZ
    · exact rnext_c1 q m k hk w hm hf c0 c1 c2 c3 c4 c5 c6 c7 c8 c9 hc s x y z Y Z hY hZ true hchk hends hentry hA T L E hT h4s h4t h0 rfl eZ
  · cases en
    · exact rnext_c2 q m k hk w hm hf c0 c1 c2 c3 c4 c5 c6 c7 c8 c9 hc s x y z Y Z hY hZ false hchk hends hentry hA T L E hT h4s h4t h0 rfl eZ
    · exact rnext_c3 q m k hk w hm hf c0 c1 c2 c3 c4 c5 c6 c7 c8 c9 hc s x y z Y Z hY hZ true hchk hends hentry hA T L E hT h4s h4t h0 rfl eZ
end Go.Proofs.YtadkbcdopcehhaaDoor
