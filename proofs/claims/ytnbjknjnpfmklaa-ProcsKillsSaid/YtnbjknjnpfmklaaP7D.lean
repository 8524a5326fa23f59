/- Contract: without. -/
import Derived.Test.YtnbjknjnpfmklaaP7A
import Derived.Test.YtnbjknjnpfmklaaP7B
import Derived.Test.YtnbjknjnpfmklaaP7C
namespace Go.Proofs.Ytnbjknjnpfmklaa
open Go.RowKit

theorem without_calls (zs : List Int) (m i : Nat) (hlen : zs.length = m + 1) (hi : i ≤ m) (b o C : Nat) (w : World) (hm : m ≤ 100000) (hC : m + 1 ≤ C)
    (hr : ∀ j, j < zs.length → w.cell? ⟨b, o + j, none⟩ = some (.int .i64 (zs.getD j 0))) (hb : b < w.heap.size) :
    Calls Try.prog 33 #[.slice (some ⟨b, o, none⟩) (m + 1) C, .int .i64 (i : Int)] w fun e w' => e = .returned (.slice (some ⟨w.heap.size, 0, none⟩) m m) ∧ w'.ownsRow w.heap.size 3 1 (.slice (some ⟨w.heap.size, 0, none⟩) m m) m (ints (zs.eraseIdx i)) ∧ Below w.heap.size w w' := by
  by_cases h1 : i = m
  · by_cases h2 : C = i + 1
    · exact without_a zs m i hlen hi b o C w hm hC hr h1 h2 hb
    · exact without_b zs m i hlen hi b o C w hm hC hr h1 (by omega) hb
  · exact without_c zs m i hlen hi b o C w hm hC hr (by omega) hb
end Go.Proofs.Ytnbjknjnpfmklaa
