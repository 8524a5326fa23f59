/- Contract: slices.Sorted over maps.Keys of the map of processes. -/
import Derived.Test.YtnbjknjnpfmklaaP12
import Derived.Test.YtnbjknjnpfmklaaIter
import Derived.Lib.SlKeysI
import Derived.Maps.OwnSet
import Derived.Test.YtnbjknjnpfmklaaShelf
namespace Go.Proofs.Ytnbjknjnpfmklaa
open Go.RowKit Go.Maps Go.Shelf Go.Sort

def oneTo (n : Nat) : List Int := (List.range n).map fun (i : Nat) => (i : Int) + 1
def RT : Value → Option (DataW Unit × List MemPlace) := fun _ => some (.nil, [])
def kI : Value → Int
  | .int _ a => a
  | _ => 0
theorem fst_prsFrom (P : List Pr) (k : Int) : (prsFrom k P).map (·.1) = (List.range P.length).map fun (i : Nat) => (i : Int) + k := by
  apply List.ext_getElem?
  intro j
  rw [List.getElem?_map, prsFrom_get, List.getElem?_map]
  by_cases h : j < P.length
  · rw [List.getElem?_eq_getElem h, List.getElem?_range h]
    simp; omega
  · rw [List.getElem?_eq_none (by omega), List.getElem?_eq_none (by simp; omega)]; rfl
theorem fst_prs (P : List Pr) : (prs P).map (·.1) = oneTo P.length := fst_prsFrom P 1
theorem owns_trivial {w : World} {b : Nat} {P : List Pr} (h : Mp.MapIs w b kV prV (prs P)) (hn : P.length ≤ 100000) :
    ∃ D0 : DataW Unit, w.ownsMap Try.prog 3 RT b P.length D0 ∧ Maps.size D0 = P.length ∧ (Go.intKeys D0).Perm (oneTo P.length) := by
  obtain ⟨es, clk, hb, hst, hm⟩ := h
  have hsz : es.size = P.length := by have := congrArg List.length hm; simpa [prs, len_prsFrom] using this
  have hkey : ∀ x ∈ es.toList, ∃ k : Int, x.key = .int .i64 k ∧ (Lit.int .i64 k).wf = true := fun x hx => by
    have h1 : (x.key, x.val) ∈ es.toList.map (fun x => (x.key, x.val)) := List.mem_map.2 ⟨x, hx, rfl⟩
    rw [hm] at h1
    obtain ⟨y, hy, h2⟩ := List.mem_map.1 h1
    have h3 : y.1 ∈ oneTo P.length := by rw [← fst_prs]; exact List.mem_map.2 ⟨y, hy, rfl⟩
    obtain ⟨i, hi, h4⟩ := List.mem_map.1 h3
    have hi := List.mem_range.1 hi
    exact ⟨y.1, (Prod.mk.inj h2).1.symm, by simp [Lit.wf, IntKind.min, IntKind.max, IntKind.signed, IntKind.bits]; omega⟩
  have hrd : ∀ x ∈ es.toList, WideElems.rd Try.prog 3 RT x = some (.int .i64 (kI x.key), .nil) := fun x hx => by
    obtain ⟨k, h1, h2⟩ := hkey x hx
    unfold WideElems.rd
    rw [h1, keyOf_int_mk Try.underlying3 h2]
    rfl
  refine ⟨_, ⟨es, clk, hb, ⟨by rw [hsz]; simp only [maxLen]; omega, hst, fun x hx => ⟨_, hrd x hx⟩⟩, Nat.le_of_eq hsz, rfl⟩, ?_, ?_⟩
  · show ((es.toList.map (WideElems.rg Try.prog 3 RT)).foldr DataW.insert []).length = P.length
    rw [length_read, hsz]
  · show (((es.toList.map (WideElems.rg Try.prog 3 RT)).foldr DataW.insert []).map fun p => Go.intOf p.1).Perm _
    refine ((Go.WideShapes.sorted_perm _).map _).trans (List.Perm.of_eq ?_)
    rw [List.map_map, ← fst_prs]
    have h5 : es.toList.map ((fun p => Go.intOf p.1) ∘ WideElems.rg Try.prog 3 RT) = es.toList.map fun x => kI x.key := List.map_congr_left fun x hx => by
      have h7 : WideElems.rg Try.prog 3 RT x = (.int .i64 (kI x.key), .nil) := by unfold WideElems.rg; rw [hrd x hx, Option.getD_some]
      simp only [Function.comp, h7, Go.intOf]
    rw [h5]
    have h6 : (es.toList.map fun x => kI x.key) = (es.toList.map (fun x => (x.key, x.val))).map (fun y => kI y.1) := by rw [List.map_map]; rfl
    rw [h6, hm, List.map_map]
    rfl
theorem oneTo_sorted (n : Nat) : (oneTo n).mergeSort Go.leI = oneTo n := by
  refine List.mergeSort_of_pairwise ?_
  unfold oneTo
  rw [List.pairwise_map]
  exact List.pairwise_lt_range.imp fun h => by simp [Go.leI]; omega
theorem keys_calls (mb : Option Nat) (w : World) : Calls Try.prog 38 #[.map mb] w fun e w' => e = .returned (.func (.func 57) #[] #[.pointer (some ⟨w.heap.size, 0, none⟩)]) ∧ w' = w.alloc (.cells #[.map mb] 61) :=
  (callsIn_wide (n := 5)).1 (AnyZI.keys_in Try.keysA Fence.wide 5 trivial rfl mb w)
theorem sortsA (m : Nat) : AnyZI.SortsIn Try.prog Try.sortedA_ren Fence.wide m :=
  ⟨fun blk off cap ss W hH hblk hsz => callsIn_wide.2 (Try.slices_Sort_int blk off cap ss W hH hblk hsz),
   fun p cap W => callsIn_wide.2 (Try.slices_Sort_int_none p cap W)⟩
set_option maxHeartbeats 1000000 in
theorem sorted_calls {w : World} {b : Nat} {P : List Pr} (h : Mp.MapIs w b kV prV (prs P)) (hn : P.length ≤ 100000) :
    Calls Try.prog 37 #[.func (.func 57) #[] #[.pointer (some ⟨w.heap.size, 0, none⟩)]] (w.alloc (.cells #[.map (some b)] 61)) fun e w' => ∃ A C, e = .returned (.slice A P.length C) ∧ w'.ownsRow w.heap.size 3 1 (.slice A P.length C) P.length (ints (oneTo P.length)) ∧ Below (w.alloc (.cells #[.map (some b)] 61)).heap.size (w.alloc (.cells #[.map (some b)] 61)) w' := by
  obtain ⟨D0, hown, hsz, hperm⟩ := owns_trivial h hn
  have hbl := hown.lt
  have hseq : SeqGives Fence.wide 2 Try.prog 57 #[.pointer (some ⟨w.heap.size, 0, none⟩)] Go.encZ (fun ss => ss.Perm (Go.intKeys D0)) (Maps.size D0) (w.alloc (.cells #[.map (some b)] 61)) :=
    AnyZI.keys_gives (ρ := Try.keysA_ren) { Try.keysA with } Fence.wide _ trivial rfl (by omega) w.heap.size b P.length D0 _ (by simp) (by simp) (by
      obtain ⟨es, clock, hb, Ft, hs, hD⟩ := hown
      exact ⟨es, clock, (Below.heap_alloc _ _ b hbl).trans hb, Ft, hs, hD⟩)
  have cS := AnyZI.sorted_in Try.sortedA Fence.wide 5 trivial trivial trivial trivial rfl (by omega) (sortsA _) (enters_of Try.func56 (by kernel_rfl) rfl) 57 #[.pointer (some ⟨w.heap.size, 0, none⟩)] trivial (enters_of Try.func57 (by kernel_rfl) rfl) _ _ (by rw [hsz]; simp only [maxLen]; omega) (by rw [hsz]; omega) _ hseq
  change CallsIn _ _ Try.prog 37 _ _ _ at cS
  refine ((callsIn_wide (n := 5)).1 cS).mono fun e w' ⟨v, ss, e1, hS, hrow, _, hb⟩ => ?_
  have hs2 : ss.mergeSort (fun x y => decide (x ≤ y)) = oneTo P.length := (Go.mergeSort_of_perm_i (hS.trans hperm)).trans (oneTo_sorted _)
  have hlen : ss.length = P.length := by have := (hS.trans hperm).length_eq; simpa [oneTo] using this
  rw [hs2, hlen] at hrow
  obtain ⟨A, C, rfl⟩ := own_slice hrow
  exact ⟨A, C, e1, hrow.mono (by simp), hb⟩
end Go.Proofs.Ytnbjknjnpfmklaa
