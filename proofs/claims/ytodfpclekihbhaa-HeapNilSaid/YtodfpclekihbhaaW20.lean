/- All: slices.Sorted over maps.Keys. -/
import Derived.Test.YtodfpclekihbhaaW19
import Derived.Test.YtodfpclekihbhaaIter
import Derived.Lib.SlKeysI
import Derived.Maps.OwnSet
namespace Go.Proofs.Ytodfpclekihbhaa
open Go.RowKit Go.Maps Go.Shelf Go.Sort

def RT : Value → Option (DataW Unit × List MemPlace) := fun _ => some (.nil, [])
def kI : Value → Int
  | .int _ a => a
  | _ => 0
/-- Keys that fit. -/
def KeysIn {α : Type} (L : List (Int × α)) : Prop := ∀ p ∈ L, -9223372036854775808 ≤ p.1 ∧ p.1 ≤ 9223372036854775807
theorem owns_trivial {α : Type} {V : α → Value} {w : World} {b : Nat} {L : List (Int × α)} (h : Mp.MapIs w b kV V L) (hk : KeysIn L) (hn : L.length ≤ 1000000) :
    ∃ D0 : DataW Unit, w.ownsMap Try.prog 26 RT b L.length D0 ∧ Maps.size D0 = L.length ∧ (Go.intKeys D0).Perm (L.map (·.1)) := by
  obtain ⟨es, clk, hb, hst, hm⟩ := h
  have hsz : es.size = L.length := by have := congrArg List.length hm; simpa using this
  have hkey : ∀ x ∈ es.toList, ∃ k : Int, x.key = .int .i64 k ∧ (Lit.int .i64 k).wf = true := fun x hx => by
    have h1 : (x.key, x.val) ∈ es.toList.map (fun x => (x.key, x.val)) := List.mem_map.2 ⟨x, hx, rfl⟩
    rw [hm] at h1
    obtain ⟨y, hy, h2⟩ := List.mem_map.1 h1
    have h3 := hk y hy
    exact ⟨y.1, (Prod.mk.inj h2).1.symm, by simp [Lit.wf, IntKind.min, IntKind.max, IntKind.signed, IntKind.bits]; omega⟩
  have hrd : ∀ x ∈ es.toList, WideElems.rd Try.prog 26 RT x = some (.int .i64 (kI x.key), .nil) := fun x hx => by
    obtain ⟨k, h1, h2⟩ := hkey x hx
    unfold WideElems.rd
    rw [h1, keyOf_int_mk Try.underlying26 h2]
    rfl
  refine ⟨_, ⟨es, clk, hb, ⟨by rw [hsz]; simp only [maxLen]; omega, hst, fun x hx => ⟨_, hrd x hx⟩⟩, Nat.le_of_eq hsz, rfl⟩, ?_, ?_⟩
  · show ((es.toList.map (WideElems.rg Try.prog 26 RT)).foldr DataW.insert []).length = L.length
    rw [length_read, hsz]
  · show (((es.toList.map (WideElems.rg Try.prog 26 RT)).foldr DataW.insert []).map fun p => Go.intOf p.1).Perm _
    refine ((Go.WideShapes.sorted_perm _).map _).trans (List.Perm.of_eq ?_)
    rw [List.map_map]
    have h5 : es.toList.map ((fun p => Go.intOf p.1) ∘ WideElems.rg Try.prog 26 RT) = es.toList.map fun x => kI x.key := List.map_congr_left fun x hx => by
      have h7 : WideElems.rg Try.prog 26 RT x = (.int .i64 (kI x.key), .nil) := by unfold WideElems.rg; rw [hrd x hx, Option.getD_some]
      simp only [Function.comp, h7, Go.intOf]
    rw [h5]
    have h6 : (es.toList.map fun x => kI x.key) = (es.toList.map (fun x => (x.key, x.val))).map (fun y => kI y.1) := by rw [List.map_map]; rfl
    rw [h6, hm, List.map_map]
    rfl
theorem sortsA (m : Nat) : AnyZI.SortsIn Try.prog Try.sortedA_ren Fence.wide m :=
  ⟨fun blk off cap ss W hH hblk hsz => callsIn_wide.2 (AnyM.slices_Sort_int Try.sortA blk off cap ss W hH hblk hsz),
   fun p cap W => callsIn_wide.2 (AnyM.slices_Sort_int_none Try.sortA p cap W)⟩
theorem keysO_calls (mb : Option Nat) (w : World) : Calls Try.prog 78 #[.map mb] w fun e w' => e = .returned (.func (.func 92) #[] #[.pointer (some ⟨w.heap.size, 0, none⟩)]) ∧ w' = w.alloc (.cells #[.map mb] 93) :=
  (callsIn_wide (n := 5)).1 (AnyZI.keys_in Try.keysO Fence.wide 5 trivial rfl mb w)
set_option maxHeartbeats 1000000 in
theorem sortedO_calls {α : Type} {V : α → Value} {w : World} {b : Nat} {L : List (Int × α)} (h : Mp.MapIs w b kV V L) (hk : KeysIn L) (hn : L.length ≤ 1000000) :
    Calls Try.prog 77 #[.func (.func 92) #[] #[.pointer (some ⟨w.heap.size, 0, none⟩)]] (w.alloc (.cells #[.map (some b)] 93)) fun e w' => ∃ A C, e = .returned (.slice A (keysS L).length C) ∧ w'.ownsRow w.heap.size 26 1 (.slice A (keysS L).length C) (keysS L).length (ints (keysS L)) ∧ Below (w.alloc (.cells #[.map (some b)] 93)).heap.size (w.alloc (.cells #[.map (some b)] 93)) w' := by
  obtain ⟨D0, hown, hsz, hperm⟩ := owns_trivial h hk hn
  have hbl := hown.lt
  have hseq : SeqGives Fence.wide 2 Try.prog 92 #[.pointer (some ⟨w.heap.size, 0, none⟩)] Go.encZ (fun ss => ss.Perm (Go.intKeys D0)) (Maps.size D0) (w.alloc (.cells #[.map (some b)] 93)) :=
    AnyZI.keys_gives (ρ := Try.keysO_ren) { Try.keysO with } Fence.wide _ trivial rfl (by omega) w.heap.size b L.length D0 _ (by simp) (by simp) (by
      obtain ⟨es, clock, hb, Ft, hs, hD⟩ := hown
      exact ⟨es, clock, (Below.heap_alloc _ _ b hbl).trans hb, Ft, hs, hD⟩)
  have cS := AnyZI.sorted_in Try.sortedA Fence.wide 5 trivial trivial trivial trivial rfl (by omega) (sortsA _) (enters_of Try.func88 (by kernel_rfl) rfl) 92 #[.pointer (some ⟨w.heap.size, 0, none⟩)] trivial (enters_of Try.func92 (by kernel_rfl) rfl) _ _ (by rw [hsz]; simp only [maxLen]; omega) (by rw [hsz]; omega) _ hseq
  change CallsIn _ _ Try.prog 77 _ _ _ at cS
  refine ((callsIn_wide (n := 5)).1 cS).mono fun e w' ⟨v, ss, e1, hS, hrow, _, hb⟩ => ?_
  have hs2 : ss.mergeSort (fun x y => decide (x ≤ y)) = keysS L := Go.mergeSort_of_perm_i (hS.trans hperm)
  have hlen : ss.length = (keysS L).length := by rw [← hs2, List.length_mergeSort]
  rw [hs2, hlen] at hrow
  obtain ⟨A, C, rfl⟩ := own_slice hrow
  exact ⟨A, C, e1, hrow.mono (by simp), hb⟩
theorem keysB_calls (mb : Option Nat) (w : World) : Calls Try.prog 79 #[.map mb] w fun e w' => e = .returned (.func (.func 93) #[] #[.pointer (some ⟨w.heap.size, 0, none⟩)]) ∧ w' = w.alloc (.cells #[.map mb] 79) :=
  (callsIn_wide (n := 5)).1 (AnyZI.keys_in Try.keysB Fence.wide 5 trivial rfl mb w)
set_option maxHeartbeats 1000000 in
theorem sortedB_calls {α : Type} {V : α → Value} {w : World} {b : Nat} {L : List (Int × α)} (h : Mp.MapIs w b kV V L) (hk : KeysIn L) (hn : L.length ≤ 1000000) :
    Calls Try.prog 77 #[.func (.func 93) #[] #[.pointer (some ⟨w.heap.size, 0, none⟩)]] (w.alloc (.cells #[.map (some b)] 79)) fun e w' => ∃ A C, e = .returned (.slice A (keysS L).length C) ∧ w'.ownsRow w.heap.size 26 1 (.slice A (keysS L).length C) (keysS L).length (ints (keysS L)) ∧ Below (w.alloc (.cells #[.map (some b)] 79)).heap.size (w.alloc (.cells #[.map (some b)] 79)) w' := by
  obtain ⟨D0, hown, hsz, hperm⟩ := owns_trivial h hk hn
  have hbl := hown.lt
  have hseq : SeqGives Fence.wide 2 Try.prog 93 #[.pointer (some ⟨w.heap.size, 0, none⟩)] Go.encZ (fun ss => ss.Perm (Go.intKeys D0)) (Maps.size D0) (w.alloc (.cells #[.map (some b)] 79)) :=
    AnyZI.keys_gives (ρ := Try.keysB_ren) { Try.keysB with } Fence.wide _ trivial rfl (by omega) w.heap.size b L.length D0 _ (by simp) (by simp) (by
      obtain ⟨es, clock, hb, Ft, hs, hD⟩ := hown
      exact ⟨es, clock, (Below.heap_alloc _ _ b hbl).trans hb, Ft, hs, hD⟩)
  have cS := AnyZI.sorted_in Try.sortedA Fence.wide 5 trivial trivial trivial trivial rfl (by omega) (sortsA _) (enters_of Try.func88 (by kernel_rfl) rfl) 93 #[.pointer (some ⟨w.heap.size, 0, none⟩)] trivial (enters_of Try.func93 (by kernel_rfl) rfl) _ _ (by rw [hsz]; simp only [maxLen]; omega) (by rw [hsz]; omega) _ hseq
  change CallsIn _ _ Try.prog 77 _ _ _ at cS
  refine ((callsIn_wide (n := 5)).1 cS).mono fun e w' ⟨v, ss, e1, hS, hrow, _, hb⟩ => ?_
  have hs2 : ss.mergeSort (fun x y => decide (x ≤ y)) = keysS L := Go.mergeSort_of_perm_i (hS.trans hperm)
  have hlen : ss.length = (keysS L).length := by rw [← hs2, List.length_mergeSort]
  rw [hs2, hlen] at hrow
  obtain ⟨A, C, rfl⟩ := own_slice hrow
  exact ⟨A, C, e1, hrow.mono (by simp), hb⟩
variable {w : World} {hb : Nat} {A : HA} {H : Hp} {S : Nat → Prop}
theorem all_nil (w : World) : Calls Try.prog 40 #[.pointer none] w fun e w' => e = .returned (.slice none 0 0) ∧ w = w' := by
  go_enter Try.func40, Try.ntmps40
  go_wp2
  all_goals go_ret
  all_goals exact ⟨rfl, rfl⟩
theorem keys_obAdr (A : HA) (L : List (Int × Ob)) : keysS (obAdr A L) = keysS L := by
  unfold keysS obAdr
  rw [List.map_map]
  rfl
theorem all_calls (h : HpAt w hb A H S) (hi : Inv H []) (hl : H.last ≤ 1000000) : Calls Try.prog 40 #[.pointer (some ⟨hb, 0, none⟩)] w (RfPost w (allH H)) := by
  have hlen : H.objs.length ≤ 1000000 := Nat.le_trans (length_le_of_keys hi.ndO hi.rng) hl
  have hk : KeysIn (obAdr A H.objs) := fun p hp => by
    obtain ⟨q, hq, rfl⟩ := List.mem_map.1 hp
    have := hi.rng q.1 q.2 (Mp.get_of_mem hi.ndO hq)
    simp only
    omega
  have hS := Lib.hid (sortedO_calls h.omap hk (by simp [obAdr]; exact hlen))
  rw [keys_obAdr] at hS
  have hK := Lib.hid (keysO_calls (some A.mb) w)
  have HB : Hid (Below w.heap.size w (w.alloc (.cells #[.map (some A.mb)] 93))) := Lib.hid ((Below.refl _ _).alloc (Nat.le_refl _) _)
  obtain ⟨c0, _⟩ := h.cells
  clear h hi hlen hk
  go_enter Try.func40, Try.ntmps40
  go_wp2_with (first
    | (go_at_call 78; refine hK.out.mono ?_; rintro e w1 ⟨rfl, rfl⟩)
    | (go_at_call 77; refine hS.out.mono ?_; rintro e w2 ⟨A1, C1, rfl, ho, hb2⟩; have HO := Lib.hid ho; have HB2 := Lib.hid (HB.out.trans (hb2.mono HB.out.size)); clear ho hb2))
  go_ret
  exact ⟨A1, C1, rfl, HO.out, HB2.out⟩
end Go.Proofs.Ytodfpclekihbhaa
