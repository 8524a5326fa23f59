/- copied: a shape in its own memory. -/
import Derived.Test.YtodfpclekihbhaaW7
import Derived.Deep.RegionHeld3
import Derived.Deep.RegionWith
namespace Go.Proofs.Ytodfpclekihbhaa
open Go.RowKit Go.Shelf

/-- A slice of booleans that can be read. -/
structure RdB (w : World) (ad : Option Addr) (C : Nat) (refs : List Bool) : Prop where
  cell : ∀ a, ad = some a → ∀ j u, (refs.map Value.bool)[j]? = some u → w.cell? (a.add j) = some u
  nil : ad = none → refs = [] ∧ C = 0
theorem RdB.below {w w' : World} {ad : Option Addr} {C : Nat} {refs : List Bool} (h : RdB w ad C refs) (hb : Below w.heap.size w w') : RdB w' ad C refs :=
  ⟨fun a ha j u hj => (hb.cell (lt_of_cell (h.cell a ha j u hj))).trans (h.cell a ha j u hj), h.nil⟩
theorem clone_bools {w : World} {ad : Option Addr} {C : Nat} {refs : List Bool} (h : RdB w ad C refs) (hn : refs.length ≤ 100000000) :
    Calls Try.prog 86 #[.slice ad refs.length C] w fun e w' => ∃ A' C', e = .returned (.slice A' refs.length C') ∧ w'.ownsRow w.heap.size 4 1 (.slice A' refs.length C') refs.length (refs.map Value.bool) ∧ Below w.heap.size w w' :=
  (cloneBool ad refs.length C (refs.map Value.bool) w (by simp) h.cell (by intro u hu; obtain ⟨b, _, rfl⟩ := List.mem_map.1 hu; rfl) (fun e => by obtain ⟨h1, h2⟩ := h.nil e; rw [h1]; exact ⟨rfl, h2⟩) hn).mono fun _ _ ⟨A', C', h1, h2, h3, _⟩ => ⟨A', C', h1, h2, h3⟩
theorem bcell {W w1 : World} (hb : Below W.heap.size W w1) : (∀ b o, b < W.heap.size → w1.cell? ⟨b, o, none⟩ = W.cell? ⟨b, o, none⟩) ∧ (∀ b o, b < W.heap.size → w1.frozen? ⟨b, o, none⟩ = W.frozen? ⟨b, o, none⟩) :=
  ⟨fun b o h => hb.cell (p := ⟨b, o, none⟩) h, fun b o h => hb.frozen (p := ⟨b, o, none⟩) h⟩
theorem keep3 {W w1 : World} {b o : Nat} {v : Value} (hb : Below W.heap.size W w1) (h : W.cell? ⟨b, o, none⟩ = some v) : w1.cell? ⟨b, o, none⟩ = some v :=
  (hb.cell (p := ⟨b, o, none⟩) (World.block_lt_of_cell? W ⟨b, o, none⟩ h)).trans h
theorem keepf {W w1 : World} {b o : Nat} {v : Value} (hb : Below W.heap.size W w1) (h : W.cell? ⟨b, o, none⟩ = some v) (hf : W.frozen? ⟨b, o, none⟩ = false) : w1.frozen? ⟨b, o, none⟩ = false :=
  (hb.frozen (p := ⟨b, o, none⟩) (World.block_lt_of_cell? W ⟨b, o, none⟩ h)).trans hf
theorem heap2 (w : World) (o1 o2 : Obj) : ((w.alloc o1).alloc o2).heap[w.heap.size]? = some o1 ∧ ((w.alloc o1).alloc o2).heap[w.heap.size + 1]? = some o2 :=
  ⟨(Below.heap_alloc _ _ _ (by simp)).trans (heap_alloc_new w _), by have := heap_alloc_new (w.alloc o1) o2; rwa [World.size_alloc] at this⟩
theorem copied_end {w W w1 : World} {A1 : Option Addr} {n C1 : Nat} {vs : List Value} (hb0 : Below w.heap.size w W) (hlt : w.heap.size + 1 < W.heap.size) (hb1 : Below W.heap.size W w1) (ho : w1.ownsRow W.heap.size 4 1 (.slice A1 n C1) n vs) (v0 v1 : Value) :
    ((w1.setCell ⟨w.heap.size + 1, 0, none⟩ v0).setCell ⟨w.heap.size + 1, 1, none⟩ v1).ownsRow w.heap.size 4 1 (.slice A1 n C1) n vs ∧ Below w.heap.size w ((w1.setCell ⟨w.heap.size + 1, 0, none⟩ v0).setCell ⟨w.heap.size + 1, 1, none⟩ v1) := by
  have hm : Mut (· = w.heap.size + 1) w1 ((w1.setCell ⟨w.heap.size + 1, 0, none⟩ v0).setCell ⟨w.heap.size + 1, 1, none⟩ v1) := (Mut.setCell (S := (· = w.heap.size + 1)) _ _ _ _ rfl).then (Mut.setCell (S := (· = w.heap.size + 1)) _ _ _ _ rfl)
  have hlow : ∀ a, A1 = some a → W.heap.size ≤ a.block := fun a ha => (own_blk ho a ha).1
  refine ⟨own_rebase (own_mut2 ho hm fun a ha e => ?_) fun a ha => ?_, (hb0.trans (hb1.mono (by omega))).trans (hm.to_below (by have := hb1.size; omega) fun k hk => by omega)⟩
  · have := hlow a ha; omega
  · have := hlow a ha; omega
set_option maxHeartbeats 1000000 in
theorem copied_calls (cls : Int) {w : World} {ad : Option Addr} {C : Nat} {refs : List Bool} (h : RdB w ad C refs) (hn : refs.length ≤ 100000000) :
    Calls Try.prog 56 #[.agg #[.int .i64 cls, .slice ad refs.length C]] w fun e w' => ∃ A' C', e = .returned (.agg #[.int .i64 cls, .slice A' refs.length C']) ∧ w'.ownsRow w.heap.size 4 1 (.slice A' refs.length C') refs.length (refs.map Value.bool) ∧ Below w.heap.size w w' := by
  have H := Lib.hid h
  have HN := Lib.hid hn
  clear h hn
  go_enter Try.func56, Try.ntmps56
  go_wp2
  have HB : Hid (Below w.heap.size w ((w.alloc (.cells #[.int .i64 cls, .slice ad refs.length C] 32)).alloc (.cells #[.int .i64 0, .slice none 0 0] 32))) := Lib.hid (((Below.refl _ _).alloc (Nat.le_refl _) _).alloc (by simp) _)
  generalize hW : (w.alloc (.cells #[.int .i64 cls, .slice ad refs.length C] 32)).alloc (.cells #[.int .i64 0, .slice none 0 0] 32) = W
  obtain ⟨k0, k1⟩ : W.heap[w.heap.size]? = _ ∧ W.heap[w.heap.size + 1]? = _ := by rw [← hW]; exact heap2 w _ _
  have c0 := cell_of_heap (v := .int .i64 cls) k0 (j := 0) rfl
  have c1 := cell_of_heap (v := .slice ad refs.length C) k0 (j := 1) rfl
  have c2 := cell_of_heap (v := .int .i64 0) k1 (j := 0) rfl
  have c3 := cell_of_heap (v := .slice none 0 0) k1 (j := 1) rfl
  have hf0 := frozen_of_heap k1 0
  have hf1 := frozen_of_heap k1 1
  have hsz : w.heap.size + 1 < W.heap.size := lt_of_heap k1
  rw [hW] at HB
  clear k0 k1 hW
  go_region_with ((go_at_call 86; refine (clone_bools (H.out.below (by first | exact HB.out | exact HB.out.drew | exact HB.out.dn _)) HN.out).mono ?_; rintro e w1 ⟨A1, C1, rfl, ho, hb⟩; have HO := Lib.hid ho; clear ho; have e2 := keep3 hb c2; have e3 := keep3 hb c3; have f2 := keepf hb c2 hf0; have f3 := keepf hb c3 hf1; have g0 := keep3 hb c0; have g1 := keep3 hb c1; have HB1 := Lib.hid hb; clear hb))
  all_goals go_wp2
  all_goals
    obtain ⟨q1, q2⟩ := copied_end (by first | exact HB.out | exact HB.out.drew | exact HB.out.dn _) (by simpa using hsz) HB1.out HO.out (.int .i64 cls) (.slice A1 refs.length C1)
    exact bodyPost_ret (v := .agg #[.int .i64 cls, .slice A1 refs.length C1]) (by simp [results, Try.results56, go_sem, e2, e3]) rfl ⟨A1, C1, rfl, q1, q2⟩
end Go.Proofs.Ytodfpclekihbhaa
