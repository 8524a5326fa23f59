/- The law InstThrown. -/
import Derived.Test.YtadkbcdopcehhaaDoorE7
import Derived.Test.YtadkbcdopcehhaaDoorC3
namespace Go.Proofs.YtadkbcdopcehhaaDoor
open Go.RowKit

/-- The box of a module's variable. -/
def Bx (w : World) (p : Nat) (q : MdA) (m : MdV) : Prop := w.cell? ⟨p, 0, none⟩ = some (.string q.s) ∧ w.cell? ⟨p, 1, none⟩ = some (.slice q.a1 q.n1 q.c1) ∧ w.cell? ⟨p, 2, none⟩ = some (.slice q.a2 q.n2 q.c2) ∧ w.cell? ⟨p, 3, none⟩ = some (.slice q.a3 q.n3 q.c3) ∧ w.cell? ⟨p, 4, none⟩ = some (.slice q.a4 m.nc q.c4) ∧ w.cell? ⟨p, 5, none⟩ = some (.slice q.a5 q.n5 q.c5) ∧ w.cell? ⟨p, 6, none⟩ = some (.slice q.a6 q.n6 q.c6) ∧ w.cell? ⟨p, 7, none⟩ = some (.slice q.a7 m.ns q.c7) ∧ w.cell? ⟨p, 8, none⟩ = some (.slice q.a8 m.nt q.c8) ∧ w.cell? ⟨p, 9, none⟩ = some (.slice q.a9 q.n9 q.c9) ∧ w.cell? ⟨p, 10, none⟩ = some (.slice q.a10 m.nh q.c10)
structure Bxd (w : World) (p : Nat) (q : MdA) (m : MdV) : Prop where
  box : Bx w p q m
  lt : p < w.heap.size
theorem Bxd.next {w w' : World} {p : Nat} {q : MdA} {m : MdV} (h : Bxd w p q m) (hb : Below w.heap.size w w') : Bx w' p q m := by
  have g : ∀ (j : Nat) (v : Value), w.cell? ⟨p, j, none⟩ = some v → w'.cell? ⟨p, j, none⟩ = some v := fun j v hv => (hb.cell (p := ⟨p, j, none⟩) h.lt).trans hv
  obtain ⟨x0, x1, x2, x3, x4, x5, x6, x7, x8, x9, x10⟩ := h.box
  exact ⟨g _ _ x0, g _ _ x1, g _ _ x2, g _ _ x3, g _ _ x4, g _ _ x5, g _ _ x6, g _ _ x7, g _ _ x8, g _ _ x9, g _ _ x10⟩
theorem Bxd.new (w : World) (q : MdA) (m : MdV) : Bxd (w.alloc (.cells #[.string q.s, .slice q.a1 q.n1 q.c1, .slice q.a2 q.n2 q.c2, .slice q.a3 q.n3 q.c3, .slice q.a4 m.nc q.c4, .slice q.a5 q.n5 q.c5, .slice q.a6 q.n6 q.c6, .slice q.a7 m.ns q.c7, .slice q.a8 m.nt q.c8, .slice q.a9 q.n9 q.c9, .slice q.a10 m.nh q.c10] 60)) w.heap.size q m := by
  refine ⟨?_, by simp⟩
  unfold Bx
  simp only [cell_new]
  exact ⟨rfl, rfl, rfl, rfl, rfl, rfl, rfl, rfl, rfl, rfl, rfl⟩

/-- What both Throwns answer. -/
def thR (m : MdV) (at_ : Int) : List Int := if at_ < 0 ∨ (m.nc : Int) ≤ at_ then [] else withs (thU m at_ m.nh)
def thE (m : MdV) (at_ : Int) : Int := if at_ < 0 ∨ (m.nc : Int) ≤ at_ then 11 else 0
theorem thrown_calls (q : MdA) (m : MdV) (at_ : Int) (w : World) (hm : MdIs w q m) (hf : Few m) :
    Calls Tryd.prog 26 #[.agg #[.string q.s, .slice q.a1 q.n1 q.c1, .slice q.a2 q.n2 q.c2, .slice q.a3 q.n3 q.c3, .slice q.a4 m.nc q.c4, .slice q.a5 q.n5 q.c5, .slice q.a6 q.n6 q.c6, .slice q.a7 m.ns q.c7, .slice q.a8 m.nt q.c8, .slice q.a9 q.n9 q.c9, .slice q.a10 m.nh q.c10], .int .i64 at_] w fun e w' => ∃ A C, e = .returned (.tuple #[.slice A (thR m at_).length C, .int .i64 (thE m at_)]) ∧ RowI w' A (thR m at_) ∧ Below w.heap.size w w' := by
  unfold thR thE
  by_cases h : at_ < 0 ∨ (m.nc : Int) ≤ at_
  · rw [if_pos h, if_pos h]
    exact (thrown_out q m at_ w h).mono fun e w' ⟨h1, h2⟩ => ⟨none, 0, h1, fun j hj => absurd hj (Nat.not_lt_zero _), h2⟩
  · rw [if_neg h, if_neg h, ← set_withs]
    exact thrown_in q m at_ w hm hf.hn hf.nh (by omega) (by omega)
theorem rthrown_calls (q : MdA) (m : MdV) (at_ : Int) (w : World) (hm : MdIs w q m) (hf : Few m) :
    Calls Tryd.prog 27 #[.agg #[.string q.s, .slice q.a1 q.n1 q.c1, .slice q.a2 q.n2 q.c2, .slice q.a3 q.n3 q.c3, .slice q.a4 m.nc q.c4, .slice q.a5 q.n5 q.c5, .slice q.a6 q.n6 q.c6, .slice q.a7 m.ns q.c7, .slice q.a8 m.nt q.c8, .slice q.a9 q.n9 q.c9, .slice q.a10 m.nh q.c10], .int .i64 at_] w fun e w' => ∃ A C, e = .returned (.tuple #[.slice A (thR m at_).length C, .int .i64 (thE m at_)]) ∧ RowI w' A (thR m at_) ∧ Below w.heap.size w w' := by
  unfold thR thE
  by_cases h : at_ < 0 ∨ (m.nc : Int) ≤ at_
  · rw [if_pos h, if_pos h]
    exact (rthrown_out q m at_ w h).mono fun e w' ⟨h1, h2⟩ => ⟨none, 0, h1, fun j hj => absurd hj (Nat.not_lt_zero _), h2⟩
  · rw [if_neg h, if_neg h]
    exact rthrown_in q m at_ w hm hf.hn hf.nh (by omega) (by omega)
theorem thR_len (m : MdV) (at_ : Int) (hf : Few m) : (thR m at_).length ≤ 48 := by
  unfold thR
  split
  · exact Nat.zero_le _
  · have := withs_len (thU m at_ m.nh)
    have := thU_len m at_ hf.hn m.nh (Nat.le_refl _)
    have := hf.nh
    omega

set_option maxHeartbeats 4000000 in
theorem law_thrown (q : MdA) (m : MdV) (at_ : Int) (w : World) (hm : MdIs w q m) (ht : SpTab w) :
    Calls Tryd.prog 9 #[.agg #[.string q.s, .slice q.a1 q.n1 q.c1, .slice q.a2 q.n2 q.c2, .slice q.a3 q.n3 q.c3, .slice q.a4 m.nc q.c4, .slice q.a5 q.n5 q.c5, .slice q.a6 q.n6 q.c6, .slice q.a7 m.ns q.c7, .slice q.a8 m.nt q.c8, .slice q.a9 q.n9 q.c9, .slice q.a10 m.nh q.c10], .int .i64 at_] w fun e w' => e = .returned (.bool true) ∧ Below w.heap.size w w' := by
  have hB0 : Below w.heap.size w (w.alloc (.cells #[.string q.s, .slice q.a1 q.n1 q.c1, .slice q.a2 q.n2 q.c2, .slice q.a3 q.n3 q.c3, .slice q.a4 m.nc q.c4, .slice q.a5 q.n5 q.c5, .slice q.a6 q.n6 q.c6, .slice q.a7 m.ns q.c7, .slice q.a8 m.nt q.c8, .slice q.a9 q.n9 q.c9, .slice q.a10 m.nh q.c10] 60)) := (Below.refl w.heap.size w).alloc (Nat.le_refl _) _
  have HB := Lib.hid hB0
  have HM := Lib.hid (hm.below hB0)
  have HBX := Lib.hid (Bxd.new w q m)
  have CX := Cy.refl (spTab_of_blocks ht hB0)
  clear hm ht hB0
  go_enter Tryd.func9, Tryd.ntmps9
  have t1 := trivial
  go_wp2_with (first
    | (clear t1; go_at_call 12; generalize w.alloc (.cells #[.string q.s, .slice q.a1 q.n1 q.c1, .slice q.a2 q.n2 q.c2, .slice q.a3 q.n3 q.c3, .slice q.a4 m.nc q.c4, .slice q.a5 q.n5 q.c5, .slice q.a6 q.n6 q.c6, .slice q.a7 m.ns q.c7, .slice q.a8 m.nt q.c8, .slice q.a9 q.n9 q.c9, .slice q.a10 m.nh q.c10] 60) = w1 at *; refine (awake_calls _ CX.tab).mono ?_; rintro e wn ⟨rfl, hb⟩; replace CX := CX.next hb; clear hb; (try clear x0 x1 x2 x3 x4 x5 x6 x7 x8 x9 x10); obtain ⟨x0, x1, x2, x3, x4, x5, x6, x7, x8, x9, x10⟩ := HBX.out.next CX.below)
    | (go_at_call 12; refine (awake_calls _ CX.tab).mono ?_; rintro e wn ⟨rfl, hb⟩; replace CX := CX.next hb; clear hb; (try clear x0 x1 x2 x3 x4 x5 x6 x7 x8 x9 x10); obtain ⟨x0, x1, x2, x3, x4, x5, x6, x7, x8, x9, x10⟩ := HBX.out.next CX.below)
    | (go_at_call 25; refine (few_calls q m _ (HM.out.below CX.below)).mono ?_; rintro e wn ⟨⟨fb, rfl, hf⟩, hb⟩; replace CX := CX.next hb; clear hb; (try clear x0 x1 x2 x3 x4 x5 x6 x7 x8 x9 x10); obtain ⟨x0, x1, x2, x3, x4, x5, x6, x7, x8, x9, x10⟩ := HBX.out.next CX.below; have HF := Lib.hid hf; clear hf; cases fb)
    | (go_at_call 26; refine (thrown_calls q m at_ _ (HM.out.below CX.below) (HF.out (by first | rfl | trivial))).mono ?_; rintro e wn ⟨A1, C1, rfl, hr, hb⟩; replace CX := CX.next hb; have HR := Lib.hid hr; clear hb hr; (try clear x0 x1 x2 x3 x4 x5 x6 x7 x8 x9 x10); obtain ⟨x0, x1, x2, x3, x4, x5, x6, x7, x8, x9, x10⟩ := HBX.out.next CX.below)
    | (go_at_call 27; refine (rthrown_calls q m at_ _ (HM.out.below CX.below) (HF.out (by first | rfl | trivial))).mono ?_; rintro e wn ⟨A2, C2, rfl, hr, hb⟩; replace CX := CX.next hb; have HR2 := Lib.hid hr; replace HR := Lib.hid (HR.out.below hb); clear hb hr; (try clear x0 x1 x2 x3 x4 x5 x6 x7 x8 x9 x10); obtain ⟨x0, x1, x2, x3, x4, x5, x6, x7, x8, x9, x10⟩ := HBX.out.next CX.below)
    | (go_at_call 28; refine (same_yes (thR m at_) _ _ _ _ _ HR.out HR2.out (Nat.le_trans (thR_len m at_ (HF.out (by first | rfl | trivial))) (by decide))).mono ?_; rintro e wn ⟨rfl, hb⟩; replace CX := CX.next hb; clear hb; (try clear x0 x1 x2 x3 x4 x5 x6 x7 x8 x9 x10)))
  all_goals go_ret
  all_goals exact ⟨rfl, HB.out.trans (CX.below.mono HB.out.size)⟩
end Go.Proofs.YtadkbcdopcehhaaDoor
