/- The law InstFlow. -/
import Derived.Test.YtadkbcdopcehhaaDoorE14
namespace Go.Proofs.YtadkbcdopcehhaaDoor
open Go.RowKit

theorem withs_sorted (U : List Int) : (withs U).Pairwise (· < ·) := (fold_with U [] List.Pairwise.nil).1
theorem withs_mem (U : List Int) (x : Int) : x ∈ withs U ↔ x ∈ U := by simpa [withs] using (fold_with U [] List.Pairwise.nil).2 x
def farM (m : MdV) (k : Nat) : Bool := zM m k == 106 || yM m k == 115 || yM m k == 116
/-- What the law asks of the list. -/
structure FlowL (L : List Int) (v : Int) (en far : Bool) : Prop where
  up : ∀ i, i + 1 < L.length → L.getD i 0 < L.getD (i + 1) 0
  only : far = false → ∀ i, i < L.length → L.getD i 0 = v
  isin : en = false → v ∈ L
  out : far = false → en = true → v ∉ L
theorem flowL (m : MdV) (k : Nat) (hE : nxE m (k : Int) = 0) : FlowL (nxL m (k : Int)) ((k : Int) + 1) (endsI (m.c k 0)) (farM m k) := by
  have hL : nxL m (k : Int) = withs (nxU m k) := by unfold nxL; rw [hE, if_neg (by simp), Int.toNat_natCast]
  have hU : farM m k = false → nxU m k = if endsI (m.c k 0) then [] else [(k : Int) + 1] := fun h => by
    unfold farM at h
    simp at h
    obtain ⟨⟨h1, h2⟩, h3⟩ := h
    unfold nxU tabI
    simp [h1, h2, h3]
  rw [hL]
  refine ⟨fun i hi => ?_, fun hf i hi => ?_, fun he => ?_, fun hf he => ?_⟩
  · have := List.pairwise_iff_getElem.1 (withs_sorted (nxU m k)) i (i + 1) (by omega) hi (by omega)
    rw [List.getD_eq_getElem?_getD, List.getD_eq_getElem?_getD, List.getElem?_eq_getElem (by omega), List.getElem?_eq_getElem hi]
    exact this
  · have h1 : (withs (nxU m k)).getD i 0 ∈ withs (nxU m k) := by
      rw [List.getD_eq_getElem?_getD, List.getElem?_eq_getElem hi]
      exact List.getElem_mem hi
    rw [withs_mem] at h1
    generalize (withs (nxU m k)).getD i 0 = u at h1
    rw [hU hf] at h1
    split at h1 <;> simp at h1
    exact h1
  · rw [withs_mem]
    unfold nxU
    simp [he]
  · rw [withs_mem, hU hf, he]
    simp
/-- Whether a value stands among the first of a list. -/
def bhI (L : List Int) (v : Int) : Nat → Bool
  | 0 => false
  | j + 1 => bhI L v j || (L.getD j 0 == v)
theorem bhI_iff (L : List Int) (v : Int) (j : Nat) : bhI L v j = true ↔ ∃ i, i < j ∧ L.getD i 0 = v := by
  induction j with
  | zero => simp [bhI]
  | succ j ih =>
    simp only [bhI, Bool.or_eq_true, ih, beq_iff_eq]
    constructor
    · rintro (⟨i, h1, h2⟩ | h)
      · exact ⟨i, by omega, h2⟩
      · exact ⟨j, by omega, h⟩
    · rintro ⟨i, h1, h2⟩
      by_cases h : i = j
      · exact .inr (h ▸ h2)
      · exact .inl ⟨i, by omega, h2⟩
theorem bhI_all (L : List Int) (v : Int) : bhI L v L.length = true ↔ v ∈ L := by
  rw [bhI_iff]
  constructor
  · rintro ⟨i, h1, rfl⟩
    rw [List.getD_eq_getElem?_getD, List.getElem?_eq_getElem h1]
    exact List.getElem_mem h1
  · intro h
    obtain ⟨i, h1, h2⟩ := List.mem_iff_getElem.1 h
    exact ⟨i, h1, by rw [List.getD_eq_getElem?_getD, List.getElem?_eq_getElem h1]; exact h2⟩
theorem FlowL.fin {L : List Int} {v : Int} {en far : Bool} (h : FlowL L v en far) : (en = false → bhI L v L.length = true) ∧ (far = false → en = true → bhI L v L.length = false) :=
  ⟨fun he => (bhI_all L v).2 (h.isin he), fun hf he => by
    cases hb : bhI L v L.length
    · rfl
    · exact absurd ((bhI_all L v).1 hb) (h.out hf he)⟩

set_option maxHeartbeats 4000000 in
theorem flow_err (q : MdA) (m : MdV) (at_ : Int) (w : World) (hm : MdIs w q m) (ht : SpTab w) (hE : nxE m at_ ≠ 0) :
    Calls Tryd.prog 11 #[.agg #[.string q.s, .slice q.a1 q.n1 q.c1, .slice q.a2 q.n2 q.c2, .slice q.a3 q.n3 q.c3, .slice q.a4 m.nc q.c4, .slice q.a5 q.n5 q.c5, .slice q.a6 q.n6 q.c6, .slice q.a7 m.ns q.c7, .slice q.a8 m.nt q.c8, .slice q.a9 q.n9 q.c9, .slice q.a10 m.nh q.c10], .int .i64 at_] w fun e w' => e = .returned (.bool true) ∧ Below w.heap.size w w' := by
  have hL : nxL m at_ = [] := by unfold nxL; rw [if_pos hE]
  have HN := Lib.hid (fun w hm hf => next_calls q m at_ w hm hf)
  rw [hL] at HN
  clear hL
  have hE' : (nxE m at_ != 0) = true := by simpa using hE
  generalize nxE m at_ = E at *
  clear hE
  have hB0 : Below w.heap.size w (w.alloc (.cells #[.string q.s, .slice q.a1 q.n1 q.c1, .slice q.a2 q.n2 q.c2, .slice q.a3 q.n3 q.c3, .slice q.a4 m.nc q.c4, .slice q.a5 q.n5 q.c5, .slice q.a6 q.n6 q.c6, .slice q.a7 m.ns q.c7, .slice q.a8 m.nt q.c8, .slice q.a9 q.n9 q.c9, .slice q.a10 m.nh q.c10] 60)) := (Below.refl w.heap.size w).alloc (Nat.le_refl _) _
  have HB := Lib.hid hB0
  have HM := Lib.hid (hm.below hB0)
  have HBX := Lib.hid (Bxd.new w q m)
  have CX := Cy.refl (spTab_of_blocks ht hB0)
  clear hm ht hB0
  go_enter Tryd.func11, Tryd.ntmps11
  have t1 := trivial
  go_wp2_with (first
    | (clear t1; go_at_call 12; generalize w.alloc (.cells #[.string q.s, .slice q.a1 q.n1 q.c1, .slice q.a2 q.n2 q.c2, .slice q.a3 q.n3 q.c3, .slice q.a4 m.nc q.c4, .slice q.a5 q.n5 q.c5, .slice q.a6 q.n6 q.c6, .slice q.a7 m.ns q.c7, .slice q.a8 m.nt q.c8, .slice q.a9 q.n9 q.c9, .slice q.a10 m.nh q.c10] 60) = w1 at *; refine (awake_calls _ CX.tab).mono ?_; rintro e wn ⟨rfl, hb⟩; replace CX := CX.next hb; clear hb; (try clear x0 x1 x2 x3 x4 x5 x6 x7 x8 x9 x10); obtain ⟨x0, x1, x2, x3, x4, x5, x6, x7, x8, x9, x10⟩ := HBX.out.next CX.below)
    | (go_at_call 12; refine (awake_calls _ CX.tab).mono ?_; rintro e wn ⟨rfl, hb⟩; replace CX := CX.next hb; clear hb; (try clear x0 x1 x2 x3 x4 x5 x6 x7 x8 x9 x10); obtain ⟨x0, x1, x2, x3, x4, x5, x6, x7, x8, x9, x10⟩ := HBX.out.next CX.below)
    | (go_at_call 25; refine (few_calls q m _ (HM.out.below CX.below)).mono ?_; rintro e wn ⟨⟨fb, rfl, hf⟩, hb⟩; replace CX := CX.next hb; clear hb; (try clear x0 x1 x2 x3 x4 x5 x6 x7 x8 x9 x10); obtain ⟨x0, x1, x2, x3, x4, x5, x6, x7, x8, x9, x10⟩ := HBX.out.next CX.below; have HF := Lib.hid hf; clear hf; cases fb)
    | (go_at_call 29; refine (HN.out _ (HM.out.below CX.below) (HF.out (by first | rfl | trivial))).mono ?_; rintro e wn ⟨A1, C1, rfl, hr, hb⟩; replace CX := CX.next hb; have HR := Lib.hid hr; clear hb hr; (try clear x0 x1 x2 x3 x4 x5 x6 x7 x8 x9 x10); obtain ⟨x0, x1, x2, x3, x4, x5, x6, x7, x8, x9, x10⟩ := HBX.out.next CX.below))
  all_goals go_ret
  all_goals exact ⟨rfl, HB.out.trans (CX.below.mono HB.out.size)⟩

end Go.Proofs.YtadkbcdopcehhaaDoor
