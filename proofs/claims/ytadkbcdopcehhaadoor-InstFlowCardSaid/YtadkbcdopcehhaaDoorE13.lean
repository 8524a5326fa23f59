/- Both Nexts answer alike, at every index of a module that is few. -/
import Derived.Test.YtadkbcdopcehhaaDoorE12E
namespace Go.Proofs.YtadkbcdopcehhaaDoor
open Go.RowKit

theorem opV_nonneg (md A B c k : Int) (nl : Bool) (hc : c ≠ 110) (h : opV md A B c k nl = 0) : 0 ≤ A := by
  have key : ∀ b m, rv (ins A B 0 b m) = 0 → 0 ≤ A := fun b m h => by
    unfold rv ins at h
    split at h
    · rename_i hh; exact (of_decide_eq_true hh).1
    · omega
  unfold opV at h
  simp only [rng_ins] at h
  repeat' split at h
  all_goals first | exact key _ _ h | omega
theorem frm_facts : ∀ k : Fin 111, ((frm 0 (k.val : Int)).toNat ≠ 106 ∧ (frm 0 (k.val : Int)).toNat ≠ 115 ∧ (frm 0 (k.val : Int)).toNat ≠ 116) ∧ (frm 1 (k.val : Int)).toNat ≠ 106 ∧ (frm 2 (k.val : Int)).toNat ≠ 115 ∧ (frm 2 (k.val : Int)).toNat ≠ 116 := by decide +kernel
theorem chk_sec (c0 c1 c2 c3 c4 c5 c6 c7 c8 c9 : Int) (h : chkI c0 c1 c2 c3 c4 c5 c6 c7 c8 c9 = 0) : (0 ≤ c0 ∧ c0 < 111) ∧ opI c4 c5 c6 (frm 1 c0) = 0 := by
  unfold chkI at h
  split at h
  · omega
  · refine ⟨by omega, ?_⟩
    unfold firstNZ at h
    split at h
    · unfold firstNZ at h
      split at h
      · assumption
      · assumption
    · contradiction

/-- What both Nexts answer. -/
def chkM (m : MdV) (k : Nat) : Int := chkI (m.c k 0) (m.c k 1) (m.c k 2) (m.c k 3) (m.c k 4) (m.c k 5) (m.c k 6) (m.c k 7) (m.c k 8) (m.c k 9)
def yM (m : MdV) (k : Nat) : Int := ((frm 1 (m.c k 0)).toNat : Int)
def zM (m : MdV) (k : Nat) : Int := ((frm 2 (m.c k 0)).toNat : Int)
def badM (m : MdV) (k : Nat) : Prop := (yM m k = 115 ∧ (m.ns : Int) ≤ m.c k 5) ∨ (yM m k = 116 ∧ (m.nt : Int) ≤ m.c k 5)
instance (m : MdV) (k : Nat) : Decidable (badM m k) := by unfold badM; infer_instance
def nxU (m : MdV) (k : Nat) : List Int := ((if endsI (m.c k 0) then [] else [(k : Int) + 1]) ++ (if zM m k = 106 then [m.c k 8] else [])) ++ tabI m (yM m k) (m.c k 5)
def outM (m : MdV) (a : Int) : Prop := a < 0 ∨ (m.nc : Int) ≤ a
instance (m : MdV) (a : Int) : Decidable (outM m a) := by unfold outM; infer_instance
def nxE (m : MdV) (a : Int) : Int := if outM m a then 11 else if chkM m a.toNat ≠ 0 then chkM m a.toNat else if badM m a.toNat then 4 else 0
def nxL (m : MdV) (a : Int) : List Int := if nxE m a ≠ 0 then [] else withs (nxU m a.toNat)

theorem ten_c (m : MdV) (k : Nat) : ∀ i, i < 10 → m.c k i = [m.c k 0, m.c k 1, m.c k 2, m.c k 3, m.c k 4, m.c k 5, m.c k 6, m.c k 7, m.c k 8, m.c k 9].getD i 0 := fun i hi => by
  rcases (by omega : i = 0 ∨ i = 1 ∨ i = 2 ∨ i = 3 ∨ i = 4 ∨ i = 5 ∨ i = 6 ∨ i = 7 ∨ i = 8 ∨ i = 9) with rfl | rfl | rfl | rfl | rfl | rfl | rfl | rfl | rfl | rfl <;> rfl
theorem set_swap (a b c : List Int) : withs ((a ++ b) ++ c) = setI ((a ++ c) ++ b) := by
  rw [← set_withs]
  exact sorted_unique _ _ (setI_sorted _) (setI_sorted _) fun x => by simp only [setI_mem, List.mem_append]; constructor <;> (intro h; rcases h with (h | h) | h <;> simp [h])
theorem tabI_len (m : MdV) (hf : Few m) (Y c5 : Int) (hA : Y = 115 ∨ Y = 116 → 0 ≤ c5) : (tabI m Y c5).length ≤ 12 ∨ (Y = 115 ∧ (m.ns : Int) ≤ c5) ∨ (Y = 116 ∧ (m.nt : Int) ≤ c5) := by
  unfold tabI
  by_cases h1 : Y = 115
  · by_cases h2 : (m.ns : Int) ≤ c5
    · exact .inr (.inl ⟨h1, h2⟩)
    · have := hf.sn c5.toNat (by have := hA (.inl h1); omega)
      rw [if_pos h1]
      left; simpa using this
  · by_cases h3 : Y = 116
    · by_cases h2 : (m.nt : Int) ≤ c5
      · exact .inr (.inr ⟨h3, h2⟩)
      · have := hf.tn c5.toNat (by have := hA (.inr h3); omega)
        rw [if_neg h1, if_pos h3]
        left; simpa using this
    · rw [if_neg h1, if_neg h3]
      left; simp
/-- What is known where Check finds nothing. -/
structure FitM (m : MdV) (k : Nat) : Prop where
  o0 : 0 ≤ m.c k 0
  o1 : m.c k 0 < 111
  fx : ((((frm 0 (m.c k 0)).toNat : Int)) == 106) = false ∧ ((((frm 0 (m.c k 0)).toNat : Int)) == 115) = false ∧ ((((frm 0 (m.c k 0)).toNat : Int)) == 116) = false
  fy : ((yM m k) == 106) = false
  fz : ((zM m k) == 115) = false ∧ ((zM m k) == 116) = false
  hA : yM m k = 115 ∨ yM m k = 116 → 0 ≤ m.c k 5
theorem fitM (m : MdV) (k : Nat) (h : chkM m k = 0) : FitM m k := by
  obtain ⟨⟨h0, h1⟩, h2⟩ := chk_sec _ _ _ _ _ _ _ _ _ _ h
  have hf := frm_facts ⟨(m.c k 0).toNat, by omega⟩
  simp only [show (((m.c k 0).toNat : Nat) : Int) = m.c k 0 by omega] at hf
  obtain ⟨⟨a1, a2, a3⟩, a4, a5, a6⟩ := hf
  refine ⟨h0, h1, ⟨?_, ?_, ?_⟩, ?_, ⟨?_, ?_⟩, fun hy => ?_⟩
  · simp; omega
  · simp; omega
  · simp; omega
  · simp [yM]; omega
  · simp [zM]; omega
  · simp [zM]; omega
  · unfold opI at h2
    refine opV_nonneg _ _ _ _ _ _ ?_ h2
    unfold yM at hy
    omega
theorem form_fit (m : MdV) (k : Nat) (h : FitM m k) (w : World) : Calls Tryd.prog 17 #[.int .i64 (m.c k 0)] w fun e w' => e = .returned (.string ⟨#[frm 0 (m.c k 0), frm 1 (m.c k 0), frm 2 (m.c k 0)]⟩) ∧ w = w' := form_in _ w h.o0 h.o1
theorem entry_fit (m : MdV) (k : Nat) (h : FitM m k) (w : World) : Calls Tryd.prog 13 #[.int .i64 (m.c k 0)] w fun e w' => e = .returned (.tuple #[.string (nameI (m.c k 0)), .string ⟨#[frm 0 (m.c k 0), frm 1 (m.c k 0), frm 2 (m.c k 0)]⟩]) ∧ Below w.heap.size w w' := by
  have := entry_calls (m.c k 0) w
  rw [show formI (m.c k 0) = ⟨#[frm 0 (m.c k 0), frm 1 (m.c k 0), frm 2 (m.c k 0)]⟩ from if_pos ⟨h.o0, h.o1⟩] at this
  exact this

theorem next_calls (q : MdA) (m : MdV) (at_ : Int) (w : World) (hm : MdIs w q m) (hf : Few m) :
    Calls Tryd.prog 29 #[.agg #[.string q.s, .slice q.a1 q.n1 q.c1, .slice q.a2 q.n2 q.c2, .slice q.a3 q.n3 q.c3, .slice q.a4 m.nc q.c4, .slice q.a5 q.n5 q.c5, .slice q.a6 q.n6 q.c6, .slice q.a7 m.ns q.c7, .slice q.a8 m.nt q.c8, .slice q.a9 q.n9 q.c9, .slice q.a10 m.nh q.c10], .int .i64 at_] w fun e w' => NxR w (nxL m at_) (nxE m at_) e w' := by
  by_cases h : outM m at_
  · have e1 : nxE m at_ = 11 := if_pos h
    have e2 : nxL m at_ = [] := by unfold nxL; rw [e1]; rfl
    rw [e1, e2]
    exact (next_out q m at_ w h).mono fun e w' ⟨h1, h2⟩ => ⟨none, 0, h1, fun j hj => absurd hj (Nat.not_lt_zero _), h2⟩
  · obtain ⟨k, rfl⟩ : ∃ k : Nat, at_ = (k : Int) := ⟨at_.toNat, by unfold outM at h; omega⟩
    have hk : k < m.nc := by unfold outM at h; omega
    by_cases hc : chkM m k ≠ 0
    · have e1 : nxE m (k : Int) = chkM m k := by unfold nxE; rw [if_neg h, Int.toNat_natCast, if_pos hc]
      have e2 : nxL m (k : Int) = [] := by unfold nxL; rw [e1, if_pos hc]
      rw [e1, e2]
      exact (next_err q m k hk w hm _ _ _ _ _ _ _ _ _ _ (ten_c m k) hc).mono fun e w' ⟨h1, h2⟩ => ⟨none, 0, h1, fun j hj => absurd hj (Nat.not_lt_zero _), h2⟩
    · have hc0 : chkM m k = 0 := by omega
      have F := fitM m k hc0
      have e0 : nxE m (k : Int) = if badM m k then 4 else 0 := by unfold nxE; rw [if_neg h, Int.toNat_natCast, if_neg hc]
      refine next_in q m k hk w hm hf _ _ _ _ _ _ _ _ _ _ (ten_c m k) _ _ _ _ (yM m k) (zM m k) rfl rfl rfl (endsI (m.c k 0)) (fun w => ?_) (fun w => ends_calls _ w) (fun w => form_fit m k F w) F.fx F.fy F.fz F.hA (tabI m (yM m k) (m.c k 5)) _ _ _ rfl rfl (tabI_len m hf _ _ F.hA) (fun a b => ?_) (fun a b => ?_) (fun a b => ?_)
      · have := check_calls (m.c k 0) (m.c k 1) (m.c k 2) (m.c k 3) (m.c k 4) (m.c k 5) (m.c k 6) (m.c k 7) (m.c k 8) (m.c k 9) w
        rwa [show chkI _ _ _ _ _ _ _ _ _ _ = 0 from hc0] at this
      · have e1 : nxE m (k : Int) = 4 := by rw [e0, if_pos (.inl ⟨a, b⟩)]
        exact ⟨by unfold nxL; rw [e1]; rfl, e1⟩
      · have e1 : nxE m (k : Int) = 4 := by rw [e0, if_pos (.inr ⟨a, b⟩)]
        exact ⟨by unfold nxL; rw [e1]; rfl, e1⟩
      · have e1 : nxE m (k : Int) = 0 := by rw [e0, if_neg (by rintro (h | h); exact a h; exact b h)]
        refine ⟨?_, e1⟩
        unfold nxL
        rw [e1, if_neg (by simp), Int.toNat_natCast]
        exact set_swap _ _ _
theorem rnext_calls (q : MdA) (m : MdV) (at_ : Int) (w : World) (hm : MdIs w q m) (hf : Few m) :
    Calls Tryd.prog 30 #[.agg #[.string q.s, .slice q.a1 q.n1 q.c1, .slice q.a2 q.n2 q.c2, .slice q.a3 q.n3 q.c3, .slice q.a4 m.nc q.c4, .slice q.a5 q.n5 q.c5, .slice q.a6 q.n6 q.c6, .slice q.a7 m.ns q.c7, .slice q.a8 m.nt q.c8, .slice q.a9 q.n9 q.c9, .slice q.a10 m.nh q.c10], .int .i64 at_] w fun e w' => NxR w (nxL m at_) (nxE m at_) e w' := by
  by_cases h : outM m at_
  · have e1 : nxE m at_ = 11 := if_pos h
    have e2 : nxL m at_ = [] := by unfold nxL; rw [e1]; rfl
    rw [e1, e2]
    exact (rnext_out q m at_ w h).mono fun e w' ⟨h1, h2⟩ => ⟨none, 0, h1, fun j hj => absurd hj (Nat.not_lt_zero _), h2⟩
  · obtain ⟨k, rfl⟩ : ∃ k : Nat, at_ = (k : Int) := ⟨at_.toNat, by unfold outM at h; omega⟩
    have hk : k < m.nc := by unfold outM at h; omega
    by_cases hc : chkM m k ≠ 0
    · have e1 : nxE m (k : Int) = chkM m k := by unfold nxE; rw [if_neg h, Int.toNat_natCast, if_pos hc]
      have e2 : nxL m (k : Int) = [] := by unfold nxL; rw [e1, if_pos hc]
      rw [e1, e2]
      exact (rnext_err q m k hk w hm _ _ _ _ _ _ _ _ _ _ (ten_c m k) hc).mono fun e w' ⟨h1, h2⟩ => ⟨none, 0, h1, fun j hj => absurd hj (Nat.not_lt_zero _), h2⟩
    · have hc0 : chkM m k = 0 := by omega
      have F := fitM m k hc0
      have e0 : nxE m (k : Int) = if badM m k then 4 else 0 := by unfold nxE; rw [if_neg h, Int.toNat_natCast, if_neg hc]
      refine rnext_in q m k hk w hm hf _ _ _ _ _ _ _ _ _ _ (ten_c m k) _ _ _ _ (yM m k) (zM m k) rfl rfl (endsI (m.c k 0)) (fun w => ?_) (fun w => rends_calls _ w) (fun w => entry_fit m k F w) F.hA (tabI m (yM m k) (m.c k 5)) _ _ rfl (fun a b => ?_) (fun a b => ?_) (fun a b => ?_)
      · have := rcheck_calls (m.c k 0) (m.c k 1) (m.c k 2) (m.c k 3) (m.c k 4) (m.c k 5) (m.c k 6) (m.c k 7) (m.c k 8) (m.c k 9) w
        rwa [show chkI _ _ _ _ _ _ _ _ _ _ = 0 from hc0] at this
      · have e1 : nxE m (k : Int) = 4 := by rw [e0, if_pos (.inl ⟨a, b⟩)]
        exact ⟨by unfold nxL; rw [e1]; rfl, e1⟩
      · have e1 : nxE m (k : Int) = 4 := by rw [e0, if_pos (.inr ⟨a, b⟩)]
        exact ⟨by unfold nxL; rw [e1]; rfl, e1⟩
      · have e1 : nxE m (k : Int) = 0 := by rw [e0, if_neg (by rintro (h | h); exact a h; exact b h)]
        refine ⟨?_, e1⟩
        unfold nxL
        rw [e1, if_neg (by simp), Int.toNat_natCast]
        rfl
/-- The list is not long. -/
theorem nxL_len (m : MdV) (at_ : Int) (hf : Few m) : (nxL m at_).length ≤ 14 := by
  unfold nxL
  split
  · exact Nat.zero_le _
  · rename_i h
    unfold nxE at h
    by_cases ho : outM m at_
    · rw [if_pos ho] at h; simp at h
    · rw [if_neg ho] at h
      by_cases hc : chkM m at_.toNat ≠ 0
      · rw [if_pos hc] at h; contradiction
      · rw [if_neg hc] at h
        by_cases hb : badM m at_.toNat
        · rw [if_pos hb] at h; simp at h
        · have F := fitM m at_.toNat (by omega)
          have h1 := withs_len (nxU m at_.toNat)
          have h2 := tabI_len m hf _ _ F.hA
          have h3 : (tabI m (yM m at_.toNat) (m.c at_.toNat 5)).length ≤ 12 := by
            rcases h2 with h2 | h2
            · exact h2
            · exact absurd h2 hb
          unfold nxU at h1
          unfold nxU
          simp only [List.length_append] at h1
          have h4 : (if endsI (m.c at_.toNat 0) then ([] : List Int) else [(at_.toNat : Int) + 1]).length ≤ 1 := by split <;> simp
          have h5 : (if zM m at_.toNat = 106 then [m.c at_.toNat 8] else ([] : List Int)).length ≤ 1 := by split <;> simp
          omega
end Go.Proofs.YtadkbcdopcehhaaDoor
