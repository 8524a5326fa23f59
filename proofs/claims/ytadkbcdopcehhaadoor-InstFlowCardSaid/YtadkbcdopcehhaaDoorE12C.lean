/- The contract of the reference's Next, part 3 of 4. -/
import Derived.Test.YtadkbcdopcehhaaDoorE12
set_option linter.unusedSimpArgs false
namespace Go.Proofs.YtadkbcdopcehhaaDoor
open Go.RowKit

set_option maxRecDepth 100000 in
set_option maxHeartbeats 16000000 in
theorem rnext_c2 (q : MdA) (m : MdV) (k : Nat) (hk : k < m.nc) (w : World) (hm : MdIs w q m) (hf : Few m) (c0 c1 c2 c3 c4 c5 c6 c7 c8 c9 : Int) (hc : ∀ i, i < 10 → m.c k i = [c0, c1, c2, c3, c4, c5, c6, c7, c8, c9].getD i 0)
    (s : ByteArray) (x y z : UInt8) (Y Z : Int) (hY : (y.toNat : Int) = Y) (hZ : (z.toNat : Int) = Z) (en : Bool)
    (hchk : ∀ w, Calls Tryd.prog 22 #[.agg #[.int .i64 c0, .int .i64 c1, .int .i64 c2, .int .i64 c3, .int .i64 c4, .int .i64 c5, .int .i64 c6, .int .i64 c7, .int .i64 c8, .int .i64 c9]] w fun e w' => e = .returned (.int .i64 0) ∧ Below w.heap.size w w')
    (hends : ∀ w, Calls Tryd.prog 32 #[.int .i64 c0] w fun e w' => e = .returned (.bool en) ∧ Below w.heap.size w w')
    (hentry : ∀ w, Calls Tryd.prog 13 #[.int .i64 c0] w fun e w' => e = .returned (.tuple #[.string s, .string ⟨#[x, y, z]⟩]) ∧ Below w.heap.size w w')
    (hA : Y = 115 ∨ Y = 116 → 0 ≤ c5) (T L : List Int) (E : Int) (hT : T = tabI m Y c5)
    (h4s : Y = 115 → (m.ns : Int) ≤ c5 → L = [] ∧ E = 4) (h4t : Y = 116 → (m.nt : Int) ≤ c5 → L = [] ∧ E = 4)
    (h0 : ¬ (Y = 115 ∧ (m.ns : Int) ≤ c5) → ¬ (Y = 116 ∧ (m.nt : Int) ≤ c5) → L = withs (((if en then [] else [(k : Int) + 1]) ++ (if Z = 106 then [c8] else [])) ++ T) ∧ E = 0) (hen : en = false) (eZ : ¬ Z = 106) :
    Calls Tryd.prog 30 #[.agg #[.string q.s, .slice q.a1 q.n1 q.c1, .slice q.a2 q.n2 q.c2, .slice q.a3 q.n3 q.c3, .slice q.a4 m.nc q.c4, .slice q.a5 q.n5 q.c5, .slice q.a6 q.n6 q.c6, .slice q.a7 m.ns q.c7, .slice q.a8 m.nt q.c8, .slice q.a9 q.n9 q.c9, .slice q.a10 m.nh q.c10], .int .i64 (k : Int)] w fun e w' => NxR w L E e w' := by
  have hB0 : Below w.heap.size w (w.alloc (.cells #[.string q.s, .slice q.a1 q.n1 q.c1, .slice q.a2 q.n2 q.c2, .slice q.a3 q.n3 q.c3, .slice q.a4 m.nc q.c4, .slice q.a5 q.n5 q.c5, .slice q.a6 q.n6 q.c6, .slice q.a7 m.ns q.c7, .slice q.a8 m.nt q.c8, .slice q.a9 q.n9 q.c9, .slice q.a10 m.nh q.c10] 60)) := (Below.refl w.heap.size w).alloc (Nat.le_refl _) _
  have HB := Lib.hid hB0
  have HBX := Lib.hid (Bxd.new w q m)
  obtain ⟨b, o, ha, hb, k0, k1, k2, k3, k4, k5, k6, k7, k8, k9⟩ := hm.code.ten hk hc hB0
  have HM := Lib.hid hm
  have HF := Lib.hid hf
  have HC := Lib.hid hchk
  have HE := Lib.hid hends
  have HEn := Lib.hid hentry
  have HA := Lib.hid hA
  have HTab := Lib.hid hT
  have H4s := Lib.hid h4s
  have H4t := Lib.hid h4t
  have H0 := Lib.hid h0
  have HY := Lib.hid hY
  have hx1 : ∀ w, (Instr.index 9 (.string ⟨#[x, y, z]⟩) (.int .i64 1)).run Tryd.prog w = .ok (.int .u8 Y) w := fun w => run_index_lit [x, y, z] 1 Y (by simp) hY w
  have hx2 : ∀ w, (Instr.index 9 (.string ⟨#[x, y, z]⟩) (.int .i64 2)).run Tryd.prog w = .ok (.int .u8 Z) w := fun w => run_index_lit [x, y, z] 2 Z (by simp) hZ w
  have hk40 : k < 40 := by have := hf.nc; omega
  have g0 : ¬ (k : Int) < 0 := by omega
  have g1 : ¬ (m.nc : Int) ≤ (k : Int) := by omega
  have i0 : (0 : Int) ≤ (k : Int) := by omega
  have i1 : (k : Int) < (m.nc : Int) := by omega
  clear hB0 hm hf hc hchk hends hentry hA hT h4s h4t h0 hY hZ
  rw [ha] at HB HBX k0 k1 k2 k3 k4 k5 k6 k7 k8 k9 ⊢
  clear ha hb
  have hsz : (w.alloc (.cells #[.string q.s, .slice q.a1 q.n1 q.c1, .slice q.a2 q.n2 q.c2, .slice q.a3 q.n3 q.c3, .slice (some ⟨b, o, none⟩) m.nc q.c4, .slice q.a5 q.n5 q.c5, .slice q.a6 q.n6 q.c6, .slice q.a7 m.ns q.c7, .slice q.a8 m.nt q.c8, .slice q.a9 q.n9 q.c9, .slice q.a10 m.nh q.c10] 60)).heap.size = w.heap.size + 1 := by simp
  have hbi := Bi.new (w.alloc (.cells #[.string q.s, .slice q.a1 q.n1 q.c1, .slice q.a2 q.n2 q.c2, .slice q.a3 q.n3 q.c3, .slice (some ⟨b, o, none⟩) m.nc q.c4, .slice q.a5 q.n5 q.c5, .slice q.a6 q.n6 q.c6, .slice q.a7 m.ns q.c7, .slice q.a8 m.nt q.c8, .slice q.a9 q.n9 q.c9, .slice q.a10 m.nh q.c10] 60)) c0 c1 c2 c3 c4 c5 c6 c7 c8 c9
  rw [hsz] at hbi
  have hlt : w.heap.size + 1 < ((w.alloc (.cells #[.string q.s, .slice q.a1 q.n1 q.c1, .slice q.a2 q.n2 q.c2, .slice q.a3 q.n3 q.c3, .slice (some ⟨b, o, none⟩) m.nc q.c4, .slice q.a5 q.n5 q.c5, .slice q.a6 q.n6 q.c6, .slice q.a7 m.ns q.c7, .slice q.a8 m.nt q.c8, .slice q.a9 q.n9 q.c9, .slice q.a10 m.nh q.c10] 60)).alloc (.cells #[.int .i64 c0, .int .i64 c1, .int .i64 c2, .int .i64 c3, .int .i64 c4, .int .i64 c5, .int .i64 c6, .int .i64 c7, .int .i64 c8, .int .i64 c9] 40)).heap.size := by simp
  have hB12 : Below (w.alloc (.cells #[.string q.s, .slice q.a1 q.n1 q.c1, .slice q.a2 q.n2 q.c2, .slice q.a3 q.n3 q.c3, .slice (some ⟨b, o, none⟩) m.nc q.c4, .slice q.a5 q.n5 q.c5, .slice q.a6 q.n6 q.c6, .slice q.a7 m.ns q.c7, .slice q.a8 m.nt q.c8, .slice q.a9 q.n9 q.c9, .slice q.a10 m.nh q.c10] 60)).heap.size (w.alloc (.cells #[.string q.s, .slice q.a1 q.n1 q.c1, .slice q.a2 q.n2 q.c2, .slice q.a3 q.n3 q.c3, .slice (some ⟨b, o, none⟩) m.nc q.c4, .slice q.a5 q.n5 q.c5, .slice q.a6 q.n6 q.c6, .slice q.a7 m.ns q.c7, .slice q.a8 m.nt q.c8, .slice q.a9 q.n9 q.c9, .slice q.a10 m.nh q.c10] 60)) ((w.alloc (.cells #[.string q.s, .slice q.a1 q.n1 q.c1, .slice q.a2 q.n2 q.c2, .slice q.a3 q.n3 q.c3, .slice (some ⟨b, o, none⟩) m.nc q.c4, .slice q.a5 q.n5 q.c5, .slice q.a6 q.n6 q.c6, .slice q.a7 m.ns q.c7, .slice q.a8 m.nt q.c8, .slice q.a9 q.n9 q.c9, .slice q.a10 m.nh q.c10] 60)).alloc (.cells #[.int .i64 c0, .int .i64 c1, .int .i64 c2, .int .i64 c3, .int .i64 c4, .int .i64 c5, .int .i64 c6, .int .i64 c7, .int .i64 c8, .int .i64 c9] 40)) := (Below.refl _ _).alloc (Nat.le_refl _) _
  have HBI := Lib.hid (fun w' => hbi.next (w' := w') hlt)
  have HB12 := Lib.hid hB12
  have HBW : Hid (∀ w', Below ((w.alloc (.cells #[.string q.s, .slice q.a1 q.n1 q.c1, .slice q.a2 q.n2 q.c2, .slice q.a3 q.n3 q.c3, .slice (some ⟨b, o, none⟩) m.nc q.c4, .slice q.a5 q.n5 q.c5, .slice q.a6 q.n6 q.c6, .slice q.a7 m.ns q.c7, .slice q.a8 m.nt q.c8, .slice q.a9 q.n9 q.c9, .slice q.a10 m.nh q.c10] 60)).alloc (.cells #[.int .i64 c0, .int .i64 c1, .int .i64 c2, .int .i64 c3, .int .i64 c4, .int .i64 c5, .int .i64 c6, .int .i64 c7, .int .i64 c8, .int .i64 c9] 40)).heap.size ((w.alloc (.cells #[.string q.s, .slice q.a1 q.n1 q.c1, .slice q.a2 q.n2 q.c2, .slice q.a3 q.n3 q.c3, .slice (some ⟨b, o, none⟩) m.nc q.c4, .slice q.a5 q.n5 q.c5, .slice q.a6 q.n6 q.c6, .slice q.a7 m.ns q.c7, .slice q.a8 m.nt q.c8, .slice q.a9 q.n9 q.c9, .slice q.a10 m.nh q.c10] 60)).alloc (.cells #[.int .i64 c0, .int .i64 c1, .int .i64 c2, .int .i64 c3, .int .i64 c4, .int .i64 c5, .int .i64 c6, .int .i64 c7, .int .i64 c8, .int .i64 c9] 40)) w' → Below w.heap.size w w') := Lib.hid (fun w' hb => (HB.out.step2 HB12.out).step2 hb)
  clear hsz hbi hlt hB12
  subst hen
  have HXY := HY.out
  by_cases e1 : Y = 115
  · subst e1
    obtain ⟨ka, rfl⟩ : ∃ ka : Nat, c5 = (ka : Int) := ⟨c5.toNat, by have := HA.out (.inl rfl); omega⟩
    have a0 : (0 : Int) ≤ (ka : Int) := by omega
    clear HXY
    by_cases hka : ka < m.ns
    · obtain ⟨b7, o7, ha7, hb7, B, D, k7', hp⟩ := HM.out.cases ka hka
      have K7 : Hid (∀ w', Below ((w.alloc (.cells #[.string q.s, .slice q.a1 q.n1 q.c1, .slice q.a2 q.n2 q.c2, .slice q.a3 q.n3 q.c3, .slice (some ⟨b, o, none⟩) m.nc q.c4, .slice q.a5 q.n5 q.c5, .slice q.a6 q.n6 q.c6, .slice q.a7 m.ns q.c7, .slice q.a8 m.nt q.c8, .slice q.a9 q.n9 q.c9, .slice q.a10 m.nh q.c10] 60)).alloc (.cells #[.int .i64 c0, .int .i64 c1, .int .i64 c2, .int .i64 c3, .int .i64 c4, .int .i64 (ka : Int), .int .i64 c6, .int .i64 c7, .int .i64 c8, .int .i64 c9] 40)).heap.size ((w.alloc (.cells #[.string q.s, .slice q.a1 q.n1 q.c1, .slice q.a2 q.n2 q.c2, .slice q.a3 q.n3 q.c3, .slice (some ⟨b, o, none⟩) m.nc q.c4, .slice q.a5 q.n5 q.c5, .slice q.a6 q.n6 q.c6, .slice q.a7 m.ns q.c7, .slice q.a8 m.nt q.c8, .slice q.a9 q.n9 q.c9, .slice q.a10 m.nh q.c10] 60)).alloc (.cells #[.int .i64 c0, .int .i64 c1, .int .i64 c2, .int .i64 c3, .int .i64 c4, .int .i64 (ka : Int), .int .i64 c6, .int .i64 c7, .int .i64 c8, .int .i64 c9] 40)) w' → w'.cell? ⟨b7, o7 + ka, none⟩ = some (.slice B (m.sn ka) D)) := Lib.hid (fun w' hb => ((HBW.out _ hb).cell (p := ⟨b7, _, none⟩) hb7).trans k7')
      have HA7 := Lib.hid ha7
      have HP := Lib.hid (hp.below (HBW.out _ (Below.refl _ ((w.alloc (.cells #[.string q.s, .slice q.a1 q.n1 q.c1, .slice q.a2 q.n2 q.c2, .slice q.a3 q.n3 q.c3, .slice (some ⟨b, o, none⟩) m.nc q.c4, .slice q.a5 q.n5 q.c5, .slice q.a6 q.n6 q.c6, .slice q.a7 m.ns q.c7, .slice q.a8 m.nt q.c8, .slice q.a9 q.n9 q.c9, .slice q.a10 m.nh q.c10] 60)).alloc (.cells #[.int .i64 c0, .int .i64 c1, .int .i64 c2, .int .i64 c3, .int .i64 c4, .int .i64 (ka : Int), .int .i64 c6, .int .i64 c7, .int .i64 c8, .int .i64 c9] 40)))))
      have hn12 : m.sn ka ≤ 12 := HF.out.sn ka hka
      have a1 : (ka : Int) < (m.ns : Int) := by omega
      have a2 : ¬ (m.ns : Int) ≤ (ka : Int) := by omega
      have a3 : ¬ m.ns ≤ ka := by omega
      have hT : T = (List.range (m.sn ka)).map (m.sp ka) := (by have := HTab.out; simpa [tabI] using this)
      obtain ⟨hL, rfl⟩ := H0.out (fun h => by have := h.2; omega) (fun h => by have := h.1; omega)
      have HFIN : Hid (L = withs ([(k : Int) + 1] ++ (List.range (m.sn ka)).map (m.sp ka))) := Lib.hid (by rw [hL, hT]; simp [eZ])
      clear ha7 hb7 k7' hp hT hL H0
      generalize m.sn ka = n at *
      generalize m.sp ka = pc at *
      have fz : (Z == 106) = false := by simpa using eZ
      have t1 := trivial; 
      go_enter Tryd.func30, Tryd.ntmps30
      go_wp2_with (first
        | (clear t1; go_at_call 46; refine (with_new [] ((k : Int) + 1) none 0 _ (fun j hj => absurd hj (Nat.not_lt_zero _)) (by decide)).mono ?_; rintro e wn ⟨l1, A1, C1, rfl, he, hr, hb⟩; have HE1 := Lib.hid he; have HR := Lib.hid hr; replace HB3 := Lib.hid (HB3.out.step2 hb); (try clear y0 y1 y2 y3 y4 y5 y6 y7 y8 y9); (try clear x0 x1 x2 x3 x4 x5 x6 x7 x8 x9 x10); (try clear k7); obtain ⟨y0, y1, y2, y3, y4, y5, y6, y7, y8, y9⟩ := HBI.out _ HB3.out; obtain ⟨x0, x1, x2, x3, x4, x5, x6, x7, x8, x9, x10⟩ := HBX.out.next (HB12.out.step2 HB3.out); rw [HA7.out] at x7; have k7 := K7.out _ HB3.out; clear he hr hb)
        | (go_at_call 22; clear k0 k1 k2 k3 k4 k5 k6 k7 k8 k9; generalize (w.alloc (.cells #[.string q.s, .slice q.a1 q.n1 q.c1, .slice q.a2 q.n2 q.c2, .slice q.a3 q.n3 q.c3, .slice (some ⟨b, o, none⟩) m.nc q.c4, .slice q.a5 q.n5 q.c5, .slice q.a6 q.n6 q.c6, .slice q.a7 m.ns q.c7, .slice q.a8 m.nt q.c8, .slice q.a9 q.n9 q.c9, .slice q.a10 m.nh q.c10] 60)).alloc (.cells #[.int .i64 c0, .int .i64 c1, .int .i64 c2, .int .i64 c3, .int .i64 c4, .int .i64 (ka : Int), .int .i64 c6, .int .i64 c7, .int .i64 c8, .int .i64 c9] 40) = w2 at *; generalize w.alloc (.cells #[.string q.s, .slice q.a1 q.n1 q.c1, .slice q.a2 q.n2 q.c2, .slice q.a3 q.n3 q.c3, .slice (some ⟨b, o, none⟩) m.nc q.c4, .slice q.a5 q.n5 q.c5, .slice q.a6 q.n6 q.c6, .slice q.a7 m.ns q.c7, .slice q.a8 m.nt q.c8, .slice q.a9 q.n9 q.c9, .slice q.a10 m.nh q.c10] 60) = w1 at *; obtain ⟨y0, y1, y2, y3, y4, y5, y6, y7, y8, y9⟩ := HBI.out _ (Below.refl _ _); refine (HC.out _).mono ?_; rintro e wn ⟨rfl, hb⟩; have HB3 := Lib.hid hb; (try clear y0 y1 y2 y3 y4 y5 y6 y7 y8 y9); (try clear x0 x1 x2 x3 x4 x5 x6 x7 x8 x9 x10); (try clear k7); obtain ⟨y0, y1, y2, y3, y4, y5, y6, y7, y8, y9⟩ := HBI.out _ HB3.out; obtain ⟨x0, x1, x2, x3, x4, x5, x6, x7, x8, x9, x10⟩ := HBX.out.next (HB12.out.step2 HB3.out); rw [HA7.out] at x7; have k7 := K7.out _ HB3.out; clear hb)
        | (go_at_call 13; refine (HEn.out _).mono ?_; rintro e wn ⟨rfl, hb⟩; replace HB3 := Lib.hid (HB3.out.step2 hb); (try clear y0 y1 y2 y3 y4 y5 y6 y7 y8 y9); (try clear x0 x1 x2 x3 x4 x5 x6 x7 x8 x9 x10); (try clear k7); obtain ⟨y0, y1, y2, y3, y4, y5, y6, y7, y8, y9⟩ := HBI.out _ HB3.out; obtain ⟨x0, x1, x2, x3, x4, x5, x6, x7, x8, x9, x10⟩ := HBX.out.next (HB12.out.step2 HB3.out); rw [HA7.out] at x7; have k7 := K7.out _ HB3.out; clear hb)
        | (go_at_call 32; refine (HE.out _).mono ?_; rintro e wn ⟨rfl, hb⟩; replace HB3 := Lib.hid (HB3.out.step2 hb); (try clear y0 y1 y2 y3 y4 y5 y6 y7 y8 y9); (try clear x0 x1 x2 x3 x4 x5 x6 x7 x8 x9 x10); (try clear k7); obtain ⟨y0, y1, y2, y3, y4, y5, y6, y7, y8, y9⟩ := HBI.out _ HB3.out; obtain ⟨x0, x1, x2, x3, x4, x5, x6, x7, x8, x9, x10⟩ := HBX.out.next (HB12.out.step2 HB3.out); rw [HA7.out] at x7; have k7 := K7.out _ HB3.out; clear hb))
      have HUS : Hid (l1 = withs [(k : Int) + 1]) := Lib.hid (HE1.out)
      go_loopw [10, 12] (fun l i w5 => ∃ j : Nat, j ≤ n ∧ i = .int .i64 j ∧ ∃ zs A C, l = .slice A zs.length C ∧ Hid (zs = withs ([(k : Int) + 1] ++ (List.range j).map pc)) ∧ Hid (RowI w5 A zs) ∧ Hid (Below w2.heap.size w2 w5)) (fun _ i _ => n - (intOf i).toNat)
      case atStart => exact ⟨0, by omega, rfl, l1, A1, C1, rfl, Lib.hid (HUS.out.trans (by simp)), HR, HB3⟩
      case round =>
        obtain ⟨j, hj, rfl, zs, A4, C4, rfl, hzs, ho2, hB2⟩ := hrel
        obtain ⟨x0, x1, x2, x3, x4, x5, x6, x7, x8, x9, x10⟩ := HBX.out.next (HB12.out.step2 hB2.out)
        obtain ⟨y0, y1, y2, y3, y4, y5, y6, y7, y8, y9⟩ := HBI.out _ hB2.out
        by_cases hj2 : j < n
        · obtain ⟨b2, o2, rfl, hb2, l, u, p0', p1', p2'⟩ := HP.out j hj2
          have p2 := (hB2.out.cell (p := ⟨b2, _, none⟩) hb2).trans p2'
          have HSN := Lib.hid (withs_map [(k : Int) + 1] pc j)
          have HYL : Hid (zs.length ≤ 1000) := Lib.hid (by rw [hzs.out]; have h1 := withs_len ([(k : Int) + 1] ++ (List.range j).map pc); simp only [List.length_append, List.length_map, List.length_range, List.length_cons, List.length_nil] at h1; omega)
          clear p0' p1' p2' hb2
          generalize pc j = v at *
          have j0 : (0 : Int) ≤ (j : Int) := by omega
          have j1 : (j : Int) < (n : Int) := by omega
          go_wp2_with (go_at_call 46; refine (with_new zs v _ _ _ ho2.out (by have := HYL.out; omega)).mono ?_; rintro e w6 ⟨ws, A3, C3, rfl, he3, ho3, hb3⟩; have HW := Lib.hid he3; have HO3 := Lib.hid ho3; have HB4 := Lib.hid (hB2.out.step2 hb3); clear he3 ho3 hb3)
          go_wp2
          go_roundw
          case rel => exact ⟨j + 1, by omega, by go_num, ws, A3, C3, rfl, Lib.hid (by rw [HW.out, HSN.out, hzs.out]), HO3, HB4⟩
          case measure => simp [intOf]; omega
        · obtain rfl : j = n := by omega
          go_wp2
          go_ret2
          rw [HFIN.out, ← hzs.out]
          exact ⟨A4, C4, rfl, ho2.out, HBW.out _ hB2.out⟩
    · have a1 : (m.ns : Int) ≤ (ka : Int) := by omega
      obtain ⟨rfl, rfl⟩ := H4s.out rfl a1
      have fz : (Z == 106) = false := by simpa using eZ
      have t1 := trivial; 
      go_enter Tryd.func30, Tryd.ntmps30
      go_wp2_with (first
        | (clear t1; go_at_call 46; refine (with_new [] ((k : Int) + 1) none 0 _ (fun j hj => absurd hj (Nat.not_lt_zero _)) (by decide)).mono ?_; rintro e wn ⟨l1, A1, C1, rfl, he, hr, hb⟩; have HE1 := Lib.hid he; have HR := Lib.hid hr; replace HB3 := Lib.hid (HB3.out.step2 hb); (try clear y0 y1 y2 y3 y4 y5 y6 y7 y8 y9); (try clear x0 x1 x2 x3 x4 x5 x6 x7 x8 x9 x10); (try clear k7); obtain ⟨y0, y1, y2, y3, y4, y5, y6, y7, y8, y9⟩ := HBI.out _ HB3.out; obtain ⟨x0, x1, x2, x3, x4, x5, x6, x7, x8, x9, x10⟩ := HBX.out.next (HB12.out.step2 HB3.out); clear he hr hb)
        | (go_at_call 22; clear k0 k1 k2 k3 k4 k5 k6 k7 k8 k9; generalize (w.alloc (.cells #[.string q.s, .slice q.a1 q.n1 q.c1, .slice q.a2 q.n2 q.c2, .slice q.a3 q.n3 q.c3, .slice (some ⟨b, o, none⟩) m.nc q.c4, .slice q.a5 q.n5 q.c5, .slice q.a6 q.n6 q.c6, .slice q.a7 m.ns q.c7, .slice q.a8 m.nt q.c8, .slice q.a9 q.n9 q.c9, .slice q.a10 m.nh q.c10] 60)).alloc (.cells #[.int .i64 c0, .int .i64 c1, .int .i64 c2, .int .i64 c3, .int .i64 c4, .int .i64 (ka : Int), .int .i64 c6, .int .i64 c7, .int .i64 c8, .int .i64 c9] 40) = w2 at *; generalize w.alloc (.cells #[.string q.s, .slice q.a1 q.n1 q.c1, .slice q.a2 q.n2 q.c2, .slice q.a3 q.n3 q.c3, .slice (some ⟨b, o, none⟩) m.nc q.c4, .slice q.a5 q.n5 q.c5, .slice q.a6 q.n6 q.c6, .slice q.a7 m.ns q.c7, .slice q.a8 m.nt q.c8, .slice q.a9 q.n9 q.c9, .slice q.a10 m.nh q.c10] 60) = w1 at *; obtain ⟨y0, y1, y2, y3, y4, y5, y6, y7, y8, y9⟩ := HBI.out _ (Below.refl _ _); refine (HC.out _).mono ?_; rintro e wn ⟨rfl, hb⟩; have HB3 := Lib.hid hb; (try clear y0 y1 y2 y3 y4 y5 y6 y7 y8 y9); (try clear x0 x1 x2 x3 x4 x5 x6 x7 x8 x9 x10); (try clear k7); obtain ⟨y0, y1, y2, y3, y4, y5, y6, y7, y8, y9⟩ := HBI.out _ HB3.out; obtain ⟨x0, x1, x2, x3, x4, x5, x6, x7, x8, x9, x10⟩ := HBX.out.next (HB12.out.step2 HB3.out); clear hb)
        | (go_at_call 13; refine (HEn.out _).mono ?_; rintro e wn ⟨rfl, hb⟩; replace HB3 := Lib.hid (HB3.out.step2 hb); (try clear y0 y1 y2 y3 y4 y5 y6 y7 y8 y9); (try clear x0 x1 x2 x3 x4 x5 x6 x7 x8 x9 x10); (try clear k7); obtain ⟨y0, y1, y2, y3, y4, y5, y6, y7, y8, y9⟩ := HBI.out _ HB3.out; obtain ⟨x0, x1, x2, x3, x4, x5, x6, x7, x8, x9, x10⟩ := HBX.out.next (HB12.out.step2 HB3.out); clear hb)
        | (go_at_call 32; refine (HE.out _).mono ?_; rintro e wn ⟨rfl, hb⟩; replace HB3 := Lib.hid (HB3.out.step2 hb); (try clear y0 y1 y2 y3 y4 y5 y6 y7 y8 y9); (try clear x0 x1 x2 x3 x4 x5 x6 x7 x8 x9 x10); (try clear k7); obtain ⟨y0, y1, y2, y3, y4, y5, y6, y7, y8, y9⟩ := HBI.out _ HB3.out; obtain ⟨x0, x1, x2, x3, x4, x5, x6, x7, x8, x9, x10⟩ := HBX.out.next (HB12.out.step2 HB3.out); clear hb))
      go_ret2
      exact ⟨none, 0, rfl, fun j hj => absurd hj (Nat.not_lt_zero _), HBW.out _ HB3.out⟩
  · by_cases e2 : Y = 116
    · subst e2
      obtain ⟨ka, rfl⟩ : ∃ ka : Nat, c5 = (ka : Int) := ⟨c5.toNat, by have := HA.out (.inr rfl); omega⟩
      have a0 : (0 : Int) ≤ (ka : Int) := by omega
      clear HXY
      by_cases hka : ka < m.nt
      · obtain ⟨b7, o7, ha7, hb7, B, D, k7', hp⟩ := HM.out.casesC ka hka
        have K7 : Hid (∀ w', Below ((w.alloc (.cells #[.string q.s, .slice q.a1 q.n1 q.c1, .slice q.a2 q.n2 q.c2, .slice q.a3 q.n3 q.c3, .slice (some ⟨b, o, none⟩) m.nc q.c4, .slice q.a5 q.n5 q.c5, .slice q.a6 q.n6 q.c6, .slice q.a7 m.ns q.c7, .slice q.a8 m.nt q.c8, .slice q.a9 q.n9 q.c9, .slice q.a10 m.nh q.c10] 60)).alloc (.cells #[.int .i64 c0, .int .i64 c1, .int .i64 c2, .int .i64 c3, .int .i64 c4, .int .i64 (ka : Int), .int .i64 c6, .int .i64 c7, .int .i64 c8, .int .i64 c9] 40)).heap.size ((w.alloc (.cells #[.string q.s, .slice q.a1 q.n1 q.c1, .slice q.a2 q.n2 q.c2, .slice q.a3 q.n3 q.c3, .slice (some ⟨b, o, none⟩) m.nc q.c4, .slice q.a5 q.n5 q.c5, .slice q.a6 q.n6 q.c6, .slice q.a7 m.ns q.c7, .slice q.a8 m.nt q.c8, .slice q.a9 q.n9 q.c9, .slice q.a10 m.nh q.c10] 60)).alloc (.cells #[.int .i64 c0, .int .i64 c1, .int .i64 c2, .int .i64 c3, .int .i64 c4, .int .i64 (ka : Int), .int .i64 c6, .int .i64 c7, .int .i64 c8, .int .i64 c9] 40)) w' → w'.cell? ⟨b7, o7 + ka, none⟩ = some (.slice B (m.tn ka) D)) := Lib.hid (fun w' hb => ((HBW.out _ hb).cell (p := ⟨b7, _, none⟩) hb7).trans k7')
        have HA7 := Lib.hid ha7
        have HP := Lib.hid (hp.below (HBW.out _ (Below.refl _ ((w.alloc (.cells #[.string q.s, .slice q.a1 q.n1 q.c1, .slice q.a2 q.n2 q.c2, .slice q.a3 q.n3 q.c3, .slice (some ⟨b, o, none⟩) m.nc q.c4, .slice q.a5 q.n5 q.c5, .slice q.a6 q.n6 q.c6, .slice q.a7 m.ns q.c7, .slice q.a8 m.nt q.c8, .slice q.a9 q.n9 q.c9, .slice q.a10 m.nh q.c10] 60)).alloc (.cells #[.int .i64 c0, .int .i64 c1, .int .i64 c2, .int .i64 c3, .int .i64 c4, .int .i64 (ka : Int), .int .i64 c6, .int .i64 c7, .int .i64 c8, .int .i64 c9] 40)))))
        have hn12 : m.tn ka ≤ 12 := HF.out.tn ka hka
        have a1 : (ka : Int) < (m.nt : Int) := by omega
        have a2 : ¬ (m.nt : Int) ≤ (ka : Int) := by omega
        have a3 : ¬ m.nt ≤ ka := by omega
        have hT : T = (List.range (m.tn ka)).map (m.tp ka) := (by have := HTab.out; simpa [tabI] using this)
        obtain ⟨hL, rfl⟩ := H0.out (fun h => by have := h.1; omega) (fun h => by have := h.2; omega)
        have HFIN : Hid (L = withs ([(k : Int) + 1] ++ (List.range (m.tn ka)).map (m.tp ka))) := Lib.hid (by rw [hL, hT]; simp [eZ])
        clear ha7 hb7 k7' hp hT hL H0
        generalize m.tn ka = n at *
        generalize m.tp ka = pc at *
        have fz : (Z == 106) = false := by simpa using eZ
        have t1 := trivial; 
        go_enter Tryd.func30, Tryd.ntmps30
        go_wp2_with (first
          | (clear t1; go_at_call 46; refine (with_new [] ((k : Int) + 1) none 0 _ (fun j hj => absurd hj (Nat.not_lt_zero _)) (by decide)).mono ?_; rintro e wn ⟨l1, A1, C1, rfl, he, hr, hb⟩; have HE1 := Lib.hid he; have HR := Lib.hid hr; replace HB3 := Lib.hid (HB3.out.step2 hb); (try clear y0 y1 y2 y3 y4 y5 y6 y7 y8 y9); (try clear x0 x1 x2 x3 x4 x5 x6 x7 x8 x9 x10); (try clear k7); obtain ⟨y0, y1, y2, y3, y4, y5, y6, y7, y8, y9⟩ := HBI.out _ HB3.out; obtain ⟨x0, x1, x2, x3, x4, x5, x6, x7, x8, x9, x10⟩ := HBX.out.next (HB12.out.step2 HB3.out); rw [HA7.out] at x8; have k7 := K7.out _ HB3.out; clear he hr hb)
          | (go_at_call 22; clear k0 k1 k2 k3 k4 k5 k6 k7 k8 k9; generalize (w.alloc (.cells #[.string q.s, .slice q.a1 q.n1 q.c1, .slice q.a2 q.n2 q.c2, .slice q.a3 q.n3 q.c3, .slice (some ⟨b, o, none⟩) m.nc q.c4, .slice q.a5 q.n5 q.c5, .slice q.a6 q.n6 q.c6, .slice q.a7 m.ns q.c7, .slice q.a8 m.nt q.c8, .slice q.a9 q.n9 q.c9, .slice q.a10 m.nh q.c10] 60)).alloc (.cells #[.int .i64 c0, .int .i64 c1, .int .i64 c2, .int .i64 c3, .int .i64 c4, .int .i64 (ka : Int), .int .i64 c6, .int .i64 c7, .int .i64 c8, .int .i64 c9] 40) = w2 at *; generalize w.alloc (.cells #[.string q.s, .slice q.a1 q.n1 q.c1, .slice q.a2 q.n2 q.c2, .slice q.a3 q.n3 q.c3, .slice (some ⟨b, o, none⟩) m.nc q.c4, .slice q.a5 q.n5 q.c5, .slice q.a6 q.n6 q.c6, .slice q.a7 m.ns q.c7, .slice q.a8 m.nt q.c8, .slice q.a9 q.n9 q.c9, .slice q.a10 m.nh q.c10] 60) = w1 at *; obtain ⟨y0, y1, y2, y3, y4, y5, y6, y7, y8, y9⟩ := HBI.out _ (Below.refl _ _); refine (HC.out _).mono ?_; rintro e wn ⟨rfl, hb⟩; have HB3 := Lib.hid hb; (try clear y0 y1 y2 y3 y4 y5 y6 y7 y8 y9); (try clear x0 x1 x2 x3 x4 x5 x6 x7 x8 x9 x10); (try clear k7); obtain ⟨y0, y1, y2, y3, y4, y5, y6, y7, y8, y9⟩ := HBI.out _ HB3.out; obtain ⟨x0, x1, x2, x3, x4, x5, x6, x7, x8, x9, x10⟩ := HBX.out.next (HB12.out.step2 HB3.out); rw [HA7.out] at x8; have k7 := K7.out _ HB3.out; clear hb)
          | (go_at_call 13; refine (HEn.out _).mono ?_; rintro e wn ⟨rfl, hb⟩; replace HB3 := Lib.hid (HB3.out.step2 hb); (try clear y0 y1 y2 y3 y4 y5 y6 y7 y8 y9); (try clear x0 x1 x2 x3 x4 x5 x6 x7 x8 x9 x10); (try clear k7); obtain ⟨y0, y1, y2, y3, y4, y5, y6, y7, y8, y9⟩ := HBI.out _ HB3.out; obtain ⟨x0, x1, x2, x3, x4, x5, x6, x7, x8, x9, x10⟩ := HBX.out.next (HB12.out.step2 HB3.out); rw [HA7.out] at x8; have k7 := K7.out _ HB3.out; clear hb)
          | (go_at_call 32; refine (HE.out _).mono ?_; rintro e wn ⟨rfl, hb⟩; replace HB3 := Lib.hid (HB3.out.step2 hb); (try clear y0 y1 y2 y3 y4 y5 y6 y7 y8 y9); (try clear x0 x1 x2 x3 x4 x5 x6 x7 x8 x9 x10); (try clear k7); obtain ⟨y0, y1, y2, y3, y4, y5, y6, y7, y8, y9⟩ := HBI.out _ HB3.out; obtain ⟨x0, x1, x2, x3, x4, x5, x6, x7, x8, x9, x10⟩ := HBX.out.next (HB12.out.step2 HB3.out); rw [HA7.out] at x8; have k7 := K7.out _ HB3.out; clear hb))
        have HUS : Hid (l1 = withs [(k : Int) + 1]) := Lib.hid (HE1.out)
        go_loopw [10, 14] (fun l i w5 => ∃ j : Nat, j ≤ n ∧ i = .int .i64 j ∧ ∃ zs A C, l = .slice A zs.length C ∧ Hid (zs = withs ([(k : Int) + 1] ++ (List.range j).map pc)) ∧ Hid (RowI w5 A zs) ∧ Hid (Below w2.heap.size w2 w5)) (fun _ i _ => n - (intOf i).toNat)
        case atStart => exact ⟨0, by omega, rfl, l1, A1, C1, rfl, Lib.hid (HUS.out.trans (by simp)), HR, HB3⟩
        case round =>
          obtain ⟨j, hj, rfl, zs, A4, C4, rfl, hzs, ho2, hB2⟩ := hrel
          obtain ⟨x0, x1, x2, x3, x4, x5, x6, x7, x8, x9, x10⟩ := HBX.out.next (HB12.out.step2 hB2.out)
          obtain ⟨y0, y1, y2, y3, y4, y5, y6, y7, y8, y9⟩ := HBI.out _ hB2.out
          by_cases hj2 : j < n
          · obtain ⟨b2, o2, rfl, hb2, l, u, p0', p1', p2'⟩ := HP.out j hj2
            have p2 := (hB2.out.cell (p := ⟨b2, _, none⟩) hb2).trans p2'
            have HSN := Lib.hid (withs_map [(k : Int) + 1] pc j)
            have HYL : Hid (zs.length ≤ 1000) := Lib.hid (by rw [hzs.out]; have h1 := withs_len ([(k : Int) + 1] ++ (List.range j).map pc); simp only [List.length_append, List.length_map, List.length_range, List.length_cons, List.length_nil] at h1; omega)
            clear p0' p1' p2' hb2
            generalize pc j = v at *
            have j0 : (0 : Int) ≤ (j : Int) := by omega
            have j1 : (j : Int) < (n : Int) := by omega
            go_wp2_with (go_at_call 46; refine (with_new zs v _ _ _ ho2.out (by have := HYL.out; omega)).mono ?_; rintro e w6 ⟨ws, A3, C3, rfl, he3, ho3, hb3⟩; have HW := Lib.hid he3; have HO3 := Lib.hid ho3; have HB4 := Lib.hid (hB2.out.step2 hb3); clear he3 ho3 hb3)
            go_wp2
            go_roundw
            case rel => exact ⟨j + 1, by omega, by go_num, ws, A3, C3, rfl, Lib.hid (by rw [HW.out, HSN.out, hzs.out]), HO3, HB4⟩
            case measure => simp [intOf]; omega
          · obtain rfl : j = n := by omega
            go_wp2
            go_ret2
            rw [HFIN.out, ← hzs.out]
            exact ⟨A4, C4, rfl, ho2.out, HBW.out _ hB2.out⟩
      · have a1 : (m.nt : Int) ≤ (ka : Int) := by omega
        obtain ⟨rfl, rfl⟩ := H4t.out rfl a1
        have fz : (Z == 106) = false := by simpa using eZ
        have t1 := trivial; 
        go_enter Tryd.func30, Tryd.ntmps30
        go_wp2_with (first
          | (clear t1; go_at_call 46; refine (with_new [] ((k : Int) + 1) none 0 _ (fun j hj => absurd hj (Nat.not_lt_zero _)) (by decide)).mono ?_; rintro e wn ⟨l1, A1, C1, rfl, he, hr, hb⟩; have HE1 := Lib.hid he; have HR := Lib.hid hr; replace HB3 := Lib.hid (HB3.out.step2 hb); (try clear y0 y1 y2 y3 y4 y5 y6 y7 y8 y9); (try clear x0 x1 x2 x3 x4 x5 x6 x7 x8 x9 x10); (try clear k7); obtain ⟨y0, y1, y2, y3, y4, y5, y6, y7, y8, y9⟩ := HBI.out _ HB3.out; obtain ⟨x0, x1, x2, x3, x4, x5, x6, x7, x8, x9, x10⟩ := HBX.out.next (HB12.out.step2 HB3.out); clear he hr hb)
          | (go_at_call 22; clear k0 k1 k2 k3 k4 k5 k6 k7 k8 k9; generalize (w.alloc (.cells #[.string q.s, .slice q.a1 q.n1 q.c1, .slice q.a2 q.n2 q.c2, .slice q.a3 q.n3 q.c3, .slice (some ⟨b, o, none⟩) m.nc q.c4, .slice q.a5 q.n5 q.c5, .slice q.a6 q.n6 q.c6, .slice q.a7 m.ns q.c7, .slice q.a8 m.nt q.c8, .slice q.a9 q.n9 q.c9, .slice q.a10 m.nh q.c10] 60)).alloc (.cells #[.int .i64 c0, .int .i64 c1, .int .i64 c2, .int .i64 c3, .int .i64 c4, .int .i64 (ka : Int), .int .i64 c6, .int .i64 c7, .int .i64 c8, .int .i64 c9] 40) = w2 at *; generalize w.alloc (.cells #[.string q.s, .slice q.a1 q.n1 q.c1, .slice q.a2 q.n2 q.c2, .slice q.a3 q.n3 q.c3, .slice (some ⟨b, o, none⟩) m.nc q.c4, .slice q.a5 q.n5 q.c5, .slice q.a6 q.n6 q.c6, .slice q.a7 m.ns q.c7, .slice q.a8 m.nt q.c8, .slice q.a9 q.n9 q.c9, .slice q.a10 m.nh q.c10] 60) = w1 at *; obtain ⟨y0, y1, y2, y3, y4, y5, y6, y7, y8, y9⟩ := HBI.out _ (Below.refl _ _); refine (HC.out _).mono ?_; rintro e wn ⟨rfl, hb⟩; have HB3 := Lib.hid hb; (try clear y0 y1 y2 y3 y4 y5 y6 y7 y8 y9); (try clear x0 x1 x2 x3 x4 x5 x6 x7 x8 x9 x10); (try clear k7); obtain ⟨y0, y1, y2, y3, y4, y5, y6, y7, y8, y9⟩ := HBI.out _ HB3.out; obtain ⟨x0, x1, x2, x3, x4, x5, x6, x7, x8, x9, x10⟩ := HBX.out.next (HB12.out.step2 HB3.out); clear hb)
          | (go_at_call 13; refine (HEn.out _).mono ?_; rintro e wn ⟨rfl, hb⟩; replace HB3 := Lib.hid (HB3.out.step2 hb); (try clear y0 y1 y2 y3 y4 y5 y6 y7 y8 y9); (try clear x0 x1 x2 x3 x4 x5 x6 x7 x8 x9 x10); (try clear k7); obtain ⟨y0, y1, y2, y3, y4, y5, y6, y7, y8, y9⟩ := HBI.out _ HB3.out; obtain ⟨x0, x1, x2, x3, x4, x5, x6, x7, x8, x9, x10⟩ := HBX.out.next (HB12.out.step2 HB3.out); clear hb)
          | (go_at_call 32; refine (HE.out _).mono ?_; rintro e wn ⟨rfl, hb⟩; replace HB3 := Lib.hid (HB3.out.step2 hb); (try clear y0 y1 y2 y3 y4 y5 y6 y7 y8 y9); (try clear x0 x1 x2 x3 x4 x5 x6 x7 x8 x9 x10); (try clear k7); obtain ⟨y0, y1, y2, y3, y4, y5, y6, y7, y8, y9⟩ := HBI.out _ HB3.out; obtain ⟨x0, x1, x2, x3, x4, x5, x6, x7, x8, x9, x10⟩ := HBX.out.next (HB12.out.step2 HB3.out); clear hb))
        go_ret2
        exact ⟨none, 0, rfl, fun j hj => absurd hj (Nat.not_lt_zero _), HBW.out _ HB3.out⟩
    · clear HXY
      have f1 : (Y == 115) = false := by simpa using e1
      have f2 : (Y == 116) = false := by simpa using e2
      have hT0 : T = [] := (by have := HTab.out; simpa [tabI, e1, e2] using this)
      obtain ⟨hL, rfl⟩ := H0.out (fun h => e1 h.1) (fun h => e2 h.1)
      have HFIN : Hid (L = withs [(k : Int) + 1]) := Lib.hid (by rw [hL, hT0]; simp [eZ])
      clear hT0 hL H0
      have fz : (Z == 106) = false := by simpa using eZ
      have t1 := trivial; 
      go_enter Tryd.func30, Tryd.ntmps30
      go_wp2_with (first
        | (clear t1; go_at_call 46; refine (with_new [] ((k : Int) + 1) none 0 _ (fun j hj => absurd hj (Nat.not_lt_zero _)) (by decide)).mono ?_; rintro e wn ⟨l1, A1, C1, rfl, he, hr, hb⟩; have HE1 := Lib.hid he; have HR := Lib.hid hr; replace HB3 := Lib.hid (HB3.out.step2 hb); (try clear y0 y1 y2 y3 y4 y5 y6 y7 y8 y9); (try clear x0 x1 x2 x3 x4 x5 x6 x7 x8 x9 x10); (try clear k7); obtain ⟨y0, y1, y2, y3, y4, y5, y6, y7, y8, y9⟩ := HBI.out _ HB3.out; obtain ⟨x0, x1, x2, x3, x4, x5, x6, x7, x8, x9, x10⟩ := HBX.out.next (HB12.out.step2 HB3.out); clear he hr hb)
        | (go_at_call 22; clear k0 k1 k2 k3 k4 k5 k6 k7 k8 k9; generalize (w.alloc (.cells #[.string q.s, .slice q.a1 q.n1 q.c1, .slice q.a2 q.n2 q.c2, .slice q.a3 q.n3 q.c3, .slice (some ⟨b, o, none⟩) m.nc q.c4, .slice q.a5 q.n5 q.c5, .slice q.a6 q.n6 q.c6, .slice q.a7 m.ns q.c7, .slice q.a8 m.nt q.c8, .slice q.a9 q.n9 q.c9, .slice q.a10 m.nh q.c10] 60)).alloc (.cells #[.int .i64 c0, .int .i64 c1, .int .i64 c2, .int .i64 c3, .int .i64 c4, .int .i64 c5, .int .i64 c6, .int .i64 c7, .int .i64 c8, .int .i64 c9] 40) = w2 at *; generalize w.alloc (.cells #[.string q.s, .slice q.a1 q.n1 q.c1, .slice q.a2 q.n2 q.c2, .slice q.a3 q.n3 q.c3, .slice (some ⟨b, o, none⟩) m.nc q.c4, .slice q.a5 q.n5 q.c5, .slice q.a6 q.n6 q.c6, .slice q.a7 m.ns q.c7, .slice q.a8 m.nt q.c8, .slice q.a9 q.n9 q.c9, .slice q.a10 m.nh q.c10] 60) = w1 at *; obtain ⟨y0, y1, y2, y3, y4, y5, y6, y7, y8, y9⟩ := HBI.out _ (Below.refl _ _); refine (HC.out _).mono ?_; rintro e wn ⟨rfl, hb⟩; have HB3 := Lib.hid hb; (try clear y0 y1 y2 y3 y4 y5 y6 y7 y8 y9); (try clear x0 x1 x2 x3 x4 x5 x6 x7 x8 x9 x10); (try clear k7); obtain ⟨y0, y1, y2, y3, y4, y5, y6, y7, y8, y9⟩ := HBI.out _ HB3.out; obtain ⟨x0, x1, x2, x3, x4, x5, x6, x7, x8, x9, x10⟩ := HBX.out.next (HB12.out.step2 HB3.out); clear hb)
        | (go_at_call 13; refine (HEn.out _).mono ?_; rintro e wn ⟨rfl, hb⟩; replace HB3 := Lib.hid (HB3.out.step2 hb); (try clear y0 y1 y2 y3 y4 y5 y6 y7 y8 y9); (try clear x0 x1 x2 x3 x4 x5 x6 x7 x8 x9 x10); (try clear k7); obtain ⟨y0, y1, y2, y3, y4, y5, y6, y7, y8, y9⟩ := HBI.out _ HB3.out; obtain ⟨x0, x1, x2, x3, x4, x5, x6, x7, x8, x9, x10⟩ := HBX.out.next (HB12.out.step2 HB3.out); clear hb)
        | (go_at_call 32; refine (HE.out _).mono ?_; rintro e wn ⟨rfl, hb⟩; replace HB3 := Lib.hid (HB3.out.step2 hb); (try clear y0 y1 y2 y3 y4 y5 y6 y7 y8 y9); (try clear x0 x1 x2 x3 x4 x5 x6 x7 x8 x9 x10); (try clear k7); obtain ⟨y0, y1, y2, y3, y4, y5, y6, y7, y8, y9⟩ := HBI.out _ HB3.out; obtain ⟨x0, x1, x2, x3, x4, x5, x6, x7, x8, x9, x10⟩ := HBX.out.next (HB12.out.step2 HB3.out); clear hb))
      go_ret2
      have hLST : l1 = withs [(k : Int) + 1] := HE1.out
      rw [HFIN.out, ← hLST]
      exact ⟨A1, C1, rfl, HR.out, HBW.out _ HB3.out⟩
end Go.Proofs.YtadkbcdopcehhaaDoor
