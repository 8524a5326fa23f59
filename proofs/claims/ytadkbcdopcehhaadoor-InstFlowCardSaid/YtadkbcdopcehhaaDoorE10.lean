/- The contract of inst.Next, where Check finds no error. -/
import Derived.Test.YtadkbcdopcehhaaDoorE9
namespace Go.Proofs.YtadkbcdopcehhaaDoor
open Go.RowKit

/-- The lines of the table that an instruction names. -/
def tabI (m : MdV) (Y c5 : Int) : List Int := if Y = 115 then (List.range (m.sn c5.toNat)).map (m.sp c5.toNat) else if Y = 116 then (List.range (m.tn c5.toNat)).map (m.tp c5.toNat) else []
/-- The list after j operands. -/
def pt (L0 T J : List Int) : Nat → List Int
  | 0 => L0
  | 1 => L0
  | 2 => L0 ++ T
  | _ => (L0 ++ T) ++ J

/-- What a Next answers. -/
def NxR (w : World) (L : List Int) (E : Int) (e : Ending) (w' : World) : Prop := ∃ A C, e = .returned (.tuple #[.slice A L.length C, .int .i64 E]) ∧ RowI w' A L ∧ Below w.heap.size w w'
def okT (m : MdV) (Y c5 : Int) : Prop := ¬ (Y = 115 ∧ (m.ns : Int) ≤ c5) ∧ ¬ (Y = 116 ∧ (m.nt : Int) ≤ c5)
set_option maxRecDepth 100000 in
set_option maxHeartbeats 8000000 in
theorem next_in (q : MdA) (m : MdV) (k : Nat) (hk : k < m.nc) (w : World) (hm : MdIs w q m) (hf : Few m) (c0 c1 c2 c3 c4 c5 c6 c7 c8 c9 : Int) (hc : ∀ i, i < 10 → m.c k i = [c0, c1, c2, c3, c4, c5, c6, c7, c8, c9].getD i 0)
    (x y z : UInt8) (X Y Z : Int) (hX : (x.toNat : Int) = X) (hY : (y.toNat : Int) = Y) (hZ : (z.toNat : Int) = Z) (en : Bool)
    (hchk : ∀ w, Calls Tryd.prog 21 #[.agg #[.int .i64 c0, .int .i64 c1, .int .i64 c2, .int .i64 c3, .int .i64 c4, .int .i64 c5, .int .i64 c6, .int .i64 c7, .int .i64 c8, .int .i64 c9]] w fun e w' => e = .returned (.int .i64 0) ∧ Below w.heap.size w w')
    (hends : ∀ w, Calls Tryd.prog 31 #[.int .i64 c0] w fun e w' => e = .returned (.bool en) ∧ w = w')
    (hform : ∀ w, Calls Tryd.prog 17 #[.int .i64 c0] w fun e w' => e = .returned (.string ⟨#[x, y, z]⟩) ∧ w = w')
    (fx : (X == 106) = false ∧ (X == 115) = false ∧ (X == 116) = false) (fy : (Y == 106) = false) (fz : (Z == 115) = false ∧ (Z == 116) = false)
    (hA : Y = 115 ∨ Y = 116 → 0 ≤ c5) (T J L : List Int) (E : Int) (hT : T = tabI m Y c5) (hJ : J = if Z = 106 then [c8] else []) (hTL : T.length ≤ 12 ∨ (Y = 115 ∧ (m.ns : Int) ≤ c5) ∨ (Y = 116 ∧ (m.nt : Int) ≤ c5))
    (h4s : Y = 115 → (m.ns : Int) ≤ c5 → L = [] ∧ E = 4) (h4t : Y = 116 → (m.nt : Int) ≤ c5 → L = [] ∧ E = 4)
    (h0 : ¬ (Y = 115 ∧ (m.ns : Int) ≤ c5) → ¬ (Y = 116 ∧ (m.nt : Int) ≤ c5) → L = setI (((if en then [] else [(k : Int) + 1]) ++ T) ++ J) ∧ E = 0) :
    Calls Tryd.prog 29 #[.agg #[.string q.s, .slice q.a1 q.n1 q.c1, .slice q.a2 q.n2 q.c2, .slice q.a3 q.n3 q.c3, .slice q.a4 m.nc q.c4, .slice q.a5 q.n5 q.c5, .slice q.a6 q.n6 q.c6, .slice q.a7 m.ns q.c7, .slice q.a8 m.nt q.c8, .slice q.a9 q.n9 q.c9, .slice q.a10 m.nh q.c10], .int .i64 (k : Int)] w fun e w' => NxR w L E e w' := by
  have hB0 : Below w.heap.size w (w.alloc (.cells #[.string q.s, .slice q.a1 q.n1 q.c1, .slice q.a2 q.n2 q.c2, .slice q.a3 q.n3 q.c3, .slice q.a4 m.nc q.c4, .slice q.a5 q.n5 q.c5, .slice q.a6 q.n6 q.c6, .slice q.a7 m.ns q.c7, .slice q.a8 m.nt q.c8, .slice q.a9 q.n9 q.c9, .slice q.a10 m.nh q.c10] 60)) := (Below.refl w.heap.size w).alloc (Nat.le_refl _) _
  have HB := Lib.hid hB0
  have HBX := Lib.hid (Bxd.new w q m)
  obtain ⟨b, o, ha, hb, k0, k1, k2, k3, k4, k5, k6, k7, k8, k9⟩ := hm.code.ten hk hc hB0
  have HM := Lib.hid hm
  have HF := Lib.hid hf
  have HC := Lib.hid hchk
  have HE := Lib.hid hends
  have HFm := Lib.hid hform
  have FX := Lib.hid fx
  have FY := Lib.hid fy
  have FZ := Lib.hid fz
  have HA := Lib.hid hA
  have HTab := Lib.hid hT
  have HJ := Lib.hid hJ
  have HTL := Lib.hid hTL
  have H4s := Lib.hid h4s
  have H4t := Lib.hid h4t
  have H0 := Lib.hid h0
  have HX := Lib.hid hX
  have HY := Lib.hid hY
  have HZ := Lib.hid hZ
  have hk40 : k < 40 := by have := hf.nc; omega
  have g0 : ¬ (k : Int) < 0 := by omega
  have g1 : ¬ (m.nc : Int) ≤ (k : Int) := by omega
  have i0 : (0 : Int) ≤ (k : Int) := by omega
  have i1 : (k : Int) < (m.nc : Int) := by omega
  clear hB0 hm hf hc hchk hends hform fx fy fz hA hT hJ hTL h4s h4t h0 hX hY hZ
  rw [ha] at HB HBX k0 k1 k2 k3 k4 k5 k6 k7 k8 k9 ⊢
  clear ha hb
  have hsz : (w.alloc (.cells #[.string q.s, .slice q.a1 q.n1 q.c1, .slice q.a2 q.n2 q.c2, .slice q.a3 q.n3 q.c3, .slice (some ⟨b, o, none⟩) m.nc q.c4, .slice q.a5 q.n5 q.c5, .slice q.a6 q.n6 q.c6, .slice q.a7 m.ns q.c7, .slice q.a8 m.nt q.c8, .slice q.a9 q.n9 q.c9, .slice q.a10 m.nh q.c10] 60)).heap.size = w.heap.size + 1 := by simp
  have hbi := Bi.new (w.alloc (.cells #[.string q.s, .slice q.a1 q.n1 q.c1, .slice q.a2 q.n2 q.c2, .slice q.a3 q.n3 q.c3, .slice (some ⟨b, o, none⟩) m.nc q.c4, .slice q.a5 q.n5 q.c5, .slice q.a6 q.n6 q.c6, .slice q.a7 m.ns q.c7, .slice q.a8 m.nt q.c8, .slice q.a9 q.n9 q.c9, .slice q.a10 m.nh q.c10] 60)) c0 c1 c2 c3 c4 c5 c6 c7 c8 c9
  rw [hsz] at hbi
  have hlt : w.heap.size + 1 < ((w.alloc (.cells #[.string q.s, .slice q.a1 q.n1 q.c1, .slice q.a2 q.n2 q.c2, .slice q.a3 q.n3 q.c3, .slice (some ⟨b, o, none⟩) m.nc q.c4, .slice q.a5 q.n5 q.c5, .slice q.a6 q.n6 q.c6, .slice q.a7 m.ns q.c7, .slice q.a8 m.nt q.c8, .slice q.a9 q.n9 q.c9, .slice q.a10 m.nh q.c10] 60)).alloc (.cells #[.int .i64 c0, .int .i64 c1, .int .i64 c2, .int .i64 c3, .int .i64 c4, .int .i64 c5, .int .i64 c6, .int .i64 c7, .int .i64 c8, .int .i64 c9] 40)).heap.size := by simp
  have hB12 : Below (w.alloc (.cells #[.string q.s, .slice q.a1 q.n1 q.c1, .slice q.a2 q.n2 q.c2, .slice q.a3 q.n3 q.c3, .slice (some ⟨b, o, none⟩) m.nc q.c4, .slice q.a5 q.n5 q.c5, .slice q.a6 q.n6 q.c6, .slice q.a7 m.ns q.c7, .slice q.a8 m.nt q.c8, .slice q.a9 q.n9 q.c9, .slice q.a10 m.nh q.c10] 60)).heap.size (w.alloc (.cells #[.string q.s, .slice q.a1 q.n1 q.c1, .slice q.a2 q.n2 q.c2, .slice q.a3 q.n3 q.c3, .slice (some ⟨b, o, none⟩) m.nc q.c4, .slice q.a5 q.n5 q.c5, .slice q.a6 q.n6 q.c6, .slice q.a7 m.ns q.c7, .slice q.a8 m.nt q.c8, .slice q.a9 q.n9 q.c9, .slice q.a10 m.nh q.c10] 60)) ((w.alloc (.cells #[.string q.s, .slice q.a1 q.n1 q.c1, .slice q.a2 q.n2 q.c2, .slice q.a3 q.n3 q.c3, .slice (some ⟨b, o, none⟩) m.nc q.c4, .slice q.a5 q.n5 q.c5, .slice q.a6 q.n6 q.c6, .slice q.a7 m.ns q.c7, .slice q.a8 m.nt q.c8, .slice q.a9 q.n9 q.c9, .slice q.a10 m.nh q.c10] 60)).alloc (.cells #[.int .i64 c0, .int .i64 c1, .int .i64 c2, .int .i64 c3, .int .i64 c4, .int .i64 c5, .int .i64 c6, .int .i64 c7, .int .i64 c8, .int .i64 c9] 40)) := (Below.refl _ _).alloc (Nat.le_refl _) _
  have HBI := Lib.hid (fun w' => hbi.next (w' := w') hlt)
  have HB12 := Lib.hid hB12
  have HBW : Hid (∀ w', Below ((w.alloc (.cells #[.string q.s, .slice q.a1 q.n1 q.c1, .slice q.a2 q.n2 q.c2, .slice q.a3 q.n3 q.c3, .slice (some ⟨b, o, none⟩) m.nc q.c4, .slice q.a5 q.n5 q.c5, .slice q.a6 q.n6 q.c6, .slice q.a7 m.ns q.c7, .slice q.a8 m.nt q.c8, .slice q.a9 q.n9 q.c9, .slice q.a10 m.nh q.c10] 60)).alloc (.cells #[.int .i64 c0, .int .i64 c1, .int .i64 c2, .int .i64 c3, .int .i64 c4, .int .i64 c5, .int .i64 c6, .int .i64 c7, .int .i64 c8, .int .i64 c9] 40)).heap.size ((w.alloc (.cells #[.string q.s, .slice q.a1 q.n1 q.c1, .slice q.a2 q.n2 q.c2, .slice q.a3 q.n3 q.c3, .slice (some ⟨b, o, none⟩) m.nc q.c4, .slice q.a5 q.n5 q.c5, .slice q.a6 q.n6 q.c6, .slice q.a7 m.ns q.c7, .slice q.a8 m.nt q.c8, .slice q.a9 q.n9 q.c9, .slice q.a10 m.nh q.c10] 60)).alloc (.cells #[.int .i64 c0, .int .i64 c1, .int .i64 c2, .int .i64 c3, .int .i64 c4, .int .i64 c5, .int .i64 c6, .int .i64 c7, .int .i64 c8, .int .i64 c9] 40)) w' → Below w.heap.size w w') := Lib.hid (fun w' hb => (HB.out.step2 HB12.out).step2 hb)
  clear hsz hbi hlt hB12
  cases en
  · go_enter Tryd.func29, Tryd.ntmps29
    go_wp2_with (first
      | (at_builtin; refine app_int rfl _ _ rfl w2.heap.size none 0 [] ((k : Int) + 1) rfl (World.ownsRow_nil _ _ _ _) rfl rfl (by simp) HB3.out.size ?_; intro A0 C0 L0 w4 hl ho3 hb4; have HLE := Lib.hid hl; have HO0 := Lib.hid ho3; (try clear y0 y1 y2 y3 y4 y5 y6 y7 y8 y9); have HB4 := Lib.hid (HB3.out.trans hb4); obtain ⟨y0, y1, y2, y3, y4, y5, y6, y7, y8, y9⟩ := HBI.out _ HB4.out; clear hl ho3 hb4)
      | (go_at_call 21; clear k0 k1 k2 k3 k4 k5 k6 k7 k8 k9; generalize (w.alloc (.cells #[.string q.s, .slice q.a1 q.n1 q.c1, .slice q.a2 q.n2 q.c2, .slice q.a3 q.n3 q.c3, .slice (some ⟨b, o, none⟩) m.nc q.c4, .slice q.a5 q.n5 q.c5, .slice q.a6 q.n6 q.c6, .slice q.a7 m.ns q.c7, .slice q.a8 m.nt q.c8, .slice q.a9 q.n9 q.c9, .slice q.a10 m.nh q.c10] 60)).alloc (.cells #[.int .i64 c0, .int .i64 c1, .int .i64 c2, .int .i64 c3, .int .i64 c4, .int .i64 c5, .int .i64 c6, .int .i64 c7, .int .i64 c8, .int .i64 c9] 40) = w2 at *; generalize w.alloc (.cells #[.string q.s, .slice q.a1 q.n1 q.c1, .slice q.a2 q.n2 q.c2, .slice q.a3 q.n3 q.c3, .slice (some ⟨b, o, none⟩) m.nc q.c4, .slice q.a5 q.n5 q.c5, .slice q.a6 q.n6 q.c6, .slice q.a7 m.ns q.c7, .slice q.a8 m.nt q.c8, .slice q.a9 q.n9 q.c9, .slice q.a10 m.nh q.c10] 60) = w1 at *; refine (HC.out _).mono ?_; rintro e w3 ⟨rfl, hb3⟩; obtain ⟨y0, y1, y2, y3, y4, y5, y6, y7, y8, y9⟩ := HBI.out _ hb3; have HB3 := Lib.hid hb3; clear hb3)
      | (go_at_call 31; refine (HE.out _).mono ?_; rintro e w' ⟨rfl, rfl⟩)
      | (go_at_call 17; refine (HFm.out _).mono ?_; rintro e w' ⟨rfl, rfl⟩))
    have HL0 : Hid (L0.length ≤ 1) := Lib.hid (by rw [HLE.out]; simp)
    go_loopw [8, 54] (fun l i wr => ∃ j : Nat, j ≤ 3 ∧ i = .int .i64 j ∧ ∃ ys A C, l = .slice A ys.length C ∧ Hid (ys = pt L0 T J j) ∧ Hid (wr.ownsRow w2.heap.size 3 1 (.slice A ys.length C) ys.length (ints ys)) ∧ Hid (Below w2.heap.size w2 wr) ∧ Hid (2 ≤ j → okT m Y c5)) (fun _ i _ => 3 - (intOf i).toNat)
    case atStart => exact ⟨0, by omega, rfl, L0, A0, C0, rfl, Lib.hid rfl, HO0, HB4, Lib.hid (fun h => by omega)⟩
    case round =>
      obtain ⟨j, hj, rfl, ys, A, C, rfl, hys, ho, hB, hok⟩ := hrel
      have : j = 0 ∨ j = 1 ∨ j = 2 ∨ j = 3 := by omega
      rcases this with rfl | rfl | rfl | rfl
      · obtain ⟨f1, f2, f3⟩ := FX.out
        have ix : ∀ w, (Instr.index 77 (.agg #[.int .i64 c1, .int .i64 c2, .int .i64 c3, .int .i64 c4, .int .i64 c5, .int .i64 c6, .int .i64 c7, .int .i64 c8, .int .i64 c9]) (.int .i64 0)).run Tryd.prog w = .ok (.agg #[.int .i64 c1, .int .i64 c2, .int .i64 c3]) w := fun _ => by kernel_rfl
        have hx : ∀ w, (Instr.index 9 (.string ⟨#[x, y, z]⟩) (.int .i64 0)).run Tryd.prog w = .ok (.int .u8 X) w := fun w => run_index_lit [x, y, z] 0 X (by simp) HX.out w
        go_wp2
        go_roundw
        case rel => exact ⟨1, by omega, rfl, ys, A, C, rfl, Lib.hid (by rw [hys.out]; rfl), Lib.hid (ho.out.alloc _), Lib.hid (hB.out.alloc hB.out.size _), Lib.hid (fun h => by omega)⟩
        case measure => simp [intOf]
      · have ix : ∀ w, (Instr.index 77 (.agg #[.int .i64 c1, .int .i64 c2, .int .i64 c3, .int .i64 c4, .int .i64 c5, .int .i64 c6, .int .i64 c7, .int .i64 c8, .int .i64 c9]) (.int .i64 1)).run Tryd.prog w = .ok (.agg #[.int .i64 c4, .int .i64 c5, .int .i64 c6]) w := fun _ => by kernel_rfl
        have hx : ∀ w, (Instr.index 9 (.string ⟨#[x, y, z]⟩) (.int .i64 1)).run Tryd.prog w = .ok (.int .u8 Y) w := fun w => run_index_lit [x, y, z] 1 Y (by simp) HY.out w
        by_cases e1 : Y = 115
        · subst e1
          obtain ⟨ka, rfl⟩ : ∃ ka : Nat, c5 = (ka : Int) := ⟨c5.toNat, by have := HA.out (.inl rfl); omega⟩
          have a0 : (0 : Int) ≤ (ka : Int) := by omega
          have hBa := hB.out.alloc hB.out.size (.cells #[.int .i64 c4, .int .i64 (ka : Int), .int .i64 c6] 38)
          obtain ⟨x0, x1, x2, x3, x4, x5, x6, x7, x8, x9, x10⟩ := HBX.out.next (HB12.out.step2 hBa)
          by_cases hka : ka < m.ns
          · obtain ⟨b7, o7, ha7, hb7, B, D, k7', hp⟩ := HM.out.cases ka hka
            have k7 := ((HBW.out _ hBa).cell (p := ⟨b7, _, none⟩) hb7).trans k7'
            have HP := Lib.hid (hp.below (HBW.out _ (Below.refl _ w2)))
            have hn12 : m.sn ka ≤ 12 := HF.out.sn ka hka
            have a1 : (ka : Int) < (m.ns : Int) := by omega
            have a2 : ¬ (m.ns : Int) ≤ (ka : Int) := by omega
            have HT : Hid (T = (List.range (m.sn ka)).map (m.sp ka)) := Lib.hid (by have := HTab.out; simpa [tabI] using this)
            clear k7' hp hBa
            generalize m.sn ka = n at *
            generalize m.sp ka = pc at *
            rw [ha7] at x7
            clear ha7 hb7
            obtain rfl : ys = L0 := hys.out
            go_wp2
            go_loopw [8, 83] (fun l i w5 => ∃ j : Nat, j ≤ n ∧ i = .int .i64 j ∧ ∃ zs A C, l = .slice A zs.length C ∧ Hid (zs = ys ++ (List.range j).map pc) ∧ Hid (w5.ownsRow w2.heap.size 3 1 (.slice A zs.length C) zs.length (ints zs)) ∧ Hid (Below w2.heap.size w2 w5)) (fun _ i _ => n - (intOf i).toNat)
            case atStart => exact ⟨0, by omega, rfl, ys, A, C, rfl, Lib.hid (by simp), Lib.hid (ho.out.alloc _), Lib.hid (hB.out.alloc hB.out.size _)⟩
            case round =>
              obtain ⟨j, hj, rfl, zs, A2, C2, rfl, hzs, ho2, hB2⟩ := hrel
              by_cases hj2 : j < n
              · obtain ⟨b2, o2, rfl, hb2, l, u, p0', p1', p2'⟩ := HP.out j hj2
                have p0 := (hB2.out.cell (p := ⟨b2, _, none⟩) hb2).trans p0'
                have p1 := (hB2.out.cell (p := ⟨b2, _, none⟩) hb2).trans p1'
                have p2 := (hB2.out.cell (p := ⟨b2, _, none⟩) hb2).trans p2'
                clear p0' p1' p2'
                have HSN := Lib.hid (map_snoc pc j)
                generalize pc j = v at *
                have j0 : (0 : Int) ≤ (j : Int) := by omega
                have j1 : (j : Int) < (n : Int) := by omega
                have HYL : Hid (zs.length ≤ 1000) := Lib.hid (by rw [hzs.out]; have := HL0.out; simp; omega)
                go_wp2_with (at_builtin; refine app_int rfl _ _ rfl w2.heap.size _ _ zs v rfl (ho2.out.alloc _) rfl (by simp) (by have := HYL.out; omega) (by have := hB2.out.size; simp; omega) ?_; intro A3 C3 us w6 hu ho3 hb3; have HU := Lib.hid hu; have HO3 := Lib.hid ho3; have HB3 := Lib.hid ((hB2.out.alloc hB2.out.size _).trans hb3); clear hu ho3 hb3)
                go_wp2
                go_roundw
                case rel => exact ⟨j + 1, by omega, by go_num, us, A3, C3, rfl, Lib.hid (by rw [HU.out, hzs.out, HSN.out, List.append_assoc]), HO3, HB3⟩
                case measure => simp [intOf]; omega
              · obtain rfl : j = n := by omega
                go_wp2
                go_roundw
                case rel => exact ⟨2, by omega, rfl, zs, A2, C2, rfl, Lib.hid (by rw [hzs.out, HT.out]; rfl), ho2, hB2, Lib.hid (fun _ => ⟨fun h => by have := h.2; omega, fun h => by have := h.1; omega⟩)⟩
                case measure => simp [intOf]
          · have a1 : (m.ns : Int) ≤ (ka : Int) := by omega
            obtain ⟨rfl, rfl⟩ := H4s.out rfl a1
            go_wp2
            go_ret2
            exact ⟨none, 0, rfl, fun j hj => absurd hj (Nat.not_lt_zero _), HBW.out _ (hB.out.alloc hB.out.size _)⟩
        · by_cases e2 : Y = 116
          · subst e2
            obtain ⟨ka, rfl⟩ : ∃ ka : Nat, c5 = (ka : Int) := ⟨c5.toNat, by have := HA.out (.inr rfl); omega⟩
            have a0 : (0 : Int) ≤ (ka : Int) := by omega
            have hBa := hB.out.alloc hB.out.size (.cells #[.int .i64 c4, .int .i64 (ka : Int), .int .i64 c6] 38)
            obtain ⟨x0, x1, x2, x3, x4, x5, x6, x7, x8, x9, x10⟩ := HBX.out.next (HB12.out.step2 hBa)
            by_cases hka : ka < m.nt
            · obtain ⟨b7, o7, ha7, hb7, B, D, k7', hp⟩ := HM.out.casesC ka hka
              have k7 := ((HBW.out _ hBa).cell (p := ⟨b7, _, none⟩) hb7).trans k7'
              have HP := Lib.hid (hp.below (HBW.out _ (Below.refl _ w2)))
              have hn12 : m.tn ka ≤ 12 := HF.out.tn ka hka
              have a1 : (ka : Int) < (m.nt : Int) := by omega
              have a2 : ¬ (m.nt : Int) ≤ (ka : Int) := by omega
              have HT : Hid (T = (List.range (m.tn ka)).map (m.tp ka)) := Lib.hid (by have := HTab.out; simpa [tabI] using this)
              clear k7' hp hBa
              generalize m.tn ka = n at *
              generalize m.tp ka = pc at *
              rw [ha7] at x8
              clear ha7 hb7
              obtain rfl : ys = L0 := hys.out
              go_wp2
              go_loopw [8, 108] (fun l i w5 => ∃ j : Nat, j ≤ n ∧ i = .int .i64 j ∧ ∃ zs A C, l = .slice A zs.length C ∧ Hid (zs = ys ++ (List.range j).map pc) ∧ Hid (w5.ownsRow w2.heap.size 3 1 (.slice A zs.length C) zs.length (ints zs)) ∧ Hid (Below w2.heap.size w2 w5)) (fun _ i _ => n - (intOf i).toNat)
              case atStart => exact ⟨0, by omega, rfl, ys, A, C, rfl, Lib.hid (by simp), Lib.hid (ho.out.alloc _), Lib.hid (hB.out.alloc hB.out.size _)⟩
              case round =>
                obtain ⟨j, hj, rfl, zs, A2, C2, rfl, hzs, ho2, hB2⟩ := hrel
                by_cases hj2 : j < n
                · obtain ⟨b2, o2, rfl, hb2, l, u, p0', p1', p2'⟩ := HP.out j hj2
                  have p0 := (hB2.out.cell (p := ⟨b2, _, none⟩) hb2).trans p0'
                  have p1 := (hB2.out.cell (p := ⟨b2, _, none⟩) hb2).trans p1'
                  have p2 := (hB2.out.cell (p := ⟨b2, _, none⟩) hb2).trans p2'
                  clear p0' p1' p2'
                  have HSN := Lib.hid (map_snoc pc j)
                  generalize pc j = v at *
                  have j0 : (0 : Int) ≤ (j : Int) := by omega
                  have j1 : (j : Int) < (n : Int) := by omega
                  have HYL : Hid (zs.length ≤ 1000) := Lib.hid (by rw [hzs.out]; have := HL0.out; simp; omega)
                  go_wp2_with (at_builtin; refine app_int rfl _ _ rfl w2.heap.size _ _ zs v rfl (ho2.out.alloc _) rfl (by simp) (by have := HYL.out; omega) (by have := hB2.out.size; simp; omega) ?_; intro A3 C3 us w6 hu ho3 hb3; have HU := Lib.hid hu; have HO3 := Lib.hid ho3; have HB3 := Lib.hid ((hB2.out.alloc hB2.out.size _).trans hb3); clear hu ho3 hb3)
                  go_wp2
                  go_roundw
                  case rel => exact ⟨j + 1, by omega, by go_num, us, A3, C3, rfl, Lib.hid (by rw [HU.out, hzs.out, HSN.out, List.append_assoc]), HO3, HB3⟩
                  case measure => simp [intOf]; omega
                · obtain rfl : j = n := by omega
                  go_wp2
                  go_roundw
                  case rel => exact ⟨2, by omega, rfl, zs, A2, C2, rfl, Lib.hid (by rw [hzs.out, HT.out]; rfl), ho2, hB2, Lib.hid (fun _ => ⟨fun h => by have := h.1; omega, fun h => by have := h.2; omega⟩)⟩
                  case measure => simp [intOf]
            · have a1 : (m.nt : Int) ≤ (ka : Int) := by omega
              obtain ⟨rfl, rfl⟩ := H4t.out rfl a1
              go_wp2
              go_ret2
              exact ⟨none, 0, rfl, fun j hj => absurd hj (Nat.not_lt_zero _), HBW.out _ (hB.out.alloc hB.out.size _)⟩
          · have f1 := FY.out
            have f2 : (Y == 115) = false := by simpa using e1
            have f3 : (Y == 116) = false := by simpa using e2
            have hT0 : Hid (T = []) := Lib.hid (by have := HTab.out; simpa [tabI, e1, e2] using this)
            go_wp2
            go_roundw
            case rel => exact ⟨2, by omega, rfl, ys, A, C, rfl, Lib.hid (by rw [hys.out]; rw [show pt L0 T J 2 = pt L0 T J 1 ++ T from rfl, hT0.out, List.append_nil]), Lib.hid (ho.out.alloc _), Lib.hid (hB.out.alloc hB.out.size _), Lib.hid (fun _ => ⟨fun h => e1 h.1, fun h => e2 h.1⟩)⟩
            case measure => simp [intOf]
      · have ix : ∀ w, (Instr.index 77 (.agg #[.int .i64 c1, .int .i64 c2, .int .i64 c3, .int .i64 c4, .int .i64 c5, .int .i64 c6, .int .i64 c7, .int .i64 c8, .int .i64 c9]) (.int .i64 2)).run Tryd.prog w = .ok (.agg #[.int .i64 c7, .int .i64 c8, .int .i64 c9]) w := fun _ => by kernel_rfl
        have hx : ∀ w, (Instr.index 9 (.string ⟨#[x, y, z]⟩) (.int .i64 2)).run Tryd.prog w = .ok (.int .u8 Z) w := fun w => run_index_lit [x, y, z] 2 Z (by simp) HZ.out w
        obtain ⟨f2, f3⟩ := FZ.out
        by_cases e1 : Z = 106
        · have hJ : Hid (J = [c8]) := Lib.hid (by have := HJ.out; simpa [e1] using this)
          subst e1
          have HYL : Hid (ys.length ≤ 1000) := Lib.hid (by rw [hys.out]; have h1 := HL0.out; have h2 := HTL.out; have h3 := hok.out (by omega); simp only [okT] at h3; simp [pt]; omega)
          go_wp2_with (at_builtin; refine app_int rfl _ _ rfl w2.heap.size _ _ ys c8 rfl (ho.out.alloc _) rfl (by simp) (by have := HYL.out; omega) (by have := hB.out.size; simp; omega) ?_; intro A3 C3 us w6 hu ho3 hb3; have HU := Lib.hid hu; have HO3 := Lib.hid ho3; have HB3 := Lib.hid ((hB.out.alloc hB.out.size _).trans hb3); clear hu ho3 hb3)
          go_wp2
          go_roundw
          case rel => exact ⟨3, by omega, rfl, us, A3, C3, rfl, Lib.hid (by rw [HU.out, hys.out, show pt L0 T J 3 = pt L0 T J 2 ++ J from rfl, hJ.out]), HO3, HB3, Lib.hid (fun _ => hok.out (by omega))⟩
          case measure => simp [intOf]
        · have f1 : (Z == 106) = false := by simpa using e1
          have hJ : Hid (J = []) := Lib.hid (by have := HJ.out; simpa [e1] using this)
          go_wp2
          go_roundw
          case rel => exact ⟨3, by omega, rfl, ys, A, C, rfl, Lib.hid (by rw [hys.out]; rw [show pt L0 T J 3 = pt L0 T J 2 ++ J from rfl, hJ.out, List.append_nil]), Lib.hid (ho.out.alloc _), Lib.hid (hB.out.alloc hB.out.size _), Lib.hid (fun _ => hok.out (by omega))⟩
          case measure => simp [intOf]
      · have h3 := hok.out (by omega)
        obtain ⟨e1, e2⟩ := H0.out h3.1 h3.2
        have hJl : J.length ≤ 1 := by rw [HJ.out]; split <;> simp
        have hyl : Hid (ys.length ≤ 1000) := Lib.hid (by rw [hys.out]; have h1 := HL0.out; have h2 := HTL.out; simp only [okT] at h3; simp [pt]; omega)
        have HLs : Hid (L = setI ys) := Lib.hid (by rw [e1, hys.out]; show _ = setI ((L0 ++ T) ++ J); rw [HLE.out]; rfl)
        subst e2
        clear e1 h3 hJl
        go_wp2_with (go_at_call 45; refine (set_calls _ _ _ w2.heap.size _ ho.out (by have := hyl.out; omega) hB.out.size).mono ?_; rintro e w3 ⟨A1, C1, rfl, hr, hb⟩; have HR := Lib.hid hr; have HB3 := Lib.hid (hB.out.trans hb); clear hr hb)
        go_ret2
        rw [HLs.out]
        exact ⟨A1, C1, rfl, HR.out, HBW.out _ HB3.out⟩
  · go_enter Tryd.func29, Tryd.ntmps29
    obtain ⟨L0, hL0⟩ : ∃ L0 : List Int, L0 = [] := ⟨[], rfl⟩
    have HLE := Lib.hid hL0
    clear hL0
    go_wp2_with (first
      | (go_at_call 21; clear k0 k1 k2 k3 k4 k5 k6 k7 k8 k9; generalize (w.alloc (.cells #[.string q.s, .slice q.a1 q.n1 q.c1, .slice q.a2 q.n2 q.c2, .slice q.a3 q.n3 q.c3, .slice (some ⟨b, o, none⟩) m.nc q.c4, .slice q.a5 q.n5 q.c5, .slice q.a6 q.n6 q.c6, .slice q.a7 m.ns q.c7, .slice q.a8 m.nt q.c8, .slice q.a9 q.n9 q.c9, .slice q.a10 m.nh q.c10] 60)).alloc (.cells #[.int .i64 c0, .int .i64 c1, .int .i64 c2, .int .i64 c3, .int .i64 c4, .int .i64 c5, .int .i64 c6, .int .i64 c7, .int .i64 c8, .int .i64 c9] 40) = w2 at *; generalize w.alloc (.cells #[.string q.s, .slice q.a1 q.n1 q.c1, .slice q.a2 q.n2 q.c2, .slice q.a3 q.n3 q.c3, .slice (some ⟨b, o, none⟩) m.nc q.c4, .slice q.a5 q.n5 q.c5, .slice q.a6 q.n6 q.c6, .slice q.a7 m.ns q.c7, .slice q.a8 m.nt q.c8, .slice q.a9 q.n9 q.c9, .slice q.a10 m.nh q.c10] 60) = w1 at *; refine (HC.out _).mono ?_; rintro e w3 ⟨rfl, hb3⟩; obtain ⟨y0, y1, y2, y3, y4, y5, y6, y7, y8, y9⟩ := HBI.out _ hb3; have HB3 := Lib.hid hb3; clear hb3)
      | (go_at_call 31; refine (HE.out _).mono ?_; rintro e w' ⟨rfl, rfl⟩)
      | (go_at_call 17; refine (HFm.out _).mono ?_; rintro e w' ⟨rfl, rfl⟩))
    have HL0 : Hid (L0.length ≤ 1) := Lib.hid (by rw [HLE.out]; simp)
    go_loopw [8, 54] (fun l i wr => ∃ j : Nat, j ≤ 3 ∧ i = .int .i64 j ∧ ∃ ys A C, l = .slice A ys.length C ∧ Hid (ys = pt L0 T J j) ∧ Hid (wr.ownsRow w2.heap.size 3 1 (.slice A ys.length C) ys.length (ints ys)) ∧ Hid (Below w2.heap.size w2 wr) ∧ Hid (2 ≤ j → okT m Y c5)) (fun _ i _ => 3 - (intOf i).toNat)
    case atStart => exact ⟨0, by omega, rfl, L0, none, 0, by rw [HLE.out]; rfl, Lib.hid rfl, Lib.hid (by rw [HLE.out]; exact World.ownsRow_nil _ _ _ _), HB3, Lib.hid (fun h => by omega)⟩
    case round =>
      obtain ⟨j, hj, rfl, ys, A, C, rfl, hys, ho, hB, hok⟩ := hrel
      have : j = 0 ∨ j = 1 ∨ j = 2 ∨ j = 3 := by omega
      rcases this with rfl | rfl | rfl | rfl
      · obtain ⟨f1, f2, f3⟩ := FX.out
        have ix : ∀ w, (Instr.index 77 (.agg #[.int .i64 c1, .int .i64 c2, .int .i64 c3, .int .i64 c4, .int .i64 c5, .int .i64 c6, .int .i64 c7, .int .i64 c8, .int .i64 c9]) (.int .i64 0)).run Tryd.prog w = .ok (.agg #[.int .i64 c1, .int .i64 c2, .int .i64 c3]) w := fun _ => by kernel_rfl
        have hx : ∀ w, (Instr.index 9 (.string ⟨#[x, y, z]⟩) (.int .i64 0)).run Tryd.prog w = .ok (.int .u8 X) w := fun w => run_index_lit [x, y, z] 0 X (by simp) HX.out w
        go_wp2
        go_roundw
        case rel => exact ⟨1, by omega, rfl, ys, A, C, rfl, Lib.hid (by rw [hys.out]; rfl), Lib.hid (ho.out.alloc _), Lib.hid (hB.out.alloc hB.out.size _), Lib.hid (fun h => by omega)⟩
        case measure => simp [intOf]
      · have ix : ∀ w, (Instr.index 77 (.agg #[.int .i64 c1, .int .i64 c2, .int .i64 c3, .int .i64 c4, .int .i64 c5, .int .i64 c6, .int .i64 c7, .int .i64 c8, .int .i64 c9]) (.int .i64 1)).run Tryd.prog w = .ok (.agg #[.int .i64 c4, .int .i64 c5, .int .i64 c6]) w := fun _ => by kernel_rfl
        have hx : ∀ w, (Instr.index 9 (.string ⟨#[x, y, z]⟩) (.int .i64 1)).run Tryd.prog w = .ok (.int .u8 Y) w := fun w => run_index_lit [x, y, z] 1 Y (by simp) HY.out w
        by_cases e1 : Y = 115
        · subst e1
          obtain ⟨ka, rfl⟩ : ∃ ka : Nat, c5 = (ka : Int) := ⟨c5.toNat, by have := HA.out (.inl rfl); omega⟩
          have a0 : (0 : Int) ≤ (ka : Int) := by omega
          have hBa := hB.out.alloc hB.out.size (.cells #[.int .i64 c4, .int .i64 (ka : Int), .int .i64 c6] 38)
          obtain ⟨x0, x1, x2, x3, x4, x5, x6, x7, x8, x9, x10⟩ := HBX.out.next (HB12.out.step2 hBa)
          by_cases hka : ka < m.ns
          · obtain ⟨b7, o7, ha7, hb7, B, D, k7', hp⟩ := HM.out.cases ka hka
            have k7 := ((HBW.out _ hBa).cell (p := ⟨b7, _, none⟩) hb7).trans k7'
            have HP := Lib.hid (hp.below (HBW.out _ (Below.refl _ w2)))
            have hn12 : m.sn ka ≤ 12 := HF.out.sn ka hka
            have a1 : (ka : Int) < (m.ns : Int) := by omega
            have a2 : ¬ (m.ns : Int) ≤ (ka : Int) := by omega
            have HT : Hid (T = (List.range (m.sn ka)).map (m.sp ka)) := Lib.hid (by have := HTab.out; simpa [tabI] using this)
            clear k7' hp hBa
            generalize m.sn ka = n at *
            generalize m.sp ka = pc at *
            rw [ha7] at x7
            clear ha7 hb7
            obtain rfl : ys = L0 := hys.out
            go_wp2
            go_loopw [8, 83] (fun l i w5 => ∃ j : Nat, j ≤ n ∧ i = .int .i64 j ∧ ∃ zs A C, l = .slice A zs.length C ∧ Hid (zs = ys ++ (List.range j).map pc) ∧ Hid (w5.ownsRow w2.heap.size 3 1 (.slice A zs.length C) zs.length (ints zs)) ∧ Hid (Below w2.heap.size w2 w5)) (fun _ i _ => n - (intOf i).toNat)
            case atStart => exact ⟨0, by omega, rfl, ys, A, C, rfl, Lib.hid (by simp), Lib.hid (ho.out.alloc _), Lib.hid (hB.out.alloc hB.out.size _)⟩
            case round =>
              obtain ⟨j, hj, rfl, zs, A2, C2, rfl, hzs, ho2, hB2⟩ := hrel
              by_cases hj2 : j < n
              · obtain ⟨b2, o2, rfl, hb2, l, u, p0', p1', p2'⟩ := HP.out j hj2
                have p0 := (hB2.out.cell (p := ⟨b2, _, none⟩) hb2).trans p0'
                have p1 := (hB2.out.cell (p := ⟨b2, _, none⟩) hb2).trans p1'
                have p2 := (hB2.out.cell (p := ⟨b2, _, none⟩) hb2).trans p2'
                clear p0' p1' p2'
                have HSN := Lib.hid (map_snoc pc j)
                generalize pc j = v at *
                have j0 : (0 : Int) ≤ (j : Int) := by omega
                have j1 : (j : Int) < (n : Int) := by omega
                have HYL : Hid (zs.length ≤ 1000) := Lib.hid (by rw [hzs.out]; have := HL0.out; simp; omega)
                go_wp2_with (at_builtin; refine app_int rfl _ _ rfl w2.heap.size _ _ zs v rfl (ho2.out.alloc _) rfl (by simp) (by have := HYL.out; omega) (by have := hB2.out.size; simp; omega) ?_; intro A3 C3 us w6 hu ho3 hb3; have HU := Lib.hid hu; have HO3 := Lib.hid ho3; have HB3 := Lib.hid ((hB2.out.alloc hB2.out.size _).trans hb3); clear hu ho3 hb3)
                go_wp2
                go_roundw
                case rel => exact ⟨j + 1, by omega, by go_num, us, A3, C3, rfl, Lib.hid (by rw [HU.out, hzs.out, HSN.out, List.append_assoc]), HO3, HB3⟩
                case measure => simp [intOf]; omega
              · obtain rfl : j = n := by omega
                go_wp2
                go_roundw
                case rel => exact ⟨2, by omega, rfl, zs, A2, C2, rfl, Lib.hid (by rw [hzs.out, HT.out]; rfl), ho2, hB2, Lib.hid (fun _ => ⟨fun h => by have := h.2; omega, fun h => by have := h.1; omega⟩)⟩
                case measure => simp [intOf]
          · have a1 : (m.ns : Int) ≤ (ka : Int) := by omega
            obtain ⟨rfl, rfl⟩ := H4s.out rfl a1
            go_wp2
            go_ret2
            exact ⟨none, 0, rfl, fun j hj => absurd hj (Nat.not_lt_zero _), HBW.out _ (hB.out.alloc hB.out.size _)⟩
        · by_cases e2 : Y = 116
          · subst e2
            obtain ⟨ka, rfl⟩ : ∃ ka : Nat, c5 = (ka : Int) := ⟨c5.toNat, by have := HA.out (.inr rfl); omega⟩
            have a0 : (0 : Int) ≤ (ka : Int) := by omega
            have hBa := hB.out.alloc hB.out.size (.cells #[.int .i64 c4, .int .i64 (ka : Int), .int .i64 c6] 38)
            obtain ⟨x0, x1, x2, x3, x4, x5, x6, x7, x8, x9, x10⟩ := HBX.out.next (HB12.out.step2 hBa)
            by_cases hka : ka < m.nt
            · obtain ⟨b7, o7, ha7, hb7, B, D, k7', hp⟩ := HM.out.casesC ka hka
              have k7 := ((HBW.out _ hBa).cell (p := ⟨b7, _, none⟩) hb7).trans k7'
              have HP := Lib.hid (hp.below (HBW.out _ (Below.refl _ w2)))
              have hn12 : m.tn ka ≤ 12 := HF.out.tn ka hka
              have a1 : (ka : Int) < (m.nt : Int) := by omega
              have a2 : ¬ (m.nt : Int) ≤ (ka : Int) := by omega
              have HT : Hid (T = (List.range (m.tn ka)).map (m.tp ka)) := Lib.hid (by have := HTab.out; simpa [tabI] using this)
              clear k7' hp hBa
              generalize m.tn ka = n at *
              generalize m.tp ka = pc at *
              rw [ha7] at x8
              clear ha7 hb7
              obtain rfl : ys = L0 := hys.out
              go_wp2
              go_loopw [8, 108] (fun l i w5 => ∃ j : Nat, j ≤ n ∧ i = .int .i64 j ∧ ∃ zs A C, l = .slice A zs.length C ∧ Hid (zs = ys ++ (List.range j).map pc) ∧ Hid (w5.ownsRow w2.heap.size 3 1 (.slice A zs.length C) zs.length (ints zs)) ∧ Hid (Below w2.heap.size w2 w5)) (fun _ i _ => n - (intOf i).toNat)
              case atStart => exact ⟨0, by omega, rfl, ys, A, C, rfl, Lib.hid (by simp), Lib.hid (ho.out.alloc _), Lib.hid (hB.out.alloc hB.out.size _)⟩
              case round =>
                obtain ⟨j, hj, rfl, zs, A2, C2, rfl, hzs, ho2, hB2⟩ := hrel
                by_cases hj2 : j < n
                · obtain ⟨b2, o2, rfl, hb2, l, u, p0', p1', p2'⟩ := HP.out j hj2
                  have p0 := (hB2.out.cell (p := ⟨b2, _, none⟩) hb2).trans p0'
                  have p1 := (hB2.out.cell (p := ⟨b2, _, none⟩) hb2).trans p1'
                  have p2 := (hB2.out.cell (p := ⟨b2, _, none⟩) hb2).trans p2'
                  clear p0' p1' p2'
                  have HSN := Lib.hid (map_snoc pc j)
                  generalize pc j = v at *
                  have j0 : (0 : Int) ≤ (j : Int) := by omega
                  have j1 : (j : Int) < (n : Int) := by omega
                  have HYL : Hid (zs.length ≤ 1000) := Lib.hid (by rw [hzs.out]; have := HL0.out; simp; omega)
                  go_wp2_with (at_builtin; refine app_int rfl _ _ rfl w2.heap.size _ _ zs v rfl (ho2.out.alloc _) rfl (by simp) (by have := HYL.out; omega) (by have := hB2.out.size; simp; omega) ?_; intro A3 C3 us w6 hu ho3 hb3; have HU := Lib.hid hu; have HO3 := Lib.hid ho3; have HB3 := Lib.hid ((hB2.out.alloc hB2.out.size _).trans hb3); clear hu ho3 hb3)
                  go_wp2
                  go_roundw
                  case rel => exact ⟨j + 1, by omega, by go_num, us, A3, C3, rfl, Lib.hid (by rw [HU.out, hzs.out, HSN.out, List.append_assoc]), HO3, HB3⟩
                  case measure => simp [intOf]; omega
                · obtain rfl : j = n := by omega
                  go_wp2
                  go_roundw
                  case rel => exact ⟨2, by omega, rfl, zs, A2, C2, rfl, Lib.hid (by rw [hzs.out, HT.out]; rfl), ho2, hB2, Lib.hid (fun _ => ⟨fun h => by have := h.1; omega, fun h => by have := h.2; omega⟩)⟩
                  case measure => simp [intOf]
            · have a1 : (m.nt : Int) ≤ (ka : Int) := by omega
              obtain ⟨rfl, rfl⟩ := H4t.out rfl a1
              go_wp2
              go_ret2
              exact ⟨none, 0, rfl, fun j hj => absurd hj (Nat.not_lt_zero _), HBW.out _ (hB.out.alloc hB.out.size _)⟩
          · have f1 := FY.out
            have f2 : (Y == 115) = false := by simpa using e1
            have f3 : (Y == 116) = false := by simpa using e2
            have hT0 : Hid (T = []) := Lib.hid (by have := HTab.out; simpa [tabI, e1, e2] using this)
            go_wp2
            go_roundw
            case rel => exact ⟨2, by omega, rfl, ys, A, C, rfl, Lib.hid (by rw [hys.out]; rw [show pt L0 T J 2 = pt L0 T J 1 ++ T from rfl, hT0.out, List.append_nil]), Lib.hid (ho.out.alloc _), Lib.hid (hB.out.alloc hB.out.size _), Lib.hid (fun _ => ⟨fun h => e1 h.1, fun h => e2 h.1⟩)⟩
            case measure => simp [intOf]
      · have ix : ∀ w, (Instr.index 77 (.agg #[.int .i64 c1, .int .i64 c2, .int .i64 c3, .int .i64 c4, .int .i64 c5, .int .i64 c6, .int .i64 c7, .int .i64 c8, .int .i64 c9]) (.int .i64 2)).run Tryd.prog w = .ok (.agg #[.int .i64 c7, .int .i64 c8, .int .i64 c9]) w := fun _ => by kernel_rfl
        have hx : ∀ w, (Instr.index 9 (.string ⟨#[x, y, z]⟩) (.int .i64 2)).run Tryd.prog w = .ok (.int .u8 Z) w := fun w => run_index_lit [x, y, z] 2 Z (by simp) HZ.out w
        obtain ⟨f2, f3⟩ := FZ.out
        by_cases e1 : Z = 106
        · have hJ : Hid (J = [c8]) := Lib.hid (by have := HJ.out; simpa [e1] using this)
          subst e1
          have HYL : Hid (ys.length ≤ 1000) := Lib.hid (by rw [hys.out]; have h1 := HL0.out; have h2 := HTL.out; have h3 := hok.out (by omega); simp only [okT] at h3; simp [pt]; omega)
          go_wp2_with (at_builtin; refine app_int rfl _ _ rfl w2.heap.size _ _ ys c8 rfl (ho.out.alloc _) rfl (by simp) (by have := HYL.out; omega) (by have := hB.out.size; simp; omega) ?_; intro A3 C3 us w6 hu ho3 hb3; have HU := Lib.hid hu; have HO3 := Lib.hid ho3; have HB3 := Lib.hid ((hB.out.alloc hB.out.size _).trans hb3); clear hu ho3 hb3)
          go_wp2
          go_roundw
          case rel => exact ⟨3, by omega, rfl, us, A3, C3, rfl, Lib.hid (by rw [HU.out, hys.out, show pt L0 T J 3 = pt L0 T J 2 ++ J from rfl, hJ.out]), HO3, HB3, Lib.hid (fun _ => hok.out (by omega))⟩
          case measure => simp [intOf]
        · have f1 : (Z == 106) = false := by simpa using e1
          have hJ : Hid (J = []) := Lib.hid (by have := HJ.out; simpa [e1] using this)
          go_wp2
          go_roundw
          case rel => exact ⟨3, by omega, rfl, ys, A, C, rfl, Lib.hid (by rw [hys.out]; rw [show pt L0 T J 3 = pt L0 T J 2 ++ J from rfl, hJ.out, List.append_nil]), Lib.hid (ho.out.alloc _), Lib.hid (hB.out.alloc hB.out.size _), Lib.hid (fun _ => hok.out (by omega))⟩
          case measure => simp [intOf]
      · have h3 := hok.out (by omega)
        obtain ⟨e1, e2⟩ := H0.out h3.1 h3.2
        have hJl : J.length ≤ 1 := by rw [HJ.out]; split <;> simp
        have hyl : Hid (ys.length ≤ 1000) := Lib.hid (by rw [hys.out]; have h1 := HL0.out; have h2 := HTL.out; simp only [okT] at h3; simp [pt]; omega)
        have HLs : Hid (L = setI ys) := Lib.hid (by rw [e1, hys.out]; show _ = setI ((L0 ++ T) ++ J); rw [HLE.out]; rfl)
        subst e2
        clear e1 h3 hJl
        go_wp2_with (go_at_call 45; refine (set_calls _ _ _ w2.heap.size _ ho.out (by have := hyl.out; omega) hB.out.size).mono ?_; rintro e w3 ⟨A1, C1, rfl, hr, hb⟩; have HR := Lib.hid hr; have HB3 := Lib.hid (hB.out.trans hb); clear hr hb)
        go_ret2
        rw [HLs.out]
        exact ⟨A1, C1, rfl, HR.out, HBW.out _ HB3.out⟩
end Go.Proofs.YtadkbcdopcehhaaDoor
