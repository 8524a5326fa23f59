/- Copy. -/
import Derived.Test.YtodfpclekihbhaaG10
namespace Go.Proofs.Ytodfpclekihbhaa
open Go.RowKit Go.Shelf
set_option maxRecDepth 8000

variable {w : World} {hb : Nat} {A : HA} {H : Hp} {S : Nat → Prop}
theorem refer_st (h : HpAt w hb A H S) {st : List Int} (hi : Inv H st) (hmu : muH H + st.length ≤ 100000000) {r : Int} (hr : r = 0 ∨ Mp.get H.objs r ≠ none) : Calls Try.prog 61 #[.pointer (some ⟨hb, 0, none⟩), .int .i64 r] w fun e w' => e = .returned (.tuple #[]) ∧ HpAt w' hb A (referH H r) S ∧ Mut S w w' := by
  unfold referH
  by_cases h0 : r = 0
  · subst h0
    rw [if_pos rfl]
    exact (refer_zero h).mono fun e w' ⟨h1, h2⟩ => ⟨h1, h2 ▸ h, h2 ▸ Mut.refl _ _⟩
  · rw [if_neg h0]
    cases ho : Mp.get H.objs r with
    | none => exact absurd ho (hr.resolve_left h0)
    | some o =>
      have h1 := hi.cnt r o ho
      have h2 := inH_le H r
      have h3 : st.count r ≤ st.length := List.count_le_length
      have e0 : muH H = wsum H.rows + 2 * H.objs.length := rfl
      exact (refer_some h h0 ho (by omega) (by omega)).mono fun e w' ⟨h3, h4, h5⟩ => ⟨h3, h4, h5.mono fun k hk => .inl (by rw [hk]; exact h.So r o ho)⟩
theorem run_slice_lh' (w : World) (a : Option Addr) (len cap l h : Nat) (h1 : l ≤ h) (h2 : h ≤ cap) : (Instr.slice 97 (.slice a len cap) (some (.int .i64 (l : Int))) (some (.int .i64 (h : Int))) none).run Try.prog w = .ok (.slice (if cap = l then a else a.map (·.add (l * 2))) (h - l) (cap - l)) w := by
  rw [run_slice_lh w 97 a len cap Try.underlying97 .i64 .i64 (l : Int) (h : Int) (by omega) (by omega) (by omega)]
  simp [go_sem, sliced]
theorem run_slice_l' (w : World) (a : Option Addr) (len cap l : Nat) (h1 : l ≤ len) : (Instr.slice 97 (.slice a len cap) (some (.int .i64 (l : Int))) none none).run Try.prog w = .ok (.slice (if cap = l then a else a.map (·.add (l * 2))) (len - l) (cap - l)) w := by
  rw [run_slice_l w 97 a len cap Try.underlying97 .i64 (l : Int) (by omega) (by omega)]
  simp [go_sem, sliced]
theorem run_slice_h' (w : World) (a : Option Addr) (len cap h : Nat) (h1 : h ≤ cap) : (Instr.slice 97 (.slice a len cap) none (some (.int .i64 (h : Int))) none).run Try.prog w = .ok (.slice (if cap = 0 then a else a.map (·.add (0 * 2))) h cap) w := by
  rw [run_slice_h w 97 a len cap Try.underlying97 .i64 (h : Int) (by omega) (by omega)]
  simp [go_sem, sliced]
theorem add_off (g i j : Nat) : (⟨g, i, none⟩ : Addr).add j = ⟨g, i + j, none⟩ := by simp [Addr.add]
theorem wcs_drop (l : List Wd) (F : Nat) : wcs (l.drop F) = (wcs l).drop (F * 2) := by
  induction F generalizing l with
  | zero => simp
  | succ F ih =>
    cases l with
    | nil => simp [wcs]
    | cons x l => rw [List.drop_succ_cons, ih, show (F + 1) * 2 = F * 2 + 1 + 1 from by omega]; rfl
theorem wcs_take (l : List Wd) (m : Nat) : wcs (l.take m) = (wcs l).take (m * 2) := by
  induction m generalizing l with
  | zero => simp [wcs]
  | succ m ih =>
    cases l with
    | nil => simp [wcs]
    | cons x l => rw [List.take_succ_cons, show (m + 1) * 2 = m * 2 + 1 + 1 from by omega]; show _ :: _ :: wcs (l.take m) = _; rw [ih]; rfl
theorem WordsAt.cap {C : Nat} {w : World} {a : Option Addr} {l : List Wd} (h : WordsAt w a C l) : l.length ≤ C := by
  rcases h.2 with ⟨h1, h2⟩ | ⟨g, cap, cur, h1, h2, h3, h4, _⟩
  · omega
  · injection h1 with e1 e2 e3
    omega
/-- Words of a part of a row. -/
theorem WordsAt.sub {w : World} {a : Option Addr} {C : Nat} {l : List Wd} (h : WordsAt w a C l) (F m : Nat) (hl : F + m ≤ l.length) {b : Addr} (hb : (if C = F then a else a.map (·.add (F * 2))) = some b) (j : Nat) (u : Value) (hu : (wcs ((l.drop F).take m))[j]? = some u) : w.cell? (b.add j) = some u := by
  have hj : j < m * 2 := by
    have := (List.getElem?_eq_some_iff.1 hu).1
    rw [len_wcs] at this
    simp at this
    omega
  rw [wcs_take, wcs_drop, List.getElem?_take_of_lt hj, List.getElem?_drop] at hu
  have hc := h.cap
  rw [if_neg (by omega)] at hb
  rcases h.2 with ⟨h1, h2⟩ | ⟨g, cap, cur, h1, h2, h3, h4, h5, h6, h7⟩
  · omega
  · injection h1 with e1 e2 e3
    rw [e1] at hb
    injection hb with hb
    subst hb
    rw [← h7, List.getElem?_take_of_lt (by omega)] at hu
    show w.cell? (((⟨g, 0, Option.none⟩ : Addr).add (F * 2)).add j) = _
    rw [add_off, add_off]
    unfold World.cell?
    rw [h3, Nat.zero_add]
    simpa using hu
theorem oneCell_wcs (l : List Wd) : ∀ u ∈ wcs l, u.oneCell' = true := by
  induction l with
  | nil => intro u hu; cases hu
  | cons x l ih =>
    intro u hu
    rcases List.mem_cons.1 hu with rfl | hu
    · rfl
    · rcases List.mem_cons.1 hu with rfl | hu
      · rfl
      · exact ih u hu
theorem clone_words {a : Option Addr} {C : Nat} {l : List Wd} (h : WordsAt w a C l) (F m : Nat) (hl : F + m ≤ l.length) (hm : m ≤ 100000000) :
    Calls Try.prog 60 #[.slice (if C = F then a else a.map (·.add (F * 2))) m (C - F)] w fun e w' => ∃ A' C', e = .returned (.slice A' m C') ∧ w'.ownsRow w.heap.size 42 2 (.slice A' m C') m (wcs ((l.drop F).take m)) ∧ Below w.heap.size w w' :=
  (cloneWord _ m (C - F) (wcs ((l.drop F).take m)) w (by rw [len_wcs]; simp; omega) (fun b hb j u hu => h.sub F m hl hb j u hu) (oneCell_wcs _) (fun e => by
    have hc := h.cap
    by_cases hC : C = F
    · exact ⟨by omega, by omega⟩
    · rw [if_neg hC] at e
      rcases h.2 with ⟨h1, h2⟩ | ⟨g, cap, cur, h1, _⟩
      · injection h1 with e1 e2 e3
        exact ⟨by omega, by omega⟩
      · injection h1 with e1
        rw [e1] at e
        cases e) hm).mono fun _ _ ⟨A', C', h1, h2, h3, _⟩ => ⟨A', C', h1, h2, h3⟩
theorem rowcell {W : World} {G : Hp} (h : HpAt W hb A G S) {k : Int} {y : Rw} (hy : Mp.get G.rows k = some y) {g : Nat} (hA : A.wA k = some ⟨g, 0, none⟩) (I0 j : Nat) (hl : I0 + j < y.words.length) :
    g < W.heap.size ∧ (∀ i, W.frozen? ⟨g, i, none⟩ = false) ∧ W.cell? ⟨g, I0 * 2 + j * 2 + 1, none⟩ = some (.int .i64 (refAt G k (I0 + j))) ∧ ∃ n, W.cell? ⟨g, I0 * 2 + j * 2, none⟩ = some (.int .i64 n) := by
  obtain ⟨g', hg1, hg2, _, hgf, hw0, hw1⟩ := (h.row k y hy).cell (I0 + j) hl
  rw [hA] at hg1
  injection hg1 with hg1
  injection hg1 with hg1
  subst hg1
  rw [show (I0 + j) * 2 = I0 * 2 + j * 2 from Nat.add_mul _ _ _] at hw0 hw1
  exact ⟨hg2, hgf, by rw [refAt_eq hy _ hl]; exact hw1, _, hw0⟩
set_option maxHeartbeats 4000000 in
theorem copy_ok (h : HpAt w hb A H S) {r x : Int} {o p : Ob} (ho : Mp.get H.objs r = some o) (hx : Mp.get H.objs x = some p) (hk : o.kind = 2) (hk2 : p.kind = 2) (hl : o.refs.length ≤ 100000000) (heq : o.refs = p.refs) (l1 : o.lo ≤ o.hi) (l2 : o.hi ≤ 100000) (m1 : p.lo ≤ p.hi) (m2 : p.hi ≤ 100000) {y z : Rw} (hy : Mp.get H.rows o.row = some y) (hz : Mp.get H.rows p.row = some z) (hyA : y.isA = true) (hzA : z.isA = true) (hn : o.refs.length ≤ 256) (hyl : o.hi * o.refs.length ≤ y.words.length) (hzl : p.hi * o.refs.length ≤ z.words.length)
    (hi : Inv H []) (hmu : muH H ≤ 40000000) (hbd : HoldsLe H 1000000000) (k : Nat) (hf : k + (p.hi - p.lo) ≤ o.hi - o.lo) {l : List Wd} (hll : l = (z.words.drop (p.lo * o.refs.length)).take ((p.hi - p.lo) * o.refs.length)) :
    Calls Try.prog 15 #[.pointer (some ⟨hb, 0, none⟩), .int .i64 r, .int .i64 (k : Int), .int .i64 x] w (ChPost w hb A S (relH (copyW H o.row ((o.lo + k) * o.refs.length) l).1 (copyW H o.row ((o.lo + k) * o.refs.length) l).2.reverse, 0)) := by
  have HF := Lib.hid (find_some h ho)
  have HV := Lib.hid (find_some h hx)
  have HH := Lib.hid h
  obtain ⟨d0, d1, d2, _⟩ := h.ocells ho
  obtain ⟨e0, e1, e2, _⟩ := h.ocells hx
  rw [hk] at d0
  rw [hk2] at e0
  have HO := Lib.hid ho
  have HX := Lib.hid hx
  have HL := Lib.hid hl
  have HE : Hid (decide (o.refs = p.refs) = true) := Lib.hid (decide_eq_true heq)
  have HQ := Lib.hid heq
  have HK := Lib.hid hk
  have HK2 := Lib.hid hk2
  have HB0 : Hid (Below w.heap.size w w) := Lib.hid (Below.refl _ _)
  obtain ⟨D, hD⟩ : ∃ D : Nat, D = o.hi - o.lo := ⟨_, rfl⟩
  obtain ⟨M, hM⟩ : ∃ M : Nat, M = p.hi - p.lo := ⟨_, rfl⟩
  obtain ⟨V, hV⟩ : ∃ V : Int, V = (D : Int) - (M : Int) := ⟨_, rfl⟩
  have s1 : IntKind.i64.wrap ((o.hi : Int) - (o.lo : Int)) = (D : Int) := by rw [IntWalk.i64_in _ (by omega)]; omega
  have s2 : IntKind.i64.wrap ((p.hi : Int) - (p.lo : Int)) = (M : Int) := by rw [IntWalk.i64_in _ (by omega)]; omega
  have s3 : IntKind.i64.wrap ((D : Int) - (M : Int)) = V := by rw [IntWalk.i64_in _ (by omega)]; omega
  have g1 : decide ((k : Int) < 0) = false := by simp
  have g2 : decide (V < (k : Int)) = false := by simp; omega
  obtain ⟨n, hnn⟩ : ∃ n : Nat, n = o.refs.length := ⟨_, rfl⟩
  have HNN := Lib.hid hnn
  rw [← hnn] at hn hyl hzl hll ⊢
  have q1 : p.lo * n ≤ p.hi * n := Nat.mul_le_mul_right n m1
  have q2 : (p.hi - p.lo) * n = p.hi * n - p.lo * n := Nat.sub_mul _ _ _
  have q3 : (o.lo + k) * n + (p.hi - p.lo) * n ≤ o.hi * n := by rw [← Nat.add_mul]; exact Nat.mul_le_mul_right n (by omega)
  have q4 : p.hi * n ≤ 100000 * 256 := Nat.mul_le_mul m2 hn
  have q5 : o.hi * n ≤ 100000 * 256 := Nat.mul_le_mul l2 hn
  have q6 : (o.lo + k) * n ≤ o.hi * n := Nat.mul_le_mul_right n (by omega)
  have s5 : IntKind.i64.wrap ((p.lo : Int) * (n : Int)) = ((p.lo * n : Nat) : Int) := by rw [IntWalk.i64_in _ (by rw [← Int.natCast_mul]; omega)]; exact (Int.natCast_mul _ _).symm
  have s6 : IntKind.i64.wrap ((p.hi : Int) * (n : Int)) = ((p.hi * n : Nat) : Int) := by rw [IntWalk.i64_in _ (by rw [← Int.natCast_mul]; omega)]; exact (Int.natCast_mul _ _).symm
  have s7 : IntKind.i64.wrap ((o.lo : Int) + (k : Int)) = ((o.lo + k : Nat) : Int) := by rw [IntWalk.i64_in _ (by omega)]; exact (Int.natCast_add _ _).symm
  have s8 : IntKind.i64.wrap (((o.lo + k : Nat) : Int) * (n : Int)) = (((o.lo + k) * n : Nat) : Int) := by rw [IntWalk.i64_in _ (by rw [← Int.natCast_mul]; omega)]; exact (Int.natCast_mul _ _).symm
  have hlen : l.length = (p.hi - p.lo) * n := by rw [hll]; simp; omega
  generalize (o.lo + k) * n = I0 at *
  generalize o.lo + k = K at *
  have hlF : p.lo * n + l.length ≤ z.words.length := by omega
  have hT : p.hi * n - p.lo * n = l.length := by omega
  have hTl : p.hi * n = p.lo * n + l.length := by omega
  generalize p.lo * n = F at *
  generalize p.hi * n = T at *
  rw [← hlen] at hll
  have HLL := Lib.hid hll
  have hrz := h.row _ _ hz
  have hry := h.row _ _ hy
  have c1 := hrz.cap
  have c2 := hry.cap
  have hs1 : ∀ w, (Instr.slice 97 (.slice (A.wA p.row) z.words.length (A.wC p.row)) (some (.int .i64 (F : Int))) (some (.int .i64 (T : Int))) none).run Try.prog w = .ok (.slice (if A.wC p.row = F then A.wA p.row else (A.wA p.row).map (·.add (F * 2))) l.length (A.wC p.row - F)) w := fun w => by rw [run_slice_lh' w _ _ _ _ _ (by omega) (by omega), hT]
  have HCL : Hid (∀ W, Below w.heap.size w W → Calls Try.prog 60 #[.slice (if A.wC p.row = F then A.wA p.row else (A.wA p.row).map (·.add (F * 2))) l.length (A.wC p.row - F)] W fun e w' => ∃ A' C', e = .returned (.slice A' l.length C') ∧ w'.ownsRow W.heap.size 42 2 (.slice A' l.length C') l.length (wcs l) ∧ Below W.heap.size W w') := Lib.hid fun W hW => by
    have := clone_words ((h.below hW).row _ _ hz) F l.length hlF (by omega)
    rw [← hll] at this
    exact this
  generalize (if A.wC p.row = F then A.wA p.row else (A.wA p.row).map (·.add (F * 2))) = SA at *
  generalize A.wC p.row - F = SC at *
  have hs2 : ∀ w, (Instr.slice 97 (.slice (A.wA o.row) y.words.length (A.wC o.row)) (some (.int .i64 (I0 : Int))) none none).run Try.prog w = .ok (.slice (if A.wC o.row = I0 then A.wA o.row else (A.wA o.row).map (·.add (I0 * 2))) (y.words.length - I0) (A.wC o.row - I0)) w := fun w => run_slice_l' w _ _ _ _ (by omega)
  have hTA1 : ∀ g, A.wA o.row = some ⟨g, 0, none⟩ → 0 < l.length → (if A.wC o.row = I0 then A.wA o.row else (A.wA o.row).map (·.add (I0 * 2))) = some ⟨g, I0 * 2, none⟩ := fun g hg h0 => by
    rw [if_neg (by omega), hg, Option.map_some, add_off, Nat.zero_add]
  have c3 : l.length ≤ A.wC o.row - I0 := by omega
  generalize (if A.wC o.row = I0 then A.wA o.row else (A.wA o.row).map (·.add (I0 * 2))) = TA1 at *
  generalize A.wC o.row - I0 = TC at *
  generalize y.words.length - I0 = TL at *
  have hs3 : ∀ w, (Instr.slice 97 (.slice TA1 TL TC) none (some (.int .i64 (l.length : Int))) none).run Try.prog w = .ok (.slice (if TC = 0 then TA1 else TA1.map (·.add (0 * 2))) l.length TC) w := fun w => run_slice_h' w _ _ _ _ c3
  have hTA : ∀ g, A.wA o.row = some ⟨g, 0, none⟩ → 0 < l.length → (if TC = 0 then TA1 else TA1.map (·.add (0 * 2))) = some ⟨g, I0 * 2, none⟩ := fun g hg h0 => by
    rw [if_neg (by omega), hTA1 g hg h0, Option.map_some, add_off, Nat.zero_mul, Nat.add_zero]
  generalize (if TC = 0 then TA1 else TA1.map (·.add (0 * 2))) = TA at *
  have HTA := Lib.hid hTA
  have HYA := Lib.hid hyA
  have HZA := Lib.hid hzA
  have HZ := Lib.hid hz
  have hmem : ∀ v ∈ l, v.ref = 0 ∨ Mp.get H.objs v.ref ≠ none := fun v hv => by
    by_cases h0 : v.ref = 0
    · exact .inl h0
    · refine hi.inH_in (occ_row hz (x := v.ref) ?_)
      have hv2 : v ∈ z.words := by rw [hll] at hv; exact List.mem_of_mem_drop (List.mem_of_mem_take hv)
      unfold refsOf
      exact List.mem_filter.2 ⟨List.mem_map.2 ⟨v, hv2, rfl⟩, by simpa using h0⟩
  have HC0 := Lib.hid (CpI.start I0 hi hbd hy hmem)
  have HLE : Hid (I0 + l.length ≤ y.words.length) := Lib.hid (by omega)
  have HLB : Hid (l.length ≤ 40000000) := Lib.hid (by omega)
  have HMU := Lib.hid hmu
  have HSL := Lib.hid h.Slt
  have HY := Lib.hid hy
  generalize copyW H o.row I0 l = R at *
  clear h ho hx hk hk2 hl heq d1 e1 hf l1 l2 m1 m2 hD hM hV hy hz hyA hzA hn hyl hzl hi hmu hbd hll q1 q2 q3 q4 q5 q6 hlen hlF hT hTl hrz hry c1 c2 c3 hTA1 hTA hnn hmem
  have t1 : True := trivial
  go_enter Try.func15, Try.ntmps15
  go_wp2_with (first
    | (go_at_call 57; have _t := t1; refine HF.out.mono ?_; rintro e w1 ⟨rfl, rfl⟩; clear t1 _t)
    | (go_at_call 57; refine HV.out.mono ?_; rintro e w1 ⟨rfl, rfl⟩))
  go_region_held3 (fun w' => w'.cell? ⟨A.ob r, 2, none⟩ = some (.slice (A.sA r) o.refs.length (A.sC r)) ∧ w'.cell? ⟨A.ob x, 2, none⟩ = some (.slice (A.sA x) p.refs.length (A.sC x)) ∧ Hid (Below w.heap.size w w'))
    (((try go_split_ands); (repeat' apply And.intro) <;> first | exact keep3 hbq (by assumption) | assumption | exact Lib.hid (Below.trans (Hid.out (by assumption)) (Below.mono hbq (Below.size (Hid.out (by assumption))))) | exact Lib.hid (Below.drew (Hid.out (by assumption))) | go_keep))
    ((go_at_call 58; (try go_split_ands); refine (equal_bools (A.sC r) (A.sC x) ((HH.out.below (Hid.out (by assumption))).shp r o HO.out) ((HH.out.below (Hid.out (by assumption))).shp x p HX.out) HL.out (by rw [← HQ.out]; exact HL.out)).mono ?_; rintro e w2 ⟨rfl, hbq⟩; rw [HE.out]))
  have HB2 : Hid (Below w.heap.size w w2) := by (try go_split_ands); assumption
  (try go_split_ands)
  obtain ⟨_, _, _, _, _, _, _, d7, d8, d9, _⟩ := (HH.out.below HB2.out).ocells HO.out
  obtain ⟨_, _, _, _, _, _, _, e7, e8, e9, _⟩ := (HH.out.below HB2.out).ocells HX.out
  rw [show A.pF o = .pointer (some ⟨A.st o.row, 0, none⟩) from by unfold HA.pF; rw [if_pos HK.out]] at d7
  rw [show A.pF p = .pointer (some ⟨A.st p.row, 0, none⟩) from by unfold HA.pF; rw [if_pos HK2.out]] at e7
  go_wp2
  go_quiet (fail)
  go_wp2_with (go_at_call 59; refine (width_calls (HH.out.below (HB2.out.dn _)) HO.out).mono ?_; rintro e wq ⟨rfl, rfl⟩; rw [← HNN.out])
  have f1 := cell_of_heap (v := .slice (A.wA p.row) z.words.length (A.wC p.row)) ((HH.out.below HB2.out).sto _ _ HZ.out HZA.out) (j := 1) rfl
  have HB2d : Hid (Below w.heap.size w (w2.drewN nq)) := Lib.hid (HB2.out.dn _)
  go_region_held3 (fun w' => w'.cell? ⟨A.ob x, 7, none⟩ = some (.pointer (some ⟨A.st p.row, 0, none⟩)) ∧ w'.cell? ⟨A.ob x, 8, none⟩ = some (.int .i64 (p.lo : Int)) ∧ w'.cell? ⟨A.ob x, 9, none⟩ = some (.int .i64 (p.hi : Int)) ∧ w'.cell? ⟨A.st p.row, 1, none⟩ = some (.slice (A.wA p.row) z.words.length (A.wC p.row)) ∧ Hid (Below w.heap.size w w'))
    (((try go_split_ands); (repeat' apply And.intro) <;> first | exact keep3 hbr (by assumption) | assumption | exact Lib.hid (Below.trans (Hid.out (by assumption)) (Below.mono hbr (Below.size (Hid.out (by assumption))))) | exact Lib.hid (Below.drew (Hid.out (by assumption))) | go_keep))
    ((go_at_call 60; (try go_split_ands); have hbw : Hid (Below w.heap.size w _) := (by assumption); refine (HCL.out _ hbw.out).mono ?_; rintro e w3 ⟨CA, CC, rfl, hown, hbr⟩; have HOWN : Hid (w3.ownsRow w.heap.size 42 2 (.slice CA l.length CC) l.length (wcs l)) := Lib.hid (own_rebase hown fun a ha => Nat.le_trans hbw.out.size (own_blk hown a ha).1); clear hown))
  have HB3 : Hid (Below w.heap.size w w3) := by (try go_split_ands); assumption
  (try go_split_ands)
  clear hbw hbr
  obtain ⟨_, _, _, _, _, _, _, d7', d8', d9', _⟩ := (HH.out.below HB3.out).ocells HO.out
  rw [show A.pF o = .pointer (some ⟨A.st o.row, 0, none⟩) from by unfold HA.pF; rw [if_pos HK.out]] at d7'
  have f2 := cell_of_heap (v := .slice (A.wA o.row) y.words.length (A.wC o.row)) ((HH.out.below HB3.out).sto _ _ HY.out HYA.out) (j := 1) rfl
  go_wp2
  go_quiet (fail)
  go_wp2
  clear d0 d2 e0 e2 d7 d8 d9 e7 e8 e9 d7' d8' d9' f1 f2 g1 g2
  go_loopw [14, 126] (fun v q wr => ∃ (j : Nat) (LA : Option Addr) (LC : Nat) (G : Hp) (old : List Int), j ≤ l.length ∧ q = .int .i64 j ∧ v = .slice LA old.length LC ∧ Hid (CpI H o.row I0 l y.words.length R G old j) ∧ Hid (HpAt wr hb A G S ∧ Mut S w3 wr ∧ wr.ownsRow w3.heap.size 26 1 (.slice LA old.length LC) old.length (ints old))) (fun _ q _ => l.length - (intOf q).toNat)
  case atStart => exact ⟨0, none, 0, H, [], Nat.zero_le _, rfl, rfl, HC0, Lib.hid ⟨(HH.out.below HB3.out).below ((Below.refl _ _).dn _), Mut.of_below ((Below.refl _ _).dn _), World.ownsRow_nil _ _ _ _⟩⟩
  case round =>
    obtain ⟨j, LA, LC, G, old, hj, rfl, rfl, HC, HJ⟩ := hrel
    have HLS : Hid (w.heap.size ≤ w3.heap.size ∧ w3.heap.size ≤ wr.heap.size) := Lib.hid ⟨HB3.out.size, HJ.out.2.1.size⟩
    have HOLn : Hid (old.length ≤ 40000000) := Lib.hid (by have := HC.out.len; have := HLB.out; omega)
    by_cases hlt : j < l.length
    · have hnS : ∀ a, CA = some a → ¬ S a.block := fun a ha hS => by have := (own_blk HOWN.out a ha).1; have := HSL.out _ hS; omega
      have hW : WordsAt wr CA CC l := (own_mut2 HOWN.out HJ.out.2.1 hnS).mono (Nat.zero_le _)
      obtain ⟨gc, hCA, hgc, hCC, hfc, c0, c1⟩ := hW.cell j hlt
      obtain ⟨y', hy', hyl⟩ := HC.out.row
      have hpl : I0 + j < y'.words.length := by have := HLE.out; omega
      obtain ⟨g, hA, hg, z1, z2, z3, z4⟩ := (HJ.out.1.row _ _ hy').cell (I0 + j) hpl
      clear z1 z2 z3 z4
      have HTA1 := HTA.out g hA (by omega)
      have HSTEP := Lib.hid (HC.out.step hlt HLE.out)
      have hm0 := HC.out.mem _ (List.getElem_mem hlt)
      have q0 : (0 : Int) ≤ (j : Int) := by omega
      have q1 : (j : Int) < (l.length : Int) := by omega
      have q2 : l.length ≤ 40000000 := HLB.out
      rw [hCA, HTA1]
      generalize l[j]'hlt = v at *
      obtain ⟨num, ref⟩ := v
      have c0' : wr.cell? ⟨gc, j * 2, none⟩ = some (.int .i64 num) := c0
      have c1' : wr.cell? ⟨gc, j * 2 + 1, none⟩ = some (.int .i64 ref) := c1
      have HAA := Lib.hid hA
      have HY' := Lib.hid hy'
      have HPL := Lib.hid hpl
      have HBA : Hid (Below wr.heap.size wr (wr.alloc (.cells #[.int .i64 num, .int .i64 ref] 42))) := Lib.hid ((Below.refl _ _).alloc (Nat.le_refl _) _)
      have HREF := Lib.hid (refer_st (HJ.out.1.below HBA.out) HC.out.inv (by rw [HC.out.mu]; have := HMU.out; have := HOLn.out; simp; omega) hm0)
      have HK0 := Lib.hid (heap_alloc_new wr (.cells #[.int .i64 num, .int .i64 ref] 42))
      have HNS : Hid (¬ S wr.heap.size) := Lib.hid fun hk => by have := HSL.out _ hk; have := HLS.out; omega
      have HOLT : Hid (∀ a, LA = some a → w3.heap.size ≤ a.block ∧ a.block < wr.heap.size) := Lib.hid fun a ha => own_blk HJ.out.2.2 a ha
      obtain ⟨od, hod⟩ : ∃ od, od = refAt G o.row (I0 + j) := ⟨_, rfl⟩
      have HOD := Lib.hid hod
      rw [← hod] at HSTEP
      have t2 : True := trivial
      clear hnS hW hy' hyl hpl hA HTA1 hm0 c0 c1 hCA hod
      go_wp2_with (first
        | (go_at_call 61; refine HREF.out.mono ?_; rintro e w5 ⟨rfl, h5, m5⟩
           have H5 := Lib.hid h5
           have M5 := Lib.hid m5
           have b1 := mcell m5 (cell_of_heap (v := .int .i64 ref) HK0.out (j := 1) rfl) HNS.out
           clear h5 m5)
        | (go_at_call 62; have _t := t2; refine (see_S H5.out ref).mono ?_; rintro e w6 ⟨rfl, h6, m6⟩
           have H6 := Lib.hid h6
           have M6 := Lib.hid (M5.out.then m6)
           obtain ⟨gg6, gf6, gw6, _⟩ := rowcell h6 (show Mp.get (seeH (referH G ref) ref).rows o.row = some y' from by rw [seeH_rows, referH_rows]; exact HY'.out) HAA.out I0 j HPL.out
           rw [refAt_rows (H := G) (by rw [seeH_rows, referH_rows]), ← HOD.out] at gw6
           clear h6 m6 t2 _t gf6 b1)
        | (go_at_call 62; refine (see_S H6.out od).mono ?_; rintro e w7 ⟨rfl, h7, m7⟩
           have H7 := Lib.hid h7
           have M7 := Lib.hid (M6.out.then m7)
           obtain ⟨gg7, gf7, gw7, _⟩ := rowcell h7 (show Mp.get (seeH (seeH (referH G ref) ref) od).rows o.row = some y' from by rw [seeH_rows, seeH_rows, referH_rows]; exact HY'.out) HAA.out I0 j HPL.out
           rw [refAt_rows (H := G) (by rw [seeH_rows, seeH_rows, referH_rows]), ← HOD.out] at gw7
           clear h7 m7 gf7 gw6 gg6)
        | (at_builtin; go_loud (refine app_ref rfl _ _ rfl w3.heap.size LA LC old od rfl (own_mut2 (own_mut2 HJ.out.2.2 (Mut.of_below (S := fun _ => False) HBA.out) fun _ _ h => h) M7.out fun a ha hS => by have := HSL.out _ hS; have := HOLT.out a ha; have := HLS.out; omega) rfl rfl (by have := HOLn.out; omega) (by have e1 := M7.out.size; rw [World.size_alloc] at e1; have := HLS.out; omega) ?_)
           intro A3 C3 ys w8 hys ho8 hm8 hfr8
           have H8 := Lib.hid (H7.out.mut hm8 fun k hk hT => by obtain ⟨a, ha, e⟩ := hT; have := HSL.out _ hk; have := HOLT.out a ha; have := HLS.out; omega)
           have M8 : Hid (Mut S w3 w8) := Lib.hid (((HJ.out.2.1.then (Mut.of_below HBA.out)).then M7.out).trans hm8 fun k hk => by obtain ⟨a, ha, e⟩ := hk; rw [← e]; exact .inr (HOLT.out a ha).1)
           have HO8 := Lib.hid ho8
           have HYS := Lib.hid hys
           have b0 := mcell hm8 (mcell M7.out (cell_of_heap (v := .int .i64 num) HK0.out (j := 0) rfl) HNS.out) (fun hT => by obtain ⟨a, ha, e⟩ := hT; have := HOLT.out a ha; omega)
           have b1 := mcell hm8 (mcell M7.out (cell_of_heap (v := .int .i64 ref) HK0.out (j := 1) rfl) HNS.out) (fun hT => by obtain ⟨a, ha, e⟩ := hT; have := HOLT.out a ha; omega)
           obtain ⟨gg8, gf8, gw8, gn8, gw8'⟩ := rowcell H8.out (show Mp.get (seeH (seeH (referH G ref) ref) od).rows o.row = some y' from by rw [seeH_rows, seeH_rows, referH_rows]; exact HY'.out) HAA.out I0 j HPL.out
           have HN8 := Lib.hid (H8.out.setWord (show Mp.get (seeH (seeH (referH G ref) ref) od).rows o.row = some y' from by rw [seeH_rows, seeH_rows, referH_rows]; exact HY'.out) HAA.out (I0 + j) num ref)
           rw [show (I0 + j) * 2 = I0 * 2 + j * 2 from Nat.add_mul _ _ _] at HN8
           have HGS : Hid (S g) := Lib.hid (H8.out.Sw _ _ _ (show Mp.get (seeH (seeH (referH G ref) ref) od).rows o.row = some y' from by rw [seeH_rows, seeH_rows, referH_rows]; exact HY'.out) HAA.out)
           clear hys ho8 hm8 hfr8 gw7 gg7))
      have MN : Hid (Mut S w3 ((w8.setCell ⟨g, I0 * 2 + j * 2, none⟩ (.int .i64 num)).setCell ⟨g, I0 * 2 + j * 2 + 1, none⟩ (.int .i64 ref))) := Lib.hid ((M8.out.then (Mut.setCell _ _ _ _ HGS.out)).then (Mut.setCell _ _ _ _ HGS.out))
      have HON : Hid (((w8.setCell ⟨g, I0 * 2 + j * 2, none⟩ (.int .i64 num)).setCell ⟨g, I0 * 2 + j * 2 + 1, none⟩ (.int .i64 ref)).ownsRow w3.heap.size 26 1 (.slice A3 ys.length C3) ys.length (ints ys)) := Lib.hid (own_mut2 (own_mut2 HO8.out (Mut.setCell (S := S) _ _ _ _ HGS.out) fun a ha hS => by have := HSL.out _ hS; have := (own_blk HO8.out a ha).1; have := HLS.out; omega) (Mut.setCell (S := S) _ _ _ _ HGS.out) fun a ha hS => by have := HSL.out _ hS; have := (own_blk HO8.out a ha).1; have := HLS.out; omega)
      go_roundw
      case rel => exact ⟨j + 1, A3, C3, _, ys, by omega, by go_num, rfl, by rw [HYS.out]; exact HSTEP, Lib.hid ⟨HN8.out, MN.out, HON.out⟩⟩
      case measure => simp [intOf]; omega
    · obtain rfl : j = l.length := by omega
      obtain ⟨hR1, hR2⟩ := HC.out.done
      have HR := Lib.hid (show relH R.1 R.2.reverse = relH G old.reverse from by rw [hR1, hR2])
      clear hR1 hR2 hlt hj
      go_wp2_with (go_at_call 63; refine (release_calls HJ.out.1 HC.out.inv (by rw [HC.out.mu]; have := HMU.out; have := HOLn.out; omega) HC.out.hl ⟨HJ.out.2.2.mono (Nat.zero_le _), fun a ha hS => by have := HSL.out _ hS; have := (own_blk HJ.out.2.2 a ha).1; have := HLS.out; omega⟩).mono ?_; rintro e w9 ⟨rfl, h9, m9⟩; have H9 := Lib.hid h9; have M9 := Lib.hid m9; clear h9 m9)
      go_ret
      refine ⟨rfl, by rw [HR.out]; exact H9.out, ((Mut.of_below HB3.out).then HJ.out.2.1).trans M9.out fun k hk => ?_⟩
      rcases hk with hk | ⟨a, ha, rfl⟩
      · exact .inl hk
      · exact .inr (by have := (own_blk HJ.out.2.2 a ha).1; have := HLS.out; omega)
/-- Copy. -/
theorem copy_calls (h : HpAt w hb A H S) (hi : Inv H []) (hmu : muH H ≤ 40000000) (hbd : HoldsLe H 1000000000) (hlo : LenOk H) (r k x : Int) : Calls Try.prog 15 #[.pointer (some ⟨hb, 0, none⟩), .int .i64 r, .int .i64 k, .int .i64 x] w (ChPost w hb A S (copyH H r k x)) := by
  unfold copyH
  cases ho : Mp.get H.objs r with
  | none => exact copy_none1 h ho k x
  | some o =>
    cases hx : Mp.get H.objs x with
    | none => exact copy_none2 h ho hx k
    | some p =>
      simp only
      obtain ⟨y, hy, hyA, _⟩ := hi.row r o ho
      obtain ⟨z, hz, hzA, _⟩ := hi.row x p hx
      obtain ⟨_, b1, b2⟩ := hlo r o y ho hy
      obtain ⟨_, e1, e2⟩ := hlo x p z hx hz
      by_cases h1 : o.kind ≠ 2
      · rw [if_pos (.inl h1)]; exact copy_kind1 h ho hx h1 k
      · have h1 : o.kind = 2 := Classical.not_not.1 h1
        by_cases h2 : p.kind ≠ 2
        · rw [if_pos (.inr h2)]; exact copy_kind2 h ho hx h1 h2 k
        · have h2 : p.kind = 2 := Classical.not_not.1 h2
          rw [if_neg (fun e => e.elim (fun e => e h1) fun e => e h2)]
          obtain ⟨l1, l2, l3⟩ := b1 h1
          obtain ⟨m1, m2, m3⟩ := e1 h2
          by_cases h3 : o.refs ≠ p.refs
          · rw [if_pos h3]; exact copy_shape h ho hx h1 h2 (by omega) (by omega) h3 k
          · have h3 : o.refs = p.refs := Classical.not_not.1 h3
            rw [if_neg (fun e => e h3)]
            by_cases h4 : k < 0 ∨ (o.hi : Int) - o.lo - (p.hi - p.lo) < k
            · rw [if_pos h4]
              by_cases h5 : k < 0
              · exact copy_neg h ho hx h1 h2 (by omega) h3 k h5
              · exact copy_far h ho hx h1 h2 (by omega) h3 l1 l3 m1 m3 k (by omega) (by omega)
            · rw [if_neg h4]
              obtain ⟨K, rfl⟩ : ∃ K : Nat, k = (K : Int) := ⟨k.toNat, by omega⟩
              rw [Int.toNat_natCast]
              exact copy_ok h ho hx h1 h2 (by omega) h3 l1 l3 m1 m3 hy hz (hyA.2 h1) (hzA.2 h2) b2 l2 (by rw [h3]; exact m2) hi hmu hbd K (by omega) (by unfold Hp.rowOf; rw [hz]; rfl)
end Go.Proofs.Ytodfpclekihbhaa

