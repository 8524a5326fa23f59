/- Texts on regular expressions, merged: X6, X7. -/
import Derived.Test.YtcajnmhbkjngbaaG03
/- The compiler's insert: its walk. -/
namespace Go.Proofs.Ytcajnmhbkjngbaa
open Go.RowKit Go.Shelf
variable {w w' : World} {cb : Nat} {A : CA} {S : Nat → Prop} {cs : List Int} {ats : AT} {K : CS}

set_option maxRecDepth 100000 in
set_option maxHeartbeats 4000000 in
theorem cinsert_calls (h : CpAt w cb A S cs ats K) (x : CI) (f : Nat) (hf : f ≤ K.code.length) (hb : NBd K.code K.code.length) (hsp : RdP w x.sa x.r.spans) (hns : ∀ a, x.sa = some a → a.block < w.heap.size ∧ ¬ S a.block) (hn : K.code.length ≤ 1000000) :
    Calls Try.prog 83 #[.pointer (some ⟨cb, 0, none⟩), .int .i64 (f : Nat), .agg x.cells.toArray] w fun e w' => e = .returned (.tuple #[]) ∧ CPo w cb S cs ats { K with code := insC K.code f x } w' := by
  have h1 : x.cells.toArray = #[.int .i64 x.r.op, .int .i64 x.r.x, .int .i64 x.r.y, .slice x.sa x.r.spans.length x.sc, .bool x.r.inv] := rfl
  have HC : Hid (cellsL (K.code.take f ++ x :: K.code.drop f) = (cellsL K.code).take (f * 5) ++ (#[.int .i64 x.r.op, .int .i64 x.r.x, .int .i64 x.r.y, .slice x.sa x.r.spans.length x.sc, .bool x.r.inv] : Array Value).toList ++ (cellsL K.code).drop (f * 5)) := Lib.hid (cellsL_ins _ _ _)
  have HONE : Hid (∀ u ∈ (#[.int .i64 x.r.op, .int .i64 x.r.x, .int .i64 x.r.y, .slice x.sa x.r.spans.length x.sc, .bool x.r.inv] : Array Value).toList, u.oneCell' = true) := Lib.hid (x.one)
  have HL : Hid (∀ {W : World}, Below w.heap.size w W → ∀ {e : Ending} {w2 : World}, InsPo W A.cd K.code.length (cellsL (K.code.take f ++ x :: K.code.drop f)) e w2 →
    ∃ A1 C1, e = .returned (.slice A1 (K.code.length + 1) C1) ∧ CCells w2 cb A cs.length ats K ∧ CPo w cb S cs ats { K with code := K.code.take f ++ x :: K.code.drop f } (w2.setCell ⟨cb, 5, none⟩ (.slice A1 (K.code.length + 1) C1))) := Lib.hid fun hbl _ _ hp => CPo.laid h hbl x f hf hns hsp hp
  rw [h1]
  obtain ⟨c0, c1, c2, c3, c4, c5, hfz⟩ := h.cells
  have HT := Lib.hid h
  have HSz : Hid (∀ a, A.cd = some a → a.block < w.heap.size) := Lib.hid fun a ha => h.Slt _ (h.Sc a ha)
  have hlt := lt_of_heap h.blk
  have HB := Lib.hid hb
  clear h h1 hsp hns hb
  generalize hxc : (#[.int .i64 x.r.op, .int .i64 x.r.x, .int .i64 x.r.y, .slice x.sa x.r.spans.length x.sc, .bool x.r.inv] : Array Value) = XC at *
  subst hxc
  generalize x.r.op = v0 at *
  generalize x.r.x = v1 at *
  generalize x.r.y = v2 at *
  generalize x.r.inv = v4 at *
  generalize x.r.spans.length = v3 at *
  have hB2 : Below w.heap.size w (((w.alloc (.cells #[.int .i64 v0, .int .i64 v1, .int .i64 v2, .slice x.sa v3 x.sc, .bool v4] 99)).drew).alloc (.cells #[.int .i64 v0, .int .i64 v1, .int .i64 v2, .slice x.sa v3 x.sc, .bool v4] 99)) := (((Below.refl _ w).alloc (Nat.le_refl _) _).drew).alloc (by simp) _
  have HIN : Hid (Calls Try.prog 101 #[.slice A.cd K.code.length A.cdC, .int .i64 (f : Nat), .slice (some ⟨w.heap.size + 1, 0, none⟩) 1 1] (((w.alloc (.cells #[.int .i64 v0, .int .i64 v1, .int .i64 v2, .slice x.sa v3 x.sc, .bool v4] 99)).drew).alloc (.cells #[.int .i64 v0, .int .i64 v1, .int .i64 v2, .slice x.sa v3 x.sc, .bool v4] 99)) fun e w2 => ∃ A1 C1, e = .returned (.slice A1 (K.code.length + 1) C1) ∧ CCells w2 cb A cs.length ats K ∧ CPo w cb S cs ats { K with code := K.code.take f ++ x :: K.code.drop f } (w2.setCell ⟨cb, 5, none⟩ (.slice A1 (K.code.length + 1) C1))) := Lib.hid (by
    refine (insert_any (HT.out.below hB2).own hn hf (vb := w.heap.size + 1) (vs := #[.int .i64 v0, .int .i64 v1, .int .i64 v2, .slice x.sa v3 x.sc, .bool v4]) ?_ (fun a ha e => ?_) rfl HONE.out (cellsL_one _) HC.out).mono fun e w2 hp => HL.out hB2 hp
    · have := heap_alloc_new ((w.alloc (.cells #[.int .i64 v0, .int .i64 v1, .int .i64 v2, .slice x.sa v3 x.sc, .bool v4] 99)).drew) (.cells #[.int .i64 v0, .int .i64 v1, .int .i64 v2, .slice x.sa v3 x.sc, .bool v4] 99)
      simpa using this
    · have := HSz.out a ha; omega)
  clear hB2 HL HC HONE
  have mixed : Try.prog.follows .mixedOrders = true := by kernel_rfl
  go_enter Try.func83, Try.ntmps83
  go_wp2
  go_region_law (go_simp; go_at_call 101; refine HIN.out.mono ?_; rintro e w2 ⟨A1, C1, rfl, ⟨d0, d1, d2, d3, d4, d5, df⟩, hpo⟩; have HPO := Lib.hid hpo; clear hpo)
  all_goals
    obtain ⟨A3, S3, h3, m3, s3⟩ := HPO.out
    have H3 := Lib.hid h3
    have M3 := Lib.hid (And.intro m3 s3)
    clear h3 m3 s3 HPO
    go_wp2
    go_loopw [6] (fun i wr => ∃ k : Nat, k ≤ K.code.length - f ∧ i = .int .i64 ((f + 1 + k : Nat) : Int) ∧ Hid (CpAt wr cb A3 S3 cs ats { K with code := bumpTo K.code f x k }) ∧ Hid (Mut S3 (w2.setCell ⟨cb, 5, none⟩ (.slice A1 (K.code.length + 1) C1)) wr)) (fun i _ => K.code.length + 1 - (intOf i).toNat)
    case atStart => exact ⟨0, Nat.zero_le _, by go_num, Lib.hid (by rw [bumpTo_zero]; exact H3.out), Lib.hid (Mut.refl _ _)⟩
    case round =>
      obtain ⟨k, hk, rfl, HR, HM⟩ := hrel
      have HLEN := Lib.hid (len_bumpTo (x := x) hf hk)
      obtain ⟨d0, d1, d2, d3, d4, d5, df⟩ := HR.out.cells
      rw [HLEN.out] at d5
      by_cases hlt : k < K.code.length - f
      · have hz : K.code[f + k]? = some (K.code[f + k]'(by omega)) := List.getElem?_eq_getElem _
        obtain ⟨g, hA, hne, hg, r1, r2, r3, r4, hC, hM2⟩ := HR.out.bumpAt rfl hf hz
        have hbd := HB.out _ (List.mem_of_getElem? hz)
        generalize K.code[f + k]'(by omega) = z at *
        rw [hA] at d5
        have HC := Lib.hid hC
        have HM2 := Lib.hid (HM.out.then hM2)
        have HEQ : Hid (f + 1 + (k + 1) = f + 1 + k + 1) := Lib.hid rfl
        have hiN : ((f + 1 + k : Nat) : Int) < ((K.code.length + 1 : Nat) : Int) := by omega
        have hiN2 : f + 1 + k < K.code.length + 1 := by omega
        obtain ⟨b1, b2, b3, b4⟩ := hbd
        have b5 : z.r.x ≤ 1000000 := by omega
        have b6 : z.r.y ≤ 1000000 := by omega
        clear hC hM2 hz hA b2 b4 d0 d1 d2 d3 d4 HLEN
        unfold stB at HC HM2
        generalize z.r.x = zx at *
        generalize z.r.y = zy at *
        generalize hiv : f + 1 + k = iv at *
        have HIV := Lib.hid hiv
        clear hiv
        by_cases hx : (f : Int) ≤ zx
        · by_cases hy : (f : Int) ≤ zy
          · rw [if_pos hx, if_pos hy] at HC HM2
            go_wp2
            go_roundw
            case rel => exact ⟨k + 1, by omega, by rw [HEQ.out]; go_num, HC, HM2⟩
            case measure => simp [intOf]; omega
          · rw [if_pos hx, if_neg hy] at HC HM2
            go_wp2
            go_roundw
            case rel => exact ⟨k + 1, by omega, by rw [HEQ.out]; go_num, HC, HM2⟩
            case measure => simp [intOf]; omega
        · by_cases hy : (f : Int) ≤ zy
          · rw [if_neg hx, if_pos hy] at HC HM2
            go_wp2
            go_roundw
            case rel => exact ⟨k + 1, by omega, by rw [HEQ.out]; go_num, HC, HM2⟩
            case measure => simp [intOf]; omega
          · rw [if_neg hx, if_neg hy] at HC HM2
            go_wp2
            go_roundw
            case rel => exact ⟨k + 1, by omega, by rw [HEQ.out]; go_num, HC, HM2⟩
            case measure => simp [intOf]; omega
      · have hke : k = K.code.length - f := by omega
        have hiE : f + 1 + k = K.code.length + 1 := by omega
        have HE := Lib.hid (bumpTo_all K.code f x (k := k) (by rw [List.length_drop]; omega))
        rw [hiE]
        clear hiE hke hk hlt d0 d1 d2 d3 d4 HLEN
        go_wp2
        go_end0
        rw [HE.out] at HR
        exact ⟨rfl, A3, S3, HR.out, M3.out.1.trans HM.out fun k hk => M3.out.2 k hk, M3.out.2⟩
end Go.Proofs.Ytcajnmhbkjngbaa

/- The compiler's repeat. -/
namespace Go.Proofs.Ytcajnmhbkjngbaa
open Go.RowKit Go.Shelf
variable {w w' : World} {cb : Nat} {A : CA} {S : Nat → Prop} {cs : List Int} {ats : AT} {K : CS}

/-- An instruction without a set. -/
def ci (op x y : Int) : CI := ⟨⟨op, x, y, [], false⟩, none, 0⟩
theorem ci_cells (op x y : Int) : (ci op x y).cells.toArray = #[.int .i64 op, .int .i64 x, .int .i64 y, .slice none 0 0, .bool false] := rfl
/-- The code behind an operator. -/
def repC (c : List CI) (f : Nat) (op : Int) : List CI :=
  if op = 43 then c ++ [ci 2 f ((c.length + 1 : Nat) : Int)]
  else if op = 42 then (insC c f (ci 2 0 0) ++ [ci 3 f 0]).set f (ci 2 ((f + 1 : Nat) : Int) ((c.length + 2 : Nat) : Int))
  else (insC c f (ci 2 0 0)).set f (ci 2 ((f + 1 : Nat) : Int) ((c.length + 1 : Nat) : Int))
theorem len_insC {c : List CI} {f : Nat} {x : CI} (hf : f ≤ c.length) : (insC c f x).length = c.length + 1 := by
  simp only [insC, List.length_append, List.length_cons, List.length_map, List.length_take, List.length_drop]; omega
theorem get_insC {c : List CI} {f : Nat} {x : CI} (hf : f ≤ c.length) : (insC c f x)[f]? = some x := by
  unfold insC
  rw [List.getElem?_append_right (by rw [List.length_take]; omega), List.length_take, Nat.min_eq_left hf, Nat.sub_self]
  rfl
theorem emit_ci (h : CpAt w cb A S cs ats K) (op x y : Int) (hn : K.code.length ≤ 1000000) :
    Calls Try.prog 51 #[.pointer (some ⟨cb, 0, none⟩), .agg #[.int .i64 op, .int .i64 x, .int .i64 y, .slice none 0 0, .bool false]] w fun e w' => e = .returned (.int .i64 (K.code.length : Nat)) ∧ CPo w cb S cs ats { K with code := K.code ++ [ci op x y] } w' :=
  emit_calls h (ci op x y) (RdP.nil _) (fun a ha => by cases ha) hn
theorem insert_ci (h : CpAt w cb A S cs ats K) (op x y : Int) (f : Nat) (hf : f ≤ K.code.length) (hb : NBd K.code K.code.length) (hn : K.code.length ≤ 1000000) :
    Calls Try.prog 83 #[.pointer (some ⟨cb, 0, none⟩), .int .i64 (f : Nat), .agg #[.int .i64 op, .int .i64 x, .int .i64 y, .slice none 0 0, .bool false]] w fun e w' => e = .returned (.tuple #[]) ∧ CPo w cb S cs ats { K with code := insC K.code f (ci op x y) } w' :=
  cinsert_calls h (ci op x y) f hf hb (RdP.nil _) (fun a ha => by cases ha) hn
theorem CPo.trans {w w1 w2 : World} {cb : Nat} {S S1 : Nat → Prop} {cs : List Int} {ats : AT} {K' : CS} (hm : Mut S w w1) (hs : ∀ k, S1 k → S k ∨ w.heap.size ≤ k) (h2 : CPo w1 cb S1 cs ats K' w2) : CPo w cb S cs ats K' w2 := by
  obtain ⟨A2, S2, h, m, s⟩ := h2
  refine ⟨A2, S2, h, hm.trans m hs, fun k hk => ?_⟩
  rcases s k hk with e | e
  · exact hs k e
  · exact .inr (Nat.le_trans hm.size e)
/-- The instruction at a place gets its two numbers, in either order. -/
theorem CpAt.set2 (h : CpAt w cb A S cs ats K) {f : Nat} {op x0 y0 : Int} (hf : K.code[f]? = some (ci op x0 y0)) (x y : Int) :
    ∃ g, A.cd = some ⟨g, 0, none⟩ ∧ g ≠ cb ∧ g < w.heap.size ∧ (∃ v, w.cell? ⟨g, f * 5 + 1, none⟩ = some (.int .i64 v)) ∧ (∃ v, w.cell? ⟨g, f * 5 + 2, none⟩ = some (.int .i64 v)) ∧ w.frozen? ⟨g, f * 5 + 1, none⟩ = false ∧ w.frozen? ⟨g, f * 5 + 2, none⟩ = false ∧
      CPo w cb S cs ats { K with code := K.code.set f (ci op x y) } ((w.setCell ⟨g, f * 5 + 1, none⟩ (.int .i64 x)).setCell ⟨g, f * 5 + 2, none⟩ (.int .i64 y)) ∧ CPo w cb S cs ats { K with code := K.code.set f (ci op x y) } ((w.setCell ⟨g, f * 5 + 2, none⟩ (.int .i64 y)).setCell ⟨g, f * 5 + 1, none⟩ (.int .i64 x)) := by
  have hlt := (List.getElem?_eq_some_iff.1 hf).1
  obtain ⟨g, hA, hg, hc1, hf1, hu1⟩ := h.upd (j := 1) (v := .int .i64 x) (ci op x y0) hf (by omega) rfl rfl rfl
  obtain ⟨g', hA', _, hc2, hf2, hu2⟩ := h.upd (j := 2) (v := .int .i64 y) (ci op x0 y) hf (by omega) rfl rfl rfl
  have e : g' = g := by rw [hA] at hA'; injection hA' with hA'; injection hA' with hA'; exact hA'.symm
  subst e
  obtain ⟨cur, hcur, _⟩ := h.row _ hA
  have hS := h.Sc _ hA
  have h1 : (K.code.set f (ci op x y0))[f]? = some (ci op x y0) := by rw [List.getElem?_set, if_pos rfl, if_pos hlt]
  have h2 : (K.code.set f (ci op x0 y))[f]? = some (ci op x0 y) := by rw [List.getElem?_set, if_pos rfl, if_pos hlt]
  obtain ⟨g3, hA3, _, _, _, hu3⟩ := hu1.upd (j := 2) (v := .int .i64 y) (ci op x y) h1 (by omega) rfl rfl rfl
  have e : g3 = g' := by rw [hA] at hA3; injection hA3 with hA3; injection hA3 with hA3; exact hA3.symm
  subst e
  obtain ⟨g4, hA4, _, _, _, hu4⟩ := hu2.upd (j := 1) (v := .int .i64 x) (ci op x y) h2 (by omega) rfl rfl rfl
  have e : g4 = g3 := by rw [hA] at hA4; injection hA4 with hA4; injection hA4 with hA4; exact hA4.symm
  subst e
  rw [List.set_set] at hu3 hu4
  exact ⟨g4, hA, ne_ty hcur h.blk (by decide), hg, ⟨_, hc1⟩, ⟨_, hc2⟩, hf1, hf2, ⟨A, S, hu3, (Mut.setCell _ _ _ _ hS).then (Mut.setCell _ _ _ _ hS), fun _ => .inl⟩, ⟨A, S, hu4, (Mut.setCell _ _ _ _ hS).then (Mut.setCell _ _ _ _ hS), fun _ => .inl⟩⟩
theorem CPo.drew {w w1 : World} {cb : Nat} {S : Nat → Prop} {cs : List Int} {ats : AT} {K' : CS} (h : CPo w cb S cs ats K' w1) : CPo w cb S cs ats K' w1.drew := by
  obtain ⟨A2, S2, h, m, s⟩ := h
  exact ⟨A2, S2, h.below ((Below.refl _ _).drew), m.drewN 1, s⟩
theorem repeat_plus (h : CpAt w cb A S cs ats K) (f : Nat) (hn : K.code.length ≤ 100000) : Calls Try.prog 99 #[.pointer (some ⟨cb, 0, none⟩), .int .i64 (f : Nat), .int .i32 43] w fun e w' => e = .returned (.tuple #[]) ∧ CPo w cb S cs ats { K with code := repC K.code f 43 } w' := by
  have HR : Hid (repC K.code f 43 = K.code ++ [ci 2 f ((K.code.length : Int) + 1)]) := Lib.hid (by unfold repC; rw [if_pos rfl]; rfl)
  have H1 := Lib.hid (emit_ci h 2 f ((K.code.length : Int) + 1) (by omega))
  obtain ⟨c0, c1, c2, c3, c4, c5, hfz⟩ := h.cells
  clear h
  go_enter Try.func99, Try.ntmps99
  go_wp2_with (go_at_call 51; refine H1.out.mono ?_; rintro e w1 ⟨rfl, hp⟩; have HP := Lib.hid hp; clear hp)
  all_goals (first | go_end0 | refine bodyPost_ret (results_none rfl _ _ _) rfl ?_)
  all_goals exact ⟨rfl, by rw [HR.out]; exact HP.out⟩
set_option maxRecDepth 100000 in
set_option maxHeartbeats 4000000 in
theorem repeat_opt (h : CpAt w cb A S cs ats K) (f : Nat) (hf : f ≤ K.code.length) (hb : NBd K.code K.code.length) (hn : K.code.length ≤ 100000) : Calls Try.prog 99 #[.pointer (some ⟨cb, 0, none⟩), .int .i64 (f : Nat), .int .i32 63] w fun e w' => e = .returned (.tuple #[]) ∧ CPo w cb S cs ats { K with code := repC K.code f 63 } w' := by
  have HR : Hid (repC K.code f 63 = (insC K.code f (ci 2 0 0)).set f (ci 2 ((f : Int) + 1) ((K.code.length : Int) + 1))) := Lib.hid (by unfold repC; rw [if_neg (by decide), if_neg (by decide)]; rfl)
  have H1 := Lib.hid (insert_ci h 2 0 0 f hf hb (by omega))
  have HG := Lib.hid (get_insC (x := ci 2 0 0) hf)
  have HL := Lib.hid (len_insC (x := ci 2 0 0) hf)
  clear h hb
  have q1 : (f : Int) ≤ 100000 := by omega
  have q2 : (f : Int) < ((K.code.length + 1 : Nat) : Int) := by omega
  have q3 : f < K.code.length + 1 := by omega
  go_enter Try.func99, Try.ntmps99
  go_wp2_with (go_at_call 83; refine H1.out.mono ?_; rintro e w1 ⟨rfl, A1, S1, h1, m1, s1⟩
               obtain ⟨c0, c1, c2, c3, c4, c5, hfz⟩ := h1.cells
               obtain ⟨g, hA, hne, hg, ⟨v1, r1⟩, ⟨v2, r2⟩, r3, r4, p1, p2⟩ := h1.set2 HG.out ((f : Int) + 1) ((K.code.length : Int) + 1)
               have P1 := Lib.hid (CPo.trans m1 s1 p1).drew
               rw [HL.out, hA] at c5
               clear p1 p2 m1 s1 h1 c0 c1 c2 c3 c4)
  go_region
  go_wp2
  go_end0
  exact ⟨rfl, by rw [HR.out]; exact P1.out⟩
set_option maxRecDepth 100000 in
set_option maxHeartbeats 4000000 in
theorem repeat_star (h : CpAt w cb A S cs ats K) (f : Nat) (hf : f ≤ K.code.length) (hb : NBd K.code K.code.length) (hn : K.code.length ≤ 100000) : Calls Try.prog 99 #[.pointer (some ⟨cb, 0, none⟩), .int .i64 (f : Nat), .int .i32 42] w fun e w' => e = .returned (.tuple #[]) ∧ CPo w cb S cs ats { K with code := repC K.code f 42 } w' := by
  have HR : Hid (repC K.code f 42 = (insC K.code f (ci 2 0 0) ++ [ci 3 f 0]).set f (ci 2 ((f : Int) + 1) ((K.code.length : Int) + 2))) := Lib.hid (by unfold repC; rw [if_neg (by decide), if_pos rfl]; rfl)
  have H1 := Lib.hid (insert_ci h 2 0 0 f hf hb (by omega))
  have hl := len_insC (x := ci 2 0 0) hf
  have HG : Hid ((insC K.code f (ci 2 0 0) ++ [ci 3 f 0])[f]? = some (ci 2 0 0)) := Lib.hid (by rw [List.getElem?_append_left (by omega)]; exact get_insC hf)
  have HL : Hid ((insC K.code f (ci 2 0 0) ++ [ci 3 f 0]).length = K.code.length + 2) := Lib.hid (by rw [List.length_append, hl]; rfl)
  have HL0 := Lib.hid hl
  clear h hb hl
  have q1 : (f : Int) ≤ 100000 := by omega
  have q2 : (f : Int) < ((K.code.length + 2 : Nat) : Int) := by omega
  have q3 : f < K.code.length + 2 := by omega
  have q4 : (f : Int) < (K.code.length : Int) + 2 := by omega
  go_enter Try.func99, Try.ntmps99
  go_wp2_with (first
    | (go_at_call 83; refine H1.out.mono ?_; rintro e w1 ⟨rfl, A1, S1, h1, m1, s1⟩
       have HE := Lib.hid (emit_ci h1 3 f 0 (by have := HL0.out; simp only; omega))
       have M1 := Lib.hid (And.intro m1 s1)
       clear h1 m1 s1)
    | (go_at_call 51; refine HE.out.mono ?_; rintro e w2 ⟨rfl, A2, S2, h2, m2, s2⟩
       obtain ⟨c0, c1, c2, c3, c4, c5, hfz⟩ := h2.cells
       obtain ⟨g, hA, hne, hg, ⟨v1, r1⟩, ⟨v2, r2⟩, r3, r4, p1, p2⟩ := h2.set2 HG.out ((f : Int) + 1) ((K.code.length : Int) + 2)
       have P1 := Lib.hid (CPo.trans M1.out.1 M1.out.2 (CPo.trans m2 s2 p1)).drew
       rw [show ({ K with code := insC K.code f (ci 2 0 0) ++ [ci 3 f 0] } : CS).code.length = K.code.length + 2 from HL.out, hA] at c5
       clear p1 p2 m2 s2 h2 c0 c1 c2 c3 c4))
  go_region
  go_wp2
  go_end0
  exact ⟨rfl, by rw [HR.out]; exact P1.out⟩
end Go.Proofs.Ytcajnmhbkjngbaa

