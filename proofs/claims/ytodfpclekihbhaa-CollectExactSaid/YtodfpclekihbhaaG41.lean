/- All that can be reached: collect.Reached. -/
import Derived.Test.YtodfpclekihbhaaG40
import Derived.Test.YtodfpclekihbhaaG24
namespace Go.Proofs.Ytodfpclekihbhaa
open Go.RowKit Go.Shelf

theorem filter_one (p : Int → Bool) (r : Int) : [r].filter p = if p r = true then [r] else [] := by rw [List.filter_cons]; rfl
theorem own_base {w : World} {B B' n size : Nat} {e : TypeId} {v : Value} {xs : List Value} (h : w.ownsRow B e size v n xs) (hB : B' ≤ B) : w.ownsRow B' e size v n xs :=
  ⟨h.1, h.2.imp id fun ⟨g, cap, cur, h1, h2, h3⟩ => ⟨g, cap, cur, h1, Nat.le_trans hB h2, h3⟩⟩
/-- A list of the call's own, and nothing else turned. -/
structure Lo (w4 wr : World) (A : Option Addr) (C : Nat) (q : List Int) : Prop where
  own : wr.ownsRow w4.heap.size 26 1 (.slice A q.length C) q.length (ints q)
  bel : Below w4.heap.size w4 wr
theorem Lo.nil (w4 : World) : Lo w4 w4 none 0 [] := ⟨⟨rfl, .inl ⟨rfl, rfl⟩⟩, Below.refl _ _⟩
theorem Lo.app {w4 wr w8 : World} {A A1 : Option Addr} {C C1 : Nat} {q ys : List Int} (h : Lo w4 wr A C q) (ho : w8.ownsRow w4.heap.size 26 1 (.slice A1 ys.length C1) ys.length (ints ys)) (hu : Mut (fun k => ∃ a, A = some a ∧ a.block = k) wr w8) : Lo w4 w8 A1 C1 ys :=
  ⟨ho, h.bel.trans (hu.to_below h.bel.size fun k ⟨a, ha, e⟩ => by have := (own_blk h.own a ha).1; omega)⟩
/-- A stack and a set of the call's own. -/
structure RcM (w wr : World) (B mb : Nat) (A : Option Addr) (C : Nat) (q : List Int) (M : List (Int × Bool)) : Prop where
  own : wr.ownsRow B 26 1 (.slice A q.length C) q.length (ints q)
  map : Mp.MapIs wr mb kV Value.bool M
  ne : ∀ a, A = some a → a.block ≠ mb
  bel : Below w.heap.size w wr
  lB : w.heap.size ≤ B
  Bl : B ≤ wr.heap.size
  lm : w.heap.size ≤ mb
variable {w wr w' : World} {B mb : Nat} {A : Option Addr} {C : Nat} {q : List Int} {M : List (Int × Bool)}
theorem RcM.below (h : RcM w wr B mb A C q M) (hb : Below wr.heap.size wr w') : RcM w w' B mb A C q M :=
  ⟨own_mut2 h.own (Mut.of_below hb) (S := fun _ => False) fun _ _ h => h, h.map.of_block (hb.block _ h.map.lt), h.ne, h.bel.trans (hb.mono h.bel.size), h.lB, Nat.le_trans h.Bl hb.size, h.lm⟩
theorem RcM.upd (h : RcM w wr B mb A C q M) {M' : List (Int × Bool)} (hm : Mp.MapIs w' mb kV Value.bool M') (hu : Mut (· = mb) wr w') : RcM w w' B mb A C q M' :=
  ⟨own_mut2 h.own hu h.ne, hm, h.ne, h.bel.trans (hu.to_below h.bel.size fun k hk => by rw [hk]; exact h.lm), h.lB, Nat.le_trans h.Bl hu.size, h.lm⟩
theorem RcM.app (h : RcM w wr B mb A C q M) {A1 : Option Addr} {C1 : Nat} {ys : List Int} (ho : w'.ownsRow B 26 1 (.slice A1 ys.length C1) ys.length (ints ys)) (hu : Mut (fun k => ∃ a, A = some a ∧ a.block = k) wr w') (ha : ∀ a1, A1 = some a1 → (∃ a, A = some a ∧ a.block = a1.block) ∨ wr.heap.size ≤ a1.block) : RcM w w' B mb A1 C1 ys M :=
  ⟨ho, h.map.of_block (hu.block _ h.map.lt fun ⟨a, q1, q2⟩ => h.ne a q1 q2), fun a1 h1 e => by
    rcases ha a1 h1 with ⟨a, q1, q2⟩ | q1
    · exact h.ne a q1 (q2.trans e)
    · have := h.map.lt; omega, h.bel.trans (hu.to_below h.bel.size fun k ⟨a, q1, q2⟩ => by have := (own_blk h.own a q1).1; have := h.lB; omega), h.lB, Nat.le_trans h.Bl hu.size, h.lm⟩
theorem RcM.cut (h : RcM w wr B mb A C q M) {q' : List Int} (ho : wr.ownsRow B 26 1 (.slice A q'.length C) q'.length (ints q')) : RcM w wr B mb A C q' M := { h with own := ho }
set_option maxRecDepth 100000 in
set_option maxHeartbeats 8000000 in
theorem cReached_calls {w0 w : World} {hb : Nat} {K : Nat → Prop} {H : Hp} {N : Nat} (c : Car w0 hb K H w) (ok : Ok H N) (hN : N ≤ 60) :
    Calls Try.prog 27 #[.pointer (some ⟨hb, 0, none⟩)] w (RfPost w (reachL H)) := by
  obtain ⟨L, hL⟩ : ∃ L, L = allH H := ⟨_, rfl⟩
  have hq := c.all ok (by omega)
  rw [← hL] at hq
  have HQ := Lib.hid hq
  have hL9 : L.length ≤ 900 := by have := all_len ok; rw [← hL] at this; omega
  have HLE := Lib.hid hL
  have HC := Lib.hid c
  have HOK := Lib.hid ok
  clear hq hL c ok
  have hmm := @run_makeMap Try.prog
  go_enter Try.func27, Try.ntmps27
  go_wp2_with (go_at_call 40; refine HQ.out.mono ?_; rintro e w4 ⟨LA, LC, rfl, ho, hb1⟩
               have HB4 := Lib.hid hb1
               have HR4 : Hid (RdI w4 LA L) := Lib.hid (RdI.of_own ho)
               clear ho hb1)
  go_loopw [3, 16] (fun v p wr => ∃ (j : Nat) (qA : Option Addr) (qC : Nat) (q : List Int), j ≤ L.length ∧ p = .int .i64 j ∧ v = .slice qA q.length qC ∧ Hid (q = (L.take j).filter fun r => decide (0 < holdsH H r)) ∧ Hid (Lo w4 wr qA qC q)) (fun _ i _ => L.length - (intOf i).toNat)
  case atStart => exact ⟨0, none, 0, [], Nat.zero_le _, rfl, rfl, Lib.hid rfl, Lib.hid (Lo.nil w4)⟩
  case round =>
    obtain ⟨j, qA, qC, q, hj, rfl, rfl, HE, HR⟩ := hrel
    by_cases hlt : j < L.length
    · obtain ⟨g, o, hA, hg, c0⟩ := HR4.out.below HR.out.bel j hlt
      have q0 : (0 : Int) ≤ (j : Int) := by omega
      have q1 : (j : Int) < (L.length : Int) := by omega
      have HT : Hid (L.take (j + 1) = L.take j ++ [L[j]'hlt]) := Lib.hid (List.take_succ_eq_append_getElem hlt)
      generalize L[j]'hlt = r at *
      have HAE := Lib.hid hA
      rw [hA]
      clear hA
      have hqn : q.length ≤ 100000000 := by rw [HE.out]; have h1 := List.length_filter_le (fun r => decide (0 < holdsH H r)) (L.take j); have h2 : (L.take j).length ≤ j := List.length_take_le _ _; omega
      have HHO := Lib.hid ((HC.out.below (HB4.out.step2 HR.out.bel)).holds r)
      by_cases hp : 0 < holdsH H r
      · have HF : Hid (q ++ [r] = (L.take (j + 1)).filter fun r => decide (0 < holdsH H r)) := Lib.hid (by rw [HT.out, List.filter_append, ← HE.out]; simp [hp])
        generalize holdsH H r = v at *
        go_wp2_with (first
          | (go_at_call 38; refine HHO.out.mono ?_; rintro e w7 ⟨rfl, rfl⟩)
          | (at_builtin; refine app_one rfl _ _ rfl w4.heap.size qA qC q r rfl HR.out.own rfl rfl hqn HR.out.bel.size ?_
             intro A3 C3 ys w8 hys ho8 hu8 ha8
             have H8 := Lib.hid (HR.out.app ho8 hu8)
             have HYS := Lib.hid hys
             clear hys ho8 hu8 ha8))
        go_roundw
        case rel => (try rw [← HAE.out]); exact ⟨j + 1, A3, C3, ys, by omega, by go_num, rfl, Lib.hid (by rw [HYS.out]; exact HF.out), H8⟩
        case measure => simp [intOf]; omega
      · have hp2 : decide (0 < holdsH H r) = false := decide_eq_false hp
        have HF : Hid (q = (L.take (j + 1)).filter fun r => decide (0 < holdsH H r)) := Lib.hid (by rw [HT.out, List.filter_append, ← HE.out]; simp [hp])
        clear hp
        generalize hv : holdsH H r = v at *
        clear hv
        go_wp2_with (go_at_call 38; refine HHO.out.mono ?_; rintro e w7 ⟨rfl, rfl⟩)
        go_roundw
        case rel => (try rw [← HAE.out]); exact ⟨j + 1, qA, qC, q, by omega, by go_num, rfl, HF, HR⟩
        case measure => simp [intOf]; omega
    · obtain rfl : j = L.length := by omega
      rw [List.take_length] at HE
      have ⟨wq, hwq⟩ : ∃ wq, wq = wr := ⟨_, rfl⟩
      subst hwq
      have HD : Hid (Dfs H [] q) := Lib.hid (by rw [HE.out, HLE.out]; exact Dfs.start H)
      have hqn : q.length ≤ 900 := by rw [HE.out]; have h1 := List.length_filter_le (fun r => decide (0 < holdsH H r)) L; omega
      have hba : Below wq.heap.size wq (wq.alloc (.map #[] 0)) := (Below.refl _ _).alloc (Nat.le_refl _) _
      have HM : Hid (RcM w (wq.alloc (.map #[] 0)) w4.heap.size wq.heap.size qA qC q []) := Lib.hid ⟨own_mut2 HR.out.own (Mut.of_below hba) (S := fun _ => False) fun _ _ h => h, Mp.MapIs.made wq kV Value.bool, fun a ha => by have := (own_blk HR.out.own a ha).2; omega, (HB4.out.step2 HR.out.bel).trans (hba.mono (HB4.out.step2 HR.out.bel).size), HB4.out.size, Nat.le_trans HR.out.bel.size hba.size, (HB4.out.step2 HR.out.bel).size⟩
      clear hlt hj HQ HR4 HE hba HR
      go_wp2
      generalize wq.heap.size = mb at *
      go_loopg [3] (waitS H [] + q.length) (fun k v wr => ∃ (qA : Option Addr) (qC : Nat) (q : List Int) (M : List (Int × Bool)), v = .slice qA q.length qC ∧ Hid (waitS H M + q.length = k) ∧ Hid (k ≤ 70000000) ∧ Hid (RcM w wr w4.heap.size mb qA qC q M) ∧ Hid (Dfs H M q))
      case atStart => exact ⟨qA, qC, q, [], rfl, Lib.hid rfl, Lib.hid (by have := waitS_le HOK.out hN []; omega), HM, HD⟩
      case round =>
        clear HM HD hqn
        obtain ⟨qA, qC, q, M, rfl, HK, HKB, HR, HD⟩ := hrel
        rcases List.eq_nil_or_concat q with rfl | ⟨ys, r, rfl⟩
        · have hq := (HC.out.below HR.out.bel).all HOK.out (by omega)
          rw [← HLE.out] at hq
          have HQ := Lib.hid hq
          have HFI : Hid (reachL H = L.filter (inB M)) := Lib.hid (by
            unfold reachL
            rw [← HLE.out]
            refine List.filter_congr fun x _ => ?_
            rw [Bool.eq_iff_iff, reachB_iff]
            exact (HD.out.done x).symm)
          clear hq hmm HK HKB HD
          go_wp2_with (go_at_call 40; refine HQ.out.mono ?_; rintro e w6 ⟨LA2, LC2, rfl, ho, hb1⟩
                       have HR6 : Hid (RdI w6 LA2 L) := Lib.hid (RdI.of_own ho)
                       have HMP := Lib.hid (HR.out.below hb1)
                       clear ho hb1)
          go_loopw [8, 58] (fun v p wr => ∃ (j : Nat) (qA : Option Addr) (qC : Nat) (q : List Int), j ≤ L.length ∧ p = .int .i64 j ∧ v = .slice qA q.length qC ∧ Hid (q = (L.take j).filter (inB M)) ∧ Hid (Lo w6 wr qA qC q)) (fun _ i _ => L.length - (intOf i).toNat)
          case atStart => exact ⟨0, none, 0, [], Nat.zero_le _, rfl, rfl, Lib.hid rfl, Lib.hid (Lo.nil w6)⟩
          case round =>
            obtain ⟨j, qA, qC, q, hj, rfl, rfl, HE, HR⟩ := hrel
            by_cases hlt : j < L.length
            · obtain ⟨g, o, hA, hg, c0⟩ := HR6.out.below HR.out.bel j hlt
              have q0 : (0 : Int) ≤ (j : Int) := by omega
              have q1 : (j : Int) < (L.length : Int) := by omega
              have HT : Hid (L.take (j + 1) = L.take j ++ [L[j]'hlt]) := Lib.hid (List.take_succ_eq_append_getElem hlt)
              generalize L[j]'hlt = r at *
              have HAE := Lib.hid hA
              rw [hA]
              clear hA
              have hqn : q.length ≤ 100000000 := by rw [HE.out]; have h1 := List.length_filter_le (inB M) (L.take j); have h2 : (L.take j).length ≤ j := List.length_take_le _ _; omega
              have hlk : (Instr.lookup 79 (.map (some mb)) (.int .i64 r) false).run Try.prog wr = .ok (.bool (inB M r)) wr := lookB_run (HMP.out.map.of_block (HR.out.bel.block _ HMP.out.map.lt)) r
              have HF : Hid ((L.take (j + 1)).filter (inB M) = q ++ if inB M r = true then [r] else []) := Lib.hid (by
                rw [HT.out, List.filter_append, ← HE.out, filter_one])
              cases hin : inB M r with
              | true =>
                rw [hin] at hlk HF
                clear hin
                go_wp2_with (at_builtin; refine app_one rfl _ _ rfl w6.heap.size qA qC q r rfl HR.out.own rfl rfl hqn HR.out.bel.size ?_
                             intro A3 C3 ys w8 hys ho8 hu8 ha8
                             have H8 := Lib.hid (HR.out.app ho8 hu8)
                             have HYS := Lib.hid hys
                             clear hys ho8 hu8 ha8)
                go_roundw
                case rel => (try rw [← HAE.out]); exact ⟨j + 1, A3, C3, ys, by omega, by go_num, rfl, Lib.hid (by rw [HYS.out, HF.out]; rfl), H8⟩
                case measure => simp [intOf]; omega
              | false =>
                rw [hin] at hlk HF
                clear hin
                go_wp2
                go_roundw
                case rel => (try rw [← HAE.out]); exact ⟨j + 1, qA, qC, q, by omega, by go_num, rfl, Lib.hid (by rw [HF.out]; simp), HR⟩
                case measure => simp [intOf]; omega
            · obtain rfl : j = L.length := by omega
              rw [List.take_length, ← HFI.out] at HE
              clear hlt hj
              go_wp2
              go_ret
              refine ⟨qA, qC, ?_, ?_, HMP.out.bel.trans (HR.out.bel.mono HMP.out.bel.size)⟩
              · rw [← HE.out]; rfl
              · rw [← HE.out]; exact own_base HR.out.own HMP.out.bel.size
        · rw [List.concat_eq_append] at HR HK HD ⊢
          rw [List.length_append, List.length_singleton] at HK ⊢
          have hk := HK.out
          have hkb := HKB.out
          obtain ⟨g, hg1, hg2, hg3, hg4, hg5, hown⟩ := own_last HR.out.own
          have HRR := Lib.hid (HR.out.cut hown)
          have hn2 : ys.length ≤ 100000000 := by omega
          have HX : Hid (Mp.get H.objs r ≠ none) := Lib.hid ((HD.out.sq r (by simp)).ex HOK.out)
          have hlk : (Instr.lookup 79 (.map (some mb)) (.int .i64 r) false).run Try.prog wr = .ok (.bool (inB M r)) wr := lookB_run HR.out.map r
          subst hg1
          unfold maxLen at hg4
          clear hown HR hk hkb
          generalize hn : ys.length = n at *
          have HN := Lib.hid hn
          clear hn
          cases hin : inB M r with
          | true =>
            rw [hin] at hlk
            have HD2 := Lib.hid (HD.out.skip hin)
            clear hin HD
            go_wp2
            go_roundg (waitS H M + n)
            case rel => exact ⟨some ⟨g, 0, none⟩, qC, ys, M, by rw [HN.out], Lib.hid (by rw [HN.out]), Lib.hid (by have := HK.out; have := HKB.out; omega), HRR, HD2⟩
            case measure => have := HK.out; omega
          | false =>
            rw [hin] at hlk
            have HD2 := Lib.hid HD.out.visit
            have HW := Lib.hid (waitS_put HOK.out HX.out hin)
            clear hin HD
            obtain ⟨w5, hrun, hm5, hu5⟩ := updB_run HRR.out.map r true
            have H5 := Lib.hid (HRR.out.upd hm5 hu5)
            obtain ⟨R, hR⟩ : ∃ R, R = refsH H r := ⟨_, rfl⟩
            have hq := (HC.out.below H5.out.bel).refs HOK.out (by omega) r
            rw [← hR] at hq HW HD2
            have HQ := Lib.hid hq
            have hln : n + R.length ≤ 1000000000 := by have := HW.out; have := HK.out; have := HKB.out; omega
            clear hm5 hu5 hq hR
            go_wp2_with (first
              | (go_at_call 41; refine HQ.out.mono ?_; rintro e w6 ⟨RA, RC, rfl, ho, hb6⟩
                 have H6 := Lib.hid (H5.out.below hb6)
                 have HR6 : Hid (RdI w6 RA R) := Lib.hid (RdI.of_own ho)
                 clear ho hb6)
              | (at_builtin; refine app_row rfl _ _ rfl w4.heap.size (some ⟨g, 0, none⟩) qC ys (by rw [HN.out]; rfl) H6.out.own RA RC R rfl HR6.out (by rw [HN.out]; exact hln) H6.out.Bl ?_
                 intro A3 C3 ys3 w8 hys ho8 hu8 ha8
                 have H8 := Lib.hid (H6.out.app ho8 hu8 ha8)
                 have HYS := Lib.hid hys
                 clear hys ho8 hu8 ha8))
            go_roundg (waitS H (Mp.put M r true) + ys3.length)
            case rel => exact ⟨A3, C3, ys3, _, rfl, Lib.hid rfl, Lib.hid (by have h1 := HW.out; have h2 := HK.out; have h3 := HKB.out; rw [HYS.out, List.length_append, HN.out]; omega), H8, Lib.hid (by rw [HYS.out]; exact HD2.out)⟩
            case measure => have h1 := HW.out; have h2 := HK.out; rw [HYS.out, List.length_append, HN.out]; omega
end Go.Proofs.Ytodfpclekihbhaa

