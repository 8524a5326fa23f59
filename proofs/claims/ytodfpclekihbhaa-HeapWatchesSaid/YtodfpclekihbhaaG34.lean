/- HeapWatches: a heap that is watched behaves as one that is not, and nothing is seen of the latter. -/
import Derived.Test.YtodfpclekihbhaaG33
import Derived.Deep.LoopGhost
import Derived.Deep.CutRange
namespace Go.Proofs.Ytodfpclekihbhaa
open Go.RowKit Go.Shelf

/-- The two heaps between two calls. -/
structure Pair (w0 : World) (ha hb : Nat) (H G : Hp) (N : Nat) (w : World) : Prop where
  car : Car2 w0 ha hb (fun _ => False) H G w
  okH : Ok H N
  okG : Ok G N
  like : Like H G
  off : H.watched = false ∧ H.seen = []
  on : G.watched = true ∧ G.seen = []
theorem like_seen {H G : Hp} (h : Like H G) : Like (seenH H).1 (seenH G).1 := h
theorem boxC {w : World} {b : Nat} {m : OpM} (h : w.heap[b]? = some (.cells m.box 76 (0, 0))) : w.cell? ⟨b, 0, none⟩ = some (.int .i64 m.k) ∧ w.cell? ⟨b, 1, none⟩ = some (.int .i64 m.r) ∧ w.cell? ⟨b, 2, none⟩ = some (.int .i64 m.x) ∧ w.cell? ⟨b, 3, none⟩ = some (.int .i64 m.a) ∧ w.cell? ⟨b, 4, none⟩ = some (.int .i64 m.b) ∧ w.cell? ⟨b, 5, none⟩ = some (.string m.tx) ∧ w.cell? ⟨b, 6, none⟩ = some (.int .i64 m.cls) ∧ w.cell? ⟨b, 7, none⟩ = some (.slice m.ra m.refs.length m.rC) ∧ w.cell? ⟨b, 8, none⟩ = some (.slice m.wa m.words.length m.wC) ∧ w.cell? ⟨b, 9, none⟩ = some (.bool m.on) :=
  ⟨cell_of_heap h rfl, cell_of_heap h rfl, cell_of_heap h rfl, cell_of_heap h rfl, cell_of_heap h rfl, cell_of_heap h rfl, cell_of_heap h rfl, cell_of_heap h rfl, cell_of_heap h rfl, cell_of_heap h rfl⟩
set_option maxRecDepth 100000 in
set_option maxHeartbeats 8000000 in
theorem law_watches {w : World} {A : Option Addr} (C : Nat) {l : List OpM} (h : OpsAt w A l) (hn : l.length ≤ 9223372036854775807) :
    Calls Try.prog 9 #[.slice A l.length C] w fun e w' => e = .returned (.bool true) ∧ Below w.heap.size w w' := by
  have HL := Lib.hid h
  have HN := Lib.hid hn
  have tn1 : True := trivial
  clear h hn
  go_enter Try.func9, Try.ntmps9
  go_wp2_with (first
    | (go_at_call 11; refine (awake17 w).mono ?_; rintro e wa ⟨rfl, hb⟩
       have HB0 := Lib.hid hb
       clear hb)
    | (go_at_call 43; refine (small_calls C (HL.out.below HB0.out) HN.out).mono ?_; rintro e wb ⟨⟨sb, rfl, hs⟩, hb⟩
       have HS := Lib.hid hs
       have HB1 := Lib.hid (HB0.out.step2 hb)
       clear hs hb)
    | (go_at_call 12; have _t := tn1; refine (new_car wb).mono ?_; rintro e w1 ⟨ha, rfl, hc⟩
       have HC := Lib.hid hc
       clear hc tn1)
    | (go_at_call 12; refine (new_car2nd HC.out).mono ?_; rintro e w2 ⟨hb, rfl, hc⟩
       have HC2 := Lib.hid hc
       clear hc)
    | (go_at_call 36; refine (HC2.out.swap.watch true).mono ?_; rintro e w3 ⟨rfl, hc⟩
       have HP : Hid (Pair wb ha hb emptyH (watchH emptyH true) 0 w3) := Lib.hid ⟨hc.swap, Ok.empty, Ok.empty.watch true, rfl, ⟨rfl, rfl⟩, ⟨rfl, rfl⟩⟩
       clear hc))
  · go_ret
    exact ⟨rfl, HB1.out⟩
  · have hl50 : l.length ≤ 50 := (HS.out (by have hh := ‹(!sb) = false›; simpa using hh)).1
    have HSM : Hid (∀ j (h : j < l.length), OpSm (l[j]'h)) := Lib.hid (HS.out (by have hh := ‹(!sb) = false›; simpa using hh)).2
    have HLB : Hid (OpsAt wb A l) := Lib.hid (HL.out.below HB1.out)
    clear HS HL HN HC HC2
    go_loopw [29] (fun p wr => ∃ (j : Nat) (H G : Hp), j ≤ l.length ∧ p = .int .i64 j ∧ Hid (Pair wb ha hb H G j wr)) (fun i _ => l.length - (intOf i).toNat)
    case atStart => exact ⟨0, emptyH, watchH emptyH true, Nat.zero_le _, rfl, HP⟩
    case round =>
      clear HP
      obtain ⟨j, H, G, hj, rfl, HP⟩ := hrel
      by_cases hlt : j < l.length
      · obtain ⟨_, g, o, hA, hc⟩ := HLB.out.below HP.out.car.bel j hlt
        have HRD : Hid (∀ W, Below wb.heap.size wb W → OpRd W (l[j]'hlt)) := Lib.hid fun W hW => (HLB.out.below hW j hlt).1
        have HSO := Lib.hid (HSM.out j hlt)
        have q0 : (0 : Int) ≤ (j : Int) := by omega
        have q1 : (j : Int) < (l.length : Int) := by omega
        have HAE := Lib.hid hA
        rw [hA]
        clear hA
        generalize l[j]'hlt = m at *
        obtain ⟨hg, c0, c1, c2, c3, c4, c5, c6, c7, c8, c9⟩ := hc
        have hal : Below wr.heap.size wr (wr.alloc (.cells m.box 76)) := (Below.refl _ _).alloc (Nat.le_refl _) _
        have HWA : Hid (Car2 wb ha hb (fun k => False ∨ k = wr.heap.size) H G (wr.alloc (.cells m.box 76))) := Lib.hid (HP.out.car.keep hal fun k hk => by subst hk; exact ⟨Nat.le_refl _, by simp⟩)
        have HBX : Hid ((wr.alloc (.cells m.box 76)).heap[wr.heap.size]? = some (.cells m.box 76 (0, 0))) := Lib.hid (heap_alloc_new wr _)
        have HD1 := Lib.hid (HWA.out.do HP.out.okH (by omega) m (HRD.out _ HWA.out.bel) HSO.out)
        have HAL := Lib.hid hal
        by_cases h11 : m.k = 11
        · rw [h11] at c0
          have hb2 : Hid (Below wr.heap.size wr (wr.alloc (.cells #[.int .i64 11, .int .i64 m.r, .int .i64 m.x, .int .i64 m.a, .int .i64 m.b, .string m.tx, .int .i64 m.cls, .slice m.ra m.refs.length m.rC, .slice m.wa m.words.length m.wC, .bool m.on] 76))) := Lib.hid ((Below.refl _ _).alloc (Nat.le_refl _) _)
          clear HD1 HBX HWA hal HAL h11
          go_wp2
          go_roundw
          case rel => (try rw [← HAE.out]); exact ⟨j + 1, H, G, by omega, by go_num, Lib.hid ⟨HP.out.car.below hb2.out, HP.out.okH.mono (Nat.le_succ _), HP.out.okG.mono (Nat.le_succ _), HP.out.like, HP.out.off, HP.out.on⟩⟩
          case measure => simp [intOf]; omega
        by_cases h12 : m.k = 12
        · rw [h12] at c0
          have hb2 : Hid (Below wr.heap.size wr (wr.alloc (.cells #[.int .i64 12, .int .i64 m.r, .int .i64 m.x, .int .i64 m.a, .int .i64 m.b, .string m.tx, .int .i64 m.cls, .slice m.ra m.refs.length m.rC, .slice m.wa m.words.length m.wC, .bool m.on] 76))) := Lib.hid ((Below.refl _ _).alloc (Nat.le_refl _) _)
          clear HD1 HBX HWA hal HAL h12
          go_wp2
          go_roundw
          case rel => (try rw [← HAE.out]); exact ⟨j + 1, H, G, by omega, by go_num, Lib.hid ⟨HP.out.car.below hb2.out, HP.out.okH.mono (Nat.le_succ _), HP.out.okG.mono (Nat.le_succ _), HP.out.like, HP.out.off, HP.out.on⟩⟩
          case measure => simp [intOf]; omega
        have e11 : (m.k == 11) = false := by simpa using h11
        have e12 : (m.k == 12) = false := by simpa using h12
        obtain ⟨HLK1, HLK2⟩ := HP.out.like.do m h11 h12
        have HLK := Lib.hid HLK1
        have HSUB : Hid (Ok (doM H m).1 (j + 1) ∧ Ok (doM G m).1 (j + 1)) := Lib.hid ⟨HP.out.okH.do m HSO.out, HP.out.okG.do m HSO.out⟩
        have HWS : Hid (WS H (doM H m).1 ∧ WS G (doM G m).1) := Lib.hid ⟨WS.do H m h11 h12, WS.do G m h11 h12⟩
        have HMS : Hid ((doM G m).2.1 ≠ 0 → InM (doM G m).1.seen (doM G m).2.1 ∧ Mp.get (doM G m).1.objs (doM G m).2.1 ≠ none ∧ m.k ≠ 9) := Lib.hid fun h0 => ⟨made_seen G m HP.out.on.1 h0, (made_is G m h11 h0).1, (made_is G m h11 h0).2⟩
        have HHS : Hid (m.k = 9 → (doM G m).2.2.2 = 0 → InM (doM G m).1.seen m.r ∧ Mp.get (doM G m).1.objs m.r ≠ none) := Lib.hid fun h9 h0 => held_seen HP.out.okG m HP.out.on.1 h9 h0
        have HD2 : Hid (∀ W, Car2 wb ha hb (fun k => False ∨ k = wr.heap.size) (doM H m).1 G W → Calls Try.prog 44 #[.pointer (some ⟨hb, 0, none⟩), .agg #[.int .i64 m.k, .int .i64 m.r, .int .i64 m.x, .int .i64 m.a, .int .i64 m.b, .string m.tx, .int .i64 m.cls, .slice m.ra m.refs.length m.rC, .slice m.wa m.words.length m.wC, .bool m.on]] W fun e w' => (∃ SA SC, e = .returned (.tuple #[.int .i64 (doM G m).2.1, .slice SA (doM G m).2.2.1.length SC, .int .i64 (doM G m).2.2.2])) ∧ Car2 wb ha hb (fun k => False ∨ k = wr.heap.size) (doM H m).1 (doM G m).1 w' ∧ Mut (Off wb fun k => False ∨ k = wr.heap.size) W w') := Lib.hid fun W c => (c.swap.do HP.out.okG (by omega) m (HRD.out _ c.bel) HSO.out).mono fun _ _ ⟨h1, h2, h3⟩ => ⟨h1, h2.swap, h3⟩
        rw [HLK2] at HD1
        have HOF := Lib.hid HP.out.off
        have HON := Lib.hid HP.out.on
        clear HLK1 HLK2
        generalize hH' : (doM H m).1 = H' at *
        generalize hG' : (doM G m).1 = G' at *
        generalize (doM G m).2.1 = rr at *
        generalize (doM G m).2.2.2 = ee at *
        generalize (doM G m).2.2.1 = sn at *
        clear hH' hG'
        unfold OpM.box at HBX HD1 HAL HWA
        have td1 : True := trivial
        go_upto_region 13 with (first
          | (go_at_call 44; have _t := td1; refine HD1.out.mono ?_; rintro e w5 ⟨⟨SA, SC, rfl⟩, hc5, hm5⟩
             have HC5 := Lib.hid hc5
             have hk5 := kept_at hm5 HBX.out (.inl (.inr rfl))
             have HBX5 := Lib.hid hk5
             obtain ⟨d0, d1, d2, d3, d4, d5, d6, d7, d8, d9⟩ := boxC hk5
             clear td1 hc5 hm5 hk5)
          | (go_at_call 44; refine (HD2.out _ HC5.out).mono ?_; rintro e w6 ⟨⟨SB, SD, rfl⟩, hc6, hm6⟩
             have HC6 := Lib.hid hc6
             have HBX6 := Lib.hid (kept_at hm6 HBX5.out (.inl (.inr rfl)))
             clear hc6 hm6))
        have HK6 : Hid (∀ W, Below w6.heap.size w6 W → W.heap[wr.heap.size]? = w6.heap[wr.heap.size]?) := Lib.hid fun W hW => hW.block _ (lt_of_heap HBX6.out)
        obtain ⟨L, hL⟩ : ∃ L, L = allH H' := ⟨_, rfl⟩
        have hL2 : L = allH G' := by rw [hL]; exact HLK.out.all.1
        have hL51 : L.length ≤ 51 := by have := all_len HSUB.out.1; rw [← hL] at this; omega
        have HLL := Lib.hid (And.intro hL hL2)
        have hq1 : ∀ W, Car2 wb ha hb (fun k => False ∨ k = wr.heap.size) H' G' W → Calls Try.prog 40 #[.pointer (some ⟨ha, 0, none⟩)] W (RfPost W L) := fun W c => by rw [hL]; exact c.all HSUB.out.1 (by omega)
        have hq2 : ∀ W, Car2 wb ha hb (fun k => False ∨ k = wr.heap.size) H' G' W → Calls Try.prog 40 #[.pointer (some ⟨hb, 0, none⟩)] W (RfPost W L) := fun W c => by rw [hL2]; exact c.swap.all HSUB.out.2 (by omega)
        have HQ1 := Lib.hid hq1
        have HQ2 := Lib.hid hq2
        have hs0 : (seenH H').2 = [] := by
          have h1 : H'.seen = [] := (HWS.out.1.2 HOF.out.1).trans HOF.out.2
          unfold seenH keysS
          rw [h1]
          simp
        have hq3 : ∀ W, Car2 wb ha hb (fun k => False ∨ k = wr.heap.size) H' G' W → Calls Try.prog 42 #[.pointer (some ⟨ha, 0, none⟩)] W fun e w' => (∃ LA LC, e = .returned (.slice LA 0 LC)) ∧ Car2 wb ha hb (fun k => False ∨ k = wr.heap.size) (seenH H').1 G' w' ∧ Mut (Off wb fun k => False ∨ k = wr.heap.size) W w' := fun W c => (c.seenOp HSUB.out.1 (by omega)).mono fun e w' ⟨⟨LA, LC, h1, _⟩, h2, h3⟩ => ⟨⟨LA, LC, by rw [hs0] at h1; exact h1⟩, h2, h3⟩
        have HQ3 := Lib.hid hq3
        obtain ⟨S, hS⟩ : ∃ S, S = (seenH G').2 := ⟨_, rfl⟩
        have hq4 : ∀ W, Car2 wb ha hb (fun k => False ∨ k = wr.heap.size) (seenH H').1 G' W → Calls Try.prog 42 #[.pointer (some ⟨hb, 0, none⟩)] W fun e w' => (∃ LA LC, e = .returned (.slice LA S.length LC) ∧ w'.ownsRow W.heap.size 26 1 (.slice LA S.length LC) S.length (ints S)) ∧ Car2 wb ha hb (fun k => False ∨ k = wr.heap.size) (seenH H').1 (seenH G').1 w' ∧ Mut (Off wb fun k => False ∨ k = wr.heap.size) W w' ∧ S.length ≤ 1000000 := fun W c => by
          have hlen : S.length ≤ 1000000 := by
            have h1 := (seen_keys HSUB.out.2 (by omega) c.swap.seenNd).2
            rw [hS]
            unfold seenH keysS
            refine Nat.le_trans (List.length_filter_le _ _) ?_
            rw [List.length_mergeSort, List.length_map]
            exact h1
          exact (c.swap.seenOp HSUB.out.2 (by omega)).mono fun e w' ⟨⟨LA, LC, h1, h2⟩, h3, h4⟩ => ⟨⟨LA, LC, by rw [hS]; exact h1, by rw [hS]; exact h2⟩, h3.swap, h4, hlen⟩
        have HQ4 := Lib.hid hq4
        have hsl : Hid (∀ W, Car2 wb ha hb (fun k => False ∨ k = wr.heap.size) (seenH H').1 G' W → S.Pairwise (· ≤ ·) ∧ S.Nodup ∧ (∀ x ∈ S, Mp.get G'.objs x ≠ none) ∧ ∀ x, InM G'.seen x → Mp.get G'.objs x ≠ none → x ∈ S) := Lib.hid fun W c => by rw [hS]; exact seen_list G' c.swap.seenNd
        have ta1 : True := trivial
        have ts1 : True := trivial
        clear hL hL2 hq1 hq2 hq3 hq4 hs0 hS
        go_upto_region 16 with (first
          | (go_at_call 40; have _t := ta1; refine (HQ1.out _ HC6.out).mono ?_; rintro e w7 ⟨LA, LC, rfl, ho, hb7⟩
             have HO7 := Lib.hid (RdI.of_own ho)
             have HC7 := Lib.hid (HC6.out.below hb7)
             have HBX7 := Lib.hid ((HK6.out _ hb7).trans HBX6.out)
             clear ta1 ho hb7)
          | (go_at_call 40; refine (HQ2.out _ HC7.out).mono ?_; rintro e w8 ⟨LB, LD, rfl, ho, hb8⟩
             have HO8 : Hid (RdI w8 LA L ∧ RdI w8 LB L) := Lib.hid ⟨HO7.out.below hb8, RdI.of_own ho⟩
             have HC8 := Lib.hid (HC7.out.below hb8)
             have HBX8 := Lib.hid ((hb8.block _ (lt_of_heap HBX7.out)).trans HBX7.out)
             clear ho hb8)
          | (go_at_call 49; refine (equal_ints (l := L) (l' := L) _ _ HO8.out.1 HO8.out.2 (by omega) (by omega)).mono ?_; rintro e w9 ⟨he, hb9⟩
             rw [decide_eq_true (p := L = L) rfl] at he
             subst he
             have HC9 := Lib.hid (HC8.out.below hb9)
             have HBX9 := Lib.hid ((hb9.block _ (lt_of_heap HBX8.out)).trans HBX8.out)
             clear hb9)
          | (go_at_call 42; have _t := ts1; refine (HQ3.out _ HC9.out).mono ?_; rintro e w10 ⟨⟨LE, LF, rfl⟩, hc10, hm10⟩
             have HC10 := Lib.hid hc10
             have HBX10 := Lib.hid (kept_at hm10 HBX9.out (.inl (.inr rfl)))
             clear ts1 hc10 hm10)
          | (go_at_call 42; refine (HQ4.out _ HC10.out).mono ?_; rintro e w11 ⟨⟨SA', SC', rfl, ho⟩, hc11, hm11, hSl⟩
             have HC11 := Lib.hid hc11
             have hk11 := kept_at hm11 HBX10.out (.inl (.inr rfl))
             have HBX11 := Lib.hid hk11
             have HOS := Lib.hid (ho.mono (Nat.zero_le _))
             have HSP := Lib.hid (hsl.out _ HC10.out)
             clear ho hc11 hm11 hk11))
        have hS1 : S.length ≤ 1000000 := by assumption
        obtain ⟨d0, d1, d2, d3, d4, d5, d6, d7, d8, d9⟩ := boxC HBX11.out
        obtain ⟨K2, hk2, hck⟩ : ∃ K2 : Nat → Prop, (∀ a, SA' = some a → K2 a.block) ∧ Car2 wb ha hb K2 (seenH H').1 (seenH G').1 w11 := ⟨_, fun a ha => .inr ⟨a, ha, rfl⟩, HC11.out.sepRef (P := fun k => ∃ a, SA' = some a ∧ a.block = k) fun k ⟨a, ha, e⟩ => by
          obtain ⟨_, cs, hcs⟩ := own_head HOS.out a ha
          rw [← e]
          exact ⟨cs, _, hcs⟩⟩
        have HK2 := Lib.hid hk2
        have HCK := Lib.hid hck
        clear hk2 hck
        clear d2 d3 d4 d5 d6 d7 d8 d9
        have HG2 : Hid (∀ x, kindH (seenH G').1 x = kindH G' x) := Lib.hid fun _ => rfl
        go_cut [29, 113] from 29 to 163 (fun s29 s113 wc => s29 = .int .i64 j ∧ s113 = .bool false ∧ Hid (Car2 wb ha hb K2 (seenH H').1 (seenH G').1 wc ∧ wc.ownsRow 0 26 1 (.slice SA' S.length SC') S.length (ints S)))
        case first =>
          have HSO1 := Lib.hid (sorted_refs SC' (RdI.of_own HOS.out) (by omega) HSP.out.1)
          by_cases h9 : m.k = 9
          · have hr0 : rr = 0 := Classical.byContradiction fun e => (HMS.out e).2.2 h9
            subst hr0
            rw [h9] at d0
            by_cases he0 : ee = 0
            · have HIN : Hid (m.r ∈ S) := Lib.hid (by obtain ⟨a1, a2⟩ := HHS.out h9 he0; exact HSP.out.2.2.2 _ a1 a2)
              subst he0
              clear h9
              go_wp2_with (first
                | (go_at_call 48; refine HSO1.out.mono ?_; rintro e w12 ⟨rfl, hb12⟩
                   have HC12 := Lib.hid (And.intro (HCK.out.below hb12) (own_below HOS.out hb12))
                   have f0 := keep3 hb12 d0
                   have f1 := keep3 hb12 d1
                   clear hb12)
                | (go_at_call 47; refine (contains_refs SC' (RdI.of_own HC12.out.2) (by omega) HIN.out).mono ?_; rintro e w13 ⟨rfl, hb13⟩
                   have HC13 := Lib.hid (And.intro (HC12.out.1.below hb13) (own_below HC12.out.2 hb13))
                   clear hb13))
              go_meet
              case rel => exact ⟨rfl, rfl, HC13⟩
            · have hen : (ee == 0) = false := by simpa using he0
              clear h9
              go_wp2_with (first
                | (go_at_call 48; refine HSO1.out.mono ?_; rintro e w12 ⟨rfl, hb12⟩
                   have HC12 := Lib.hid (And.intro (HCK.out.below hb12) (own_below HOS.out hb12))
                   have f0 := keep3 hb12 d0
                   have f1 := keep3 hb12 d1
                   clear hb12))
              go_meet
              case rel => exact ⟨rfl, rfl, HC12⟩
          · have h9n : (m.k == 9) = false := by simpa using h9
            by_cases hr0 : rr = 0
            · subst hr0
              go_wp2_with (first
                | (go_at_call 48; refine HSO1.out.mono ?_; rintro e w12 ⟨rfl, hb12⟩
                   have HC12 := Lib.hid (And.intro (HCK.out.below hb12) (own_below HOS.out hb12))
                   have f0 := keep3 hb12 d0
                   have f1 := keep3 hb12 d1
                   clear hb12))
              go_meet
              case rel => exact ⟨rfl, rfl, HC12⟩
            · have hrn : (rr != 0) = !false := by simpa using hr0
              obtain ⟨a1, a2, _⟩ := HMS.out hr0
              have HIN : Hid (rr ∈ S) := Lib.hid (HSP.out.2.2.2 _ a1 a2)
              have hkn : (kindH G' rr != 0) = !false := by simpa using kind_some HSUB.out.2 a2
              have HKD : Hid (∀ W, Car2 wb ha hb K2 (seenH H').1 (seenH G').1 W → Calls Try.prog 37 #[.pointer (some ⟨hb, 0, none⟩), .int .i64 rr] W fun e w' => e = .returned (.int .i64 (kindH G' rr)) ∧ W = w') := Lib.hid fun W c => by rw [← HG2.out]; exact c.swap.kind rr
              generalize kindH G' rr = kd at *
              clear a1 a2
              go_wp2_with (first
                | (go_at_call 48; refine HSO1.out.mono ?_; rintro e w12 ⟨rfl, hb12⟩
                   have HC12 := Lib.hid (And.intro (HCK.out.below hb12) (own_below HOS.out hb12))
                   have f0 := keep3 hb12 d0
                   have f1 := keep3 hb12 d1
                   clear hb12)
                | (go_at_call 37; refine (HKD.out _ HC12.out.1).mono ?_; rintro e w13 ⟨rfl, rfl⟩)
                | (go_at_call 47; refine (contains_refs SC' (RdI.of_own HC12.out.2) (by omega) HIN.out).mono ?_; rintro e w13 ⟨rfl, hb13⟩
                   have HC13 := Lib.hid (And.intro (HC12.out.1.below hb13) (own_below HC12.out.2 hb13))
                   have g0 := keep3 hb13 f0
                   clear hb13))
              go_meet
              case rel => exact ⟨rfl, rfl, HC13⟩
        case rest =>
          obtain ⟨rfl, rfl, HX⟩ := hcut
          have hs0 : (seenH (seenH G').1).2 = [] := by unfold seenH keysS; simp
          have hq5 : ∀ W, Car2 wb ha hb K2 (seenH H').1 (seenH G').1 W → Calls Try.prog 42 #[.pointer (some ⟨hb, 0, none⟩)] W fun e w' => (∃ LA LC, e = .returned (.slice LA 0 LC)) ∧ Car2 wb ha hb K2 (seenH H').1 (seenH (seenH G').1).1 w' ∧ Mut (Off wb K2) W w' := fun W c => (c.swap.seenOp HSUB.out.2.seenOp (by omega)).mono fun e w' ⟨⟨LA, LC, h1, _⟩, h2, h3⟩ => ⟨⟨LA, LC, by rw [hs0] at h1; exact h1⟩, h2.swap, h3⟩
          have HQ5 := Lib.hid hq5
          have HFIN : Hid (∀ W, Car2 wb ha hb K2 (seenH H').1 (seenH (seenH G').1).1 W → Pair wb ha hb (seenH H').1 (seenH (seenH G').1).1 (j + 1) W) := Lib.hid fun W c => ⟨c.forget fun k h => h.elim, HSUB.out.1.seenOp, HSUB.out.2.seenOp.seenOp, HLK.out, ⟨HWS.out.1.1.trans HOF.out.1, rfl⟩, ⟨HWS.out.2.1.trans HON.out.1, rfl⟩⟩
          have HKND : Hid (∀ x, kindH (seenH (seenH G').1).1 x = kindH G' x) := Lib.hid fun _ => rfl
          clear hq5 hs0 d0 d1
          go_wp2_with (first
            | (go_at_call 51; refine (clone_refs HX.out.2 (by omega)).mono ?_; rintro e w14 ⟨A14, C14, rfl, ho14, hb14⟩
               have HC14 := Lib.hid (And.intro (HX.out.1.below hb14) (own_below HX.out.2 hb14))
               have HO14 := Lib.hid (RdI.of_own ho14)
               clear ho14 hb14)
            | (go_at_call 50; refine (compact_refs C14 HO14.out (by omega) HSP.out.2.1).mono ?_; rintro e w15 ⟨rfl, hb15⟩
               have HC15 := Lib.hid (And.intro (HC14.out.1.below hb15) (own_below HC14.out.2 hb15))
               clear hb15)
            | (go_at_call 42; refine (HQ5.out _ HC15.out.1).mono ?_; rintro e w16 ⟨⟨LG, LI, rfl⟩, hc16, hm16⟩
               have HC16 := Lib.hid hc16
               have HRS16 : Hid (RdI w16 SA' S) := Lib.hid ((RdI.of_own HC15.out.2).mut hm16 fun a ha e => e.2 (HK2.out a ha))
               clear hc16 hm16))
          have HRS := Lib.hid HSP.out.2.2.1
          clear HX HQ3 HQ4 HQ5 HO7 HO8 HC7 HC8 HC9 HC10 HCK HC14
          go_loopw [129] (fun p wi => ∃ (i : Nat), i ≤ S.length ∧ p = .int .i64 i ∧ Hid (Below w16.heap.size w16 wi)) (fun i _ => S.length - (intOf i).toNat)
          case atStart => exact ⟨0, Nat.zero_le _, rfl, Lib.hid (Below.refl _ _)⟩
          case round =>
            obtain ⟨i, hi, rfl, HBi⟩ := hrel
            by_cases hlt2 : i < S.length
            · obtain ⟨g2, o2, hA2, hg2, d0⟩ := HRS16.out.below HBi.out i hlt2
              have k0 : (0 : Int) ≤ (i : Int) := by omega
              have k1 : (i : Int) < (S.length : Int) := by omega
              have hex := HRS.out _ (List.getElem_mem hlt2)
              have HAE2 := Lib.hid hA2
              rw [hA2]
              clear hA2
              generalize S[i]'hlt2 = x at *
              have hkn : (kindH G' x == 0) = false := by simpa using kind_some HSUB.out.2 hex
              have HKD : Hid (Calls Try.prog 37 #[.pointer (some ⟨hb, 0, none⟩), .int .i64 x] wr fun e w' => e = .returned (.int .i64 (kindH G' x)) ∧ wr = w') := Lib.hid (by rw [← HKND.out]; exact (HC16.out.below HBi.out).swap.kind x)
              generalize kindH G' x = kd at *
              clear hex
              go_wp2_with (go_at_call 37; refine HKD.out.mono ?_; rintro e w17 ⟨rfl, rfl⟩)
              go_roundw
              case rel => (try rw [← HAE2.out]); (try rw [← HAE.out]); exact ⟨i + 1, by omega, by go_num, HBi⟩
              case measure => simp [intOf]; omega
            · obtain rfl : i = S.length := by omega
              clear hlt2 hi
              have HCi := Lib.hid (HC16.out.below HBi.out)
              have HQA : Hid (Calls Try.prog 40 #[.pointer (some ⟨ha, 0, none⟩)] wr (RfPost wr L)) := Lib.hid (by rw [HLL.out.1]; exact HCi.out.all HSUB.out.1.seenOp (by omega))
              go_wp2_with (go_at_call 40; refine HQA.out.mono ?_; rintro e w18 ⟨LH, LK, rfl, ho18, hb18⟩
                           have HC18 := Lib.hid (HCi.out.below hb18)
                           have HR18 := Lib.hid (RdI.of_own ho18)
                           clear ho18 hb18)
              go_loopw [141] (fun p wi => ∃ (i : Nat), i ≤ L.length ∧ p = .int .i64 i ∧ Hid (Below w18.heap.size w18 wi)) (fun i _ => L.length - (intOf i).toNat)
              case atStart => exact ⟨0, Nat.zero_le _, rfl, Lib.hid (Below.refl _ _)⟩
              case round =>
                obtain ⟨i, hi, rfl, HBj⟩ := hrel
                by_cases hlt3 : i < L.length
                · obtain ⟨g3, o3, hA3, hg3, d0⟩ := HR18.out.below HBj.out i hlt3
                  have k0 : (0 : Int) ≤ (i : Int) := by omega
                  have k1 : (i : Int) < (L.length : Int) := by omega
                  have HAE3 := Lib.hid hA3
                  rw [hA3]
                  clear hA3
                  generalize L[i]'hlt3 = x at *
                  obtain ⟨cx, hcx⟩ : ∃ c, c = countH H' x := ⟨_, rfl⟩
                  obtain ⟨R, hR⟩ : ∃ R, R = refsH H' x := ⟨_, rfl⟩
                  have hcx2 : cx = countH G' x := by rw [hcx]; exact HLK.out.all.2.1 x
                  have hR2 : R = refsH G' x := by rw [hR]; exact HLK.out.all.2.2 x
                  have hR9 : R.length ≤ 40000001 := by have h1 := refs_len HSUB.out.1 x; have h2 := HSUB.out.1.mu4 (by omega); rw [← hR] at h1; omega
                  have HQC1 : Hid (∀ W, Below w18.heap.size w18 W → Calls Try.prog 39 #[.pointer (some ⟨ha, 0, none⟩), .int .i64 x] W fun e w' => e = .returned (.int .i64 cx) ∧ Below W.heap.size W w') := Lib.hid fun W hW => by rw [hcx]; exact (HC18.out.below hW).count HSUB.out.1.seenOp (by omega) x
                  have HQC2 : Hid (∀ W, Below w18.heap.size w18 W → Calls Try.prog 39 #[.pointer (some ⟨hb, 0, none⟩), .int .i64 x] W fun e w' => e = .returned (.int .i64 cx) ∧ Below W.heap.size W w') := Lib.hid fun W hW => by rw [hcx2]; exact (HC18.out.below hW).swap.count HSUB.out.2.seenOp.seenOp (by omega) x
                  have HQR1 : Hid (∀ W, Below w18.heap.size w18 W → Calls Try.prog 41 #[.pointer (some ⟨ha, 0, none⟩), .int .i64 x] W (RfPost W R)) := Lib.hid fun W hW => by rw [hR]; exact (HC18.out.below hW).refs HSUB.out.1.seenOp (by omega) x
                  have HQR2 : Hid (∀ W, Below w18.heap.size w18 W → Calls Try.prog 41 #[.pointer (some ⟨hb, 0, none⟩), .int .i64 x] W (RfPost W R)) := Lib.hid fun W hW => by rw [hR2]; exact (HC18.out.below hW).swap.refs HSUB.out.2.seenOp.seenOp (by omega) x
                  have tk1 : True := trivial
                  have tr1 : True := trivial
                  clear hcx hcx2 hR hR2
                  go_wp2_with (first
                    | (go_at_call 39; have _t := tk1; refine (HQC1.out _ HBj.out).mono ?_; rintro e w20 ⟨rfl, hb20⟩
                       have HB20 := Lib.hid (HBj.out.step2 hb20)
                       clear tk1 hb20)
                    | (go_at_call 39; refine (HQC2.out _ HB20.out).mono ?_; rintro e w21 ⟨rfl, hb21⟩
                       have HB21 := Lib.hid (HB20.out.step2 hb21)
                       clear hb21)
                    | (go_at_call 41; have _t := tr1; refine (HQR1.out _ HB21.out).mono ?_; rintro e w22 ⟨RA, RB, rfl, ho22, hb22⟩
                       have HB22 := Lib.hid (HB21.out.step2 hb22)
                       have HO22 := Lib.hid (RdI.of_own ho22)
                       clear tr1 ho22 hb22)
                    | (go_at_call 41; refine (HQR2.out _ HB22.out).mono ?_; rintro e w23 ⟨RC, RD, rfl, ho23, hb23⟩
                       have HB23 := Lib.hid (HB22.out.step2 hb23)
                       have HO23 := Lib.hid (And.intro (HO22.out.below hb23) (RdI.of_own ho23))
                       clear ho23 hb23)
                    | (go_at_call 49; refine (equal_ints (l := R) (l' := R) _ _ HO23.out.1 HO23.out.2 (by omega) (by omega)).mono ?_; rintro e w24 ⟨he, hb24⟩
                       rw [decide_eq_true (p := R = R) rfl] at he
                       subst he
                       have HB24 := Lib.hid (HB23.out.step2 hb24)
                       clear hb24))
                  go_roundw
                  case rel => (try rw [← HAE3.out]); (try rw [← HAE.out]); exact ⟨i + 1, by omega, by go_num, HB24⟩
                  case measure => simp [intOf]; omega
                · obtain rfl : i = L.length := by omega
                  clear hlt3 hi
                  go_wp2
                  go_roundw
                  case rel => (try rw [← HAE.out]); exact ⟨j + 1, _, _, by omega, by go_num, Lib.hid (HFIN.out _ (HC18.out.below HBj.out))⟩
                  case measure => simp [intOf]; omega
      · obtain rfl : j = l.length := by omega
        clear hlt hj
        go_wp2
        go_ret
        exact ⟨rfl, HB1.out.step2 HP.out.car.bel⟩
end Go.Proofs.Ytodfpclekihbhaa

