/- HeapEnds: when all objects are cleared and nothing is held any more, nothing is left. -/
import Derived.Test.YtodfpclekihbhaaG21
import Derived.Test.YtodfpclekihbhaaG08
namespace Go.Proofs.Ytodfpclekihbhaa
open Go.RowKit Go.Shelf

/-- A call of a law, at its box. -/
theorem do_box {w0 w : World} {hb : Nat} {K : Nat → Prop} {H : Hp} {N : Nat} (c : Car w0 hb K H w) (ok : Ok H N) (hN : N ≤ 900) (o : OpM) (hr : OpRd w o) (hs : OpSm o) :
    Calls Try.prog 44 #[.pointer (some ⟨hb, 0, none⟩), .agg #[.int .i64 o.k, .int .i64 o.r, .int .i64 o.x, .int .i64 o.a, .int .i64 o.b, .string o.tx, .int .i64 o.cls, .slice o.ra o.refs.length o.rC, .slice o.wa o.words.length o.wC, .bool o.on]] w (DoPost w0 w hb K N) := do_calls c ok hN o hr hs
theorem holds_sub {H G : Hp} (s : Sub H G) {x : Int} (h : holdsH H x ≤ 0) : holdsH G x ≤ 0 := by
  unfold holdsH at *
  cases hg : Mp.get G.objs x with
  | none => exact Int.le_refl _
  | some o =>
    obtain ⟨o0, h0, _, _, _, _, _, _, a⟩ := s.obj x o hg
    rw [h0] at h
    have h : o0.holds ≤ 0 := h
    show o.holds ≤ 0
    omega
theorem sub_some {H G : Hp} (s : Sub H G) {x : Int} (h : Mp.get G.objs x ≠ none) : Mp.get H.objs x ≠ none := by
  cases hg : Mp.get G.objs x with
  | none => exact absurd hg h
  | some o => obtain ⟨o0, h0, _⟩ := s.obj x o hg; rw [h0]; simp
theorem flat_all {H G : Hp} {L : List Int} (hL : L = allH H) (s : Sub H G) (h : ∀ x ∈ L, Flat G x) (r : Int) : Flat G r := fun o ho =>
  h r (by rw [hL]; exact (mem_all H r).2 (sub_some s (by rw [ho]; simp))) o ho
theorem holds_all {H G : Hp} {L : List Int} (hL : L = allH H) (s : Sub H G) (h : ∀ x ∈ L, holdsH G x ≤ 0) (r : Int) : holdsH G r ≤ 0 := by
  cases hg : Mp.get G.objs r with
  | none => unfold holdsH; rw [hg]; exact Int.le_refl _
  | some o => exact h r (by rw [hL]; exact (mem_all H r).2 (sub_some s (by rw [hg]; simp)))
set_option maxRecDepth 100000 in
set_option maxHeartbeats 8000000 in
theorem law_ends {w : World} {A : Option Addr} (C : Nat) {l : List OpM} (h : OpsAt w A l) (hn : l.length ≤ 9223372036854775807) :
    Calls Try.prog 6 #[.slice A l.length C] w fun e w' => e = .returned (.bool true) ∧ Below w.heap.size w w' := by
  have HL := Lib.hid h
  have HN := Lib.hid hn
  clear h hn
  go_enter Try.func6, Try.ntmps6
  go_wp2_with (first
    | (go_at_call 11; refine (awake17 w).mono ?_; rintro e wa ⟨rfl, hb⟩
       have HB0 := Lib.hid hb
       clear hb)
    | (go_at_call 43; refine (small_calls C (HL.out.below HB0.out) HN.out).mono ?_; rintro e wb ⟨⟨sb, rfl, hs⟩, hb⟩
       have HS := Lib.hid hs
       have HB1 := Lib.hid (HB0.out.step2 hb)
       clear hs hb)
    | (go_at_call 12; refine (new_car wb).mono ?_; rintro e w1 ⟨hb, rfl, hc⟩
       have HC := Lib.hid hc
       clear hc))
  · go_ret
    exact ⟨rfl, HB1.out⟩
  · have hl50 : l.length ≤ 50 := (HS.out (by have hh := ‹(!sb) = false›; simpa using hh)).1
    have HSM : Hid (∀ j (h : j < l.length), OpSm (l[j]'h)) := Lib.hid (HS.out (by have hh := ‹(!sb) = false›; simpa using hh)).2
    have HLB : Hid (OpsAt wb A l) := Lib.hid (HL.out.below HB1.out)
    clear HS HL HN
    go_loopw [19] (fun p wr => ∃ (j : Nat) (H : Hp), j ≤ l.length ∧ p = .int .i64 j ∧ Hid (Car wb hb (fun _ => False) H wr ∧ Ok H j)) (fun i _ => l.length - (intOf i).toNat)
    case atStart => exact ⟨0, emptyH, Nat.zero_le _, rfl, Lib.hid ⟨HC.out, Ok.empty⟩⟩
    case round =>
      obtain ⟨j, H, hj, rfl, HH⟩ := hrel
      by_cases hlt : j < l.length
      · obtain ⟨hr, g, o, hA, hc⟩ := HLB.out.below HH.out.1.bel j hlt
        have HM : Hid (OpRd wr (l[j]'hlt) ∧ OpSm (l[j]'hlt)) := Lib.hid ⟨hr, HSM.out j hlt⟩
        have q0 : (0 : Int) ≤ (j : Int) := by omega
        have q1 : (j : Int) < (l.length : Int) := by omega
        rw [hA]
        clear hA hr
        generalize l[j]'hlt = m at *
        obtain ⟨hg, c0, c1, c2, c3, c4, c5, c6, c7, c8, c9⟩ := hc
        have hal : Below wr.heap.size wr (wr.alloc (.cells m.box 76)) := (Below.refl _ _).alloc (Nat.le_refl _) _
        have HD := Lib.hid (do_box (HH.out.1.below hal) HH.out.2 (by omega) m (HM.out.1.below hal) HM.out.2)
        unfold OpM.box at HD
        clear hal
        go_wp2_with (go_at_call 44; refine HD.out.mono ?_; rintro e w3 ⟨⟨v, rfl⟩, H', hc3, hok3⟩
                     have H3 := Lib.hid (And.intro hc3.1 hok3)
                     clear hc3 hok3)
        go_roundw
        case rel => exact ⟨j + 1, H', by omega, by go_num, H3⟩
        case measure => simp [intOf]; omega
      · obtain rfl : j = l.length := by omega
        clear hlt hj HLB HSM HC
        obtain ⟨L, hL⟩ : ∃ L, L = allH H := ⟨_, rfl⟩
        have hq := HH.out.1.all HH.out.2 (by omega)
        rw [← hL] at hq
        have HQ := Lib.hid hq
        have hL50 : L.length ≤ 50 := by have := all_len HH.out.2; rw [← hL] at this; omega
        have HLE := Lib.hid hL
        clear hq hL
        go_wp2_with (go_at_call 40; refine HQ.out.mono ?_; rintro e w4 ⟨LA, LC, rfl, ho, hb1⟩
                     have H4 := Lib.hid (CarL.of HH.out.1 HH.out.2 ho hb1)
                     clear ho hb1)
        go_loopw [30] (fun p wr => ∃ (j : Nat) (G : Hp), j ≤ L.length ∧ p = .int .i64 j ∧ Hid (CarL wb hb (fun _ => False) G l.length LA L wr ∧ Sub H G ∧ ∀ x ∈ L.take j, Flat G x)) (fun i _ => L.length - (intOf i).toNat)
        case atStart => exact ⟨0, H, Nat.zero_le _, rfl, Lib.hid ⟨H4.out, Sub.refl H, fun x hx => by simp at hx⟩⟩
        case round =>
          obtain ⟨j, G, hj, rfl, HG⟩ := hrel
          by_cases hlt : j < L.length
          · obtain ⟨g, o, hA, hg, c0⟩ := HG.out.1.rd j hlt
            have q0 : (0 : Int) ≤ (j : Int) := by omega
            have q1 : (j : Int) < (L.length : Int) := by omega
            have HX : Hid (∀ G', Sub G G' → RowSub G G' → Flat G' (L[j]'hlt) → ∀ x ∈ L.take (j + 1), Flat G' x) := Lib.hid fun G' s t f => take_mem hlt (fun x hx => (HG.out.2.2 x hx).sub s t) f
            generalize L[j]'hlt = r at *
            have HAE := Lib.hid hA
            rw [hA]
            obtain ⟨f1, f2, f3, f4⟩ := clear_flat HG.out.1.ok r
            have HY : Hid (Sub H (clearH G r).1 ∧ ∀ x ∈ L.take (j + 1), Flat (clearH G r).1 x) := Lib.hid ⟨HG.out.2.1.trans f1, HX.out _ f1 f2 f3⟩
            have hq := HG.out.1.car.clear HG.out.1.ok (by omega) r
            clear hA f1 f2 f3 HX
            rcases f4 with f4 | f4
            all_goals (
              rw [f4] at hq
              have HQ := Lib.hid hq
              clear hq f4
              go_wp2_with (go_at_call 33; refine HQ.out.mono ?_; rintro e w5 ⟨rfl, hc5⟩
                           have H5 := Lib.hid (HG.out.1.next hc5 (HG.out.1.ok.clear r))
                           clear hc5)
              go_roundw
              case rel => rw [← HAE.out]; exact ⟨j + 1, (clearH G r).1, by omega, by go_num, Lib.hid ⟨H5.out, HY.out.1, HY.out.2⟩⟩
              case measure => simp [intOf]; omega)
          · obtain rfl : j = L.length := by omega
            clear hlt hj H4 HH
            have hfl : ∀ r, Flat G r := flat_all HLE.out HG.out.2.1 (by have := HG.out.2.2; rwa [List.take_length] at this)
            have HFL := Lib.hid hfl
            have HCA : Hid (Car wb hb (fun _ => False) G wr ∧ Ok G l.length) := Lib.hid ⟨HG.out.1.car.forget fun k h => h.elim, HG.out.1.ok⟩
            obtain ⟨L2, hL2⟩ : ∃ L2, L2 = allH G := ⟨_, rfl⟩
            have hq := HCA.out.1.all HCA.out.2 (by omega)
            rw [← hL2] at hq
            have HQ2 := Lib.hid hq
            have hL250 : L2.length ≤ 50 := by have := all_len HCA.out.2; rw [← hL2] at this; omega
            have HLE2 := Lib.hid hL2
            clear hq hL2 hfl HG HLE
            go_wp2_with (go_at_call 40; refine HQ2.out.mono ?_; rintro e w6 ⟨LB, LD, rfl, ho, hb1⟩
                         have H6 := Lib.hid (CarL.of HCA.out.1 HCA.out.2 ho hb1)
                         clear ho hb1)
            go_loopw [47] (fun p wr => ∃ (j : Nat) (F : Hp), j ≤ L2.length ∧ p = .int .i64 j ∧ Hid (CarL wb hb (fun _ => False) F l.length LB L2 wr ∧ (∀ r, Flat F r) ∧ Sub G F ∧ ∀ x ∈ L2.take j, holdsH F x ≤ 0)) (fun i _ => L2.length - (intOf i).toNat)
            case atStart => exact ⟨0, G, Nat.zero_le _, rfl, Lib.hid ⟨H6.out, HFL.out, Sub.refl G, fun x hx => by simp at hx⟩⟩
            case round =>
              obtain ⟨j, F, hj, rfl, HF⟩ := hrel
              by_cases hlt : j < L2.length
              · obtain ⟨g, o, hA, hg, c0⟩ := HF.out.1.rd j hlt
                have q0 : (0 : Int) ≤ (j : Int) := by omega
                have q1 : (j : Int) < (L2.length : Int) := by omega
                have HX : Hid (∀ F', Sub F F' → holdsH F' (L2[j]'hlt) ≤ 0 → ∀ x ∈ L2.take (j + 1), holdsH F' x ≤ 0) := Lib.hid fun F' s f => take_mem hlt (fun x hx => holds_sub s (HF.out.2.2.2 x hx)) f
                generalize L2[j]'hlt = r at *
                have HAE := Lib.hid hA
                rw [hA]
                clear hA
                go_wp2
                go_loopg [] ((holdsH F r).toNat) (fun k wi => ∃ E : Hp, Hid ((holdsH E r).toNat = k) ∧ Hid (CarL wb hb (fun _ => False) E l.length LB L2 wi ∧ (∀ r, Flat E r) ∧ Sub F E))
                case atStart => exact ⟨F, Lib.hid rfl, Lib.hid ⟨HF.out.1, HF.out.2.1, Sub.refl F⟩⟩
                case round =>
                  obtain ⟨E, HK, HE⟩ := hrel
                  have HH1 := Lib.hid (HE.out.1.car.holds r)
                  by_cases hp : 0 < holdsH E r
                  · obtain ⟨f1, f2, f3, f4⟩ := drop_flat HE.out.1.ok r hp
                    have hq := HE.out.1.car.drop HE.out.1.ok (by omega) r
                    rw [f4] at hq
                    have HQ3 := Lib.hid hq
                    have HF3 := Lib.hid f3
                    have HY : Hid ((∀ r', Flat (dropH E r).1 r') ∧ Sub F (dropH E r).1) := Lib.hid ⟨fun r' => (HE.out.2.1 r').sub f1 f2, HE.out.2.2.trans f1⟩
                    clear hq f1 f2 f3 f4
                    generalize holdsH E r = v at *
                    go_wp2_with (first
                      | (go_at_call 38; refine HH1.out.mono ?_; rintro e w7 ⟨rfl, rfl⟩)
                      | (go_at_call 35; refine HQ3.out.mono ?_; rintro e w8 ⟨rfl, hc8⟩
                         have H8 := Lib.hid (HE.out.1.next hc8 (HE.out.1.ok.drop r))
                         clear hc8))
                    go_roundg ((holdsH (dropH E r).1 r).toNat)
                    case rel => exact ⟨(dropH E r).1, Lib.hid rfl, Lib.hid ⟨H8.out, HY.out.1, HY.out.2⟩⟩
                    case measure => have h1 := HK.out; have h2 := HF3.out; omega
                  · have HZ : Hid (∀ x ∈ L2.take (j + 1), holdsH E x ≤ 0) := Lib.hid (HX.out E HE.out.2.2 (by omega))
                    have hp2 : decide (0 < holdsH E r) = false := decide_eq_false hp
                    have HP := Lib.hid hp
                    clear hp
                    generalize hv : holdsH E r = v at *
                    clear hv
                    go_wp2_with (go_at_call 38; refine HH1.out.mono ?_; rintro e w7 ⟨rfl, rfl⟩)
                    go_roundw
                    case rel => rw [← HAE.out]; exact ⟨j + 1, E, by omega, by go_num, Lib.hid ⟨HE.out.1, HE.out.2.1, HF.out.2.2.1.trans HE.out.2.2, HZ.out⟩⟩
                    case measure => simp [intOf]; omega
              · obtain rfl : j = L2.length := by omega
                clear hlt hj H6
                have hnil := ends_nil HF.out.1.ok HF.out.2.1 (holds_all HLE2.out HF.out.2.2.1 (by have := HF.out.2.2.2; rwa [List.take_length] at this))
                have hq := HF.out.1.car.all HF.out.1.ok (by omega)
                rw [hnil] at hq
                have HQ4 : Hid (Calls Try.prog 40 #[.pointer (some ⟨hb, 0, none⟩)] wr fun e w' => (∃ LE LF, e = .returned (.slice LE 0 LF)) ∧ Below wr.heap.size wr w') := Lib.hid (hq.mono fun e w' ⟨LE, LF, h1, _, h2⟩ => ⟨⟨LE, LF, h1⟩, h2⟩)
                clear hq hnil
                go_wp2_with (go_at_call 40; refine HQ4.out.mono ?_; rintro e w9 ⟨⟨LE, LF, rfl⟩, hb9⟩
                             have HB9 := Lib.hid hb9
                             clear hb9)
                go_ret
                exact ⟨rfl, HB1.out.step2 (HF.out.1.car.bel.trans (HB9.out.mono HF.out.1.car.bel.size))⟩
end Go.Proofs.Ytodfpclekihbhaa

