/- RegexLongest: the walk. -/
import Derived.Test.YtcajnmhbkjngbaaG22
import Derived.Test.YtcajnmhbkjngbaaG16
namespace Go.Proofs.Ytcajnmhbkjngbaa
open Go.RowKit Go.Shelf
set_option maxRecDepth 100000

theorem scanL_byte (s : ByteArray) (c : Int) (h1 : c < 128) : ∀ (f i : Nat) (p : Nat × Int), p ∈ scanL s f i → p.2 = c → ∃ b ∈ s.data.toList, (b.toNat : Int) = c
  | 0, i, p, h, _ => by cases h
  | f + 1, i, p, h, hc => by
    unfold scanL at h
    split at h
    · rename_i hi
      rcases List.mem_cons.1 h with rfl | h
      · by_cases ha : (s[i]'hi).toNat < 128
        · rw [Go.decode_ascii s i hi ha] at hc
          refine ⟨s[i]'hi, ?_, hc⟩
          have : s[i]'hi = s.data[i]'hi := rfl
          rw [this]
          exact Array.getElem_mem_toList hi
        · have := (decode_high s i hi (by omega)).1
          simp only at hc
          omega
      · exact scanL_byte s c h1 f _ p h hc
    · cases h
theorem charsS_byte {s : ByteArray} {c : UInt8} (hc : c.toNat < 128) (h : hasB s c = false) : ∀ x ∈ charsS s, x ≠ (c.toNat : Int) := fun x hx e => by
  obtain ⟨p, hp, rfl⟩ := List.mem_map.1 hx
  obtain ⟨b, hb, he⟩ := scanL_byte s (c.toNat : Int) (by omega) _ _ p hp e
  have : b = c := by
    apply UInt8.toNat_inj.1
    omega
  subst this
  have := hasB_iff.2 hb
  rw [h] at this
  cases this
/-- What Compile answers to a text that is wrong. -/
theorem compile_bad {s : ByteArray} {q c : Int} (hc : compM s = .inl (q, c)) (W : World) : Calls Try.prog 20 #[.string s] W fun e w' => e = .returned (.tuple #[.pointer none, .agg #[.int .i64 q, .int .i64 c]]) ∧ Below W.heap.size W w' :=
  (compile_calls s W).mono fun e w' ⟨hb, h⟩ => by
    rw [hc] at h
    exact ⟨h, hb⟩
theorem compM_code {s : ByteArray} {q c : Int} (hc : compM s = .inl (q, c)) : c ≠ 0 := by
  unfold compM at hc
  split at hc
  · cases hc; decide
  · split at hc
    · rename_i hp; cases hc; exact pAll_code hp
    · cases hc
theorem compM_ok {s : ByteArray} {l : List Nd} {t : Nat} (hc : compM s = .inr (l, t)) : ∃ j, pAll (charsS s) = .ok l j t := by
  unfold compM at hc
  split at hc
  · cases hc
  · split at hc
    · cases hc
    · rename_i hp; cases hc; exact ⟨_, hp⟩
theorem compM_un {s : ByteArray} {l : List Nd} {t : Nat} (hc : compM s = .inr (l, t)) (h1 : hasB s 94 = false) (h2 : hasB s 36 = false) : Un (.alt l) := by
  obtain ⟨j, hp⟩ := compM_ok hc
  exact pAll_un (fun c hc => ⟨charsS_byte (c := 94) (by decide) h1 c hc, charsS_byte (c := 36) (by decide) h2 c hc⟩) hp
/-- What the law keeps. -/
structure LW (w W : World) (rb : Nat) (p : ByteArray) (n : Nd) (t : Nat) (xb mb : Nat) (str : ByteArray) (wide : Bool) (m : Option (Nat × Nat)) : Prop where
  r : Rg W rb p n t
  x : W.heap[xb]? = some (.cells #[.string str, .bool wide] 39 (0, 0))
  m : W.heap[mb]? = some (.cells #[.int .i64 ((findV m).1 : Nat), .int .i64 ((findV m).2.1 : Nat)] 43 (0, 0))
  b : Below w.heap.size w W
theorem LW.below {w W W' : World} {rb : Nat} {p : ByteArray} {n : Nd} {t : Nat} {xb mb : Nat} {str : ByteArray} {wide : Bool} {m : Option (Nat × Nat)} (h : LW w W rb p n t xb mb str wide m) (hb : Below W.heap.size W W') : LW w W' rb p n t xb mb str wide m :=
  ⟨h.r.below hb, (hb.block _ (lt_of_heap h.x)).trans h.x, (hb.block _ (lt_of_heap h.m)).trans h.m, h.b.trans (hb.mono h.b.size)⟩
set_option maxHeartbeats 4000000 in
theorem law_longest (p s : ByteArray) (w : World) : Calls Try.prog 8 #[.string p, .string s] w fun e w' => e = .returned (.bool true) ∧ Below w.heap.size w w' := by
  have HAW := fun W => Lib.hid (awake37 W)
  have HSM := fun W => Lib.hid (small_is p s W)
  have HAN := fun W => Lib.hid (anchored_is p W)
  by_cases hsm : (decide (p.size ≤ 200) && decide (s.size ≤ 60)) = true
  · rw [hsm] at HSM
    have HSZ : Hid (p.size ≤ 200 ∧ s.size ≤ 60) := Lib.hid (by simpa using hsm)
    clear hsm
    by_cases han : (hasB p 94 || hasB p 36) = true
    · rw [han] at HAN
      clear han
      go_enter Try.func8, Try.ntmps8
      go_wp2_with (first
        | (go_at_call 10; refine (HAW _).out.mono ?_; rintro e w1 ⟨rfl, hb⟩; have HB1 := Lib.hid hb; clear hb)
        | (go_at_call 11; refine (HSM _).out.mono ?_; rintro e w2 ⟨rfl, rfl⟩)
        | (go_at_call 31; refine (HAN _).out.mono ?_; rintro e w2 ⟨rfl, rfl⟩))
      go_ret
      exact ⟨rfl, HB1.out⟩
    · have hn : (hasB p 94 || hasB p 36) = false := by simpa using han
      rw [hn] at HAN
      have HNB : Hid (hasB p 94 = false ∧ hasB p 36 = false) := Lib.hid (by simpa using hn)
      clear han hn
      cases hcm : compM p with
      | inl q =>
        obtain ⟨q, c⟩ := q
        have HCO := fun W => Lib.hid (compile_bad hcm W)
        have hc0 : (c != 0) = true := by simpa using compM_code hcm
        clear hcm
        go_enter Try.func8, Try.ntmps8
        go_wp2_with (first
          | (go_at_call 10; refine (HAW _).out.mono ?_; rintro e w1 ⟨rfl, hb⟩; have HB1 := Lib.hid hb; clear hb)
          | (go_at_call 11; refine (HSM _).out.mono ?_; rintro e w2 ⟨rfl, rfl⟩)
          | (go_at_call 31; refine (HAN _).out.mono ?_; rintro e w2 ⟨rfl, rfl⟩)
          | (go_at_call 20; refine (HCO _).out.mono ?_; rintro e w3 ⟨rfl, hb⟩; have HB3 := Lib.hid (HB1.out.trans (hb.mono HB1.out.size)); clear hb))
        go_ret
        exact ⟨rfl, HB3.out.alloc HB3.out.size _⟩
      | inr lt =>
        obtain ⟨L, t⟩ := lt
        have HCO := fun W => Lib.hid (compile_ok hcm W)
        have HUN := Lib.hid (compM_un hcm HNB.out.1 HNB.out.2)
        have HOF := fun W => Lib.hid (of_law (s := s) (by have := HSZ.out; omega) W)
        have HCH := Lib.hid (chOk_runes s)
        have hll : (runesL s).length ≤ 60 := by have h1 := runesL_len s; have h2 := HSZ.out; omega
        generalize runesL s = l at *
        generalize Nd.alt L = n at *
        clear hcm
        go_enter Try.func8, Try.ntmps8
        go_upto_region 4 with (first
          | (go_at_call 10; refine (HAW _).out.mono ?_; rintro e w1 ⟨rfl, hb⟩; have HB1 := Lib.hid hb; clear hb)
          | (go_at_call 11; refine (HSM _).out.mono ?_; rintro e w2 ⟨rfl, rfl⟩)
          | (go_at_call 31; refine (HAN _).out.mono ?_; rintro e w2 ⟨rfl, rfl⟩)
          | (go_at_call 20; refine (HCO _).out.mono ?_; rintro e w3 ⟨⟨rb, rfl, hr⟩, hb⟩; have HR3 := Lib.hid (And.intro hr (HB1.out.trans (hb.mono HB1.out.size))); clear hb hr))
        have hb4 : Below w3.heap.size w3 (w3.alloc (.cells #[.int .i64 0, .int .i64 0] 30)) := (Below.refl _ _).alloc (Nat.le_refl _) _
        have HR4 : Hid (Rg (w3.alloc (.cells #[.int .i64 0, .int .i64 0] 30)) rb p n t ∧ Below w.heap.size w (w3.alloc (.cells #[.int .i64 0, .int .i64 0] 30))) := Lib.hid ⟨HR3.out.1.below hb4, HR3.out.2.trans (hb4.mono HR3.out.2.size)⟩
        clear hb4 HR3
        generalize (w3.alloc (.cells #[.int .i64 0, .int .i64 0] 30)) = w4 at *
        have HFI : ∀ W, Rg W rb p n t → Hid (Calls Try.prog 18 #[.pointer (some ⟨rb, 0, none⟩), strV l, .int .i64 0] W fun e w' => (∃ m, First l n 0 m ∧ e = findE m 0) ∧ Below W.heap.size W w') := fun W hr => Lib.hid (find_in hr HCH.out (by omega) 0 (Nat.zero_le _))
        have HWH : ∀ W (a b : Nat), a ≤ b → b ≤ l.length → Rg W rb p n t → Hid (Calls Try.prog 15 #[.pointer (some ⟨rb, 0, none⟩), strV (partL l a b)] W fun e w' => (∃ v : Bool, e = .returned (.bool v) ∧ (v = true ↔ Mt l n a b)) ∧ Below W.heap.size W w') := fun W a b h1 h2 hr => Lib.hid ((whole_is hr (HCH.out.part a b) (by rw [len_partL h2]; omega)).mono fun e w' ⟨⟨v, h3, h4⟩, h5⟩ => ⟨⟨v, h3, by rw [h4, part_iff HUN.out h1 h2]⟩, h5⟩)
        have HLEN := fun W => Lib.hid (len_is l (by omega) W)
        have HSL := fun a b h1 h2 W => Lib.hid (slice_is l HCH.out (by omega) a b h1 h2 W)
        unfold strV at HFI HLEN HSL HOF HWH
        generalize (packV l).1 = str at *
        generalize (packV l).2 = wide at *
        go_upto_region 6 with (first
          | (go_at_call 18
             refine (HFI _ HX.out.1).out.mono ?_
             rintro e w6 ⟨⟨m, hm, he⟩, hb⟩
             unfold findE at he
             subst he
             have HFM := Lib.hid hm
             have HX6 := Lib.hid (And.intro (HX.out.1.below hb) (And.intro ((hb.block _ (lt_of_heap HX.out.2.1)).trans HX.out.2.1) (HX.out.2.2.trans (hb.mono HX.out.2.2.size))))
             clear hm hb)
          | (go_at_call 16; refine (HOF _).out.mono ?_; rintro e w5 ⟨rfl, hb⟩; 
             have hb5 : Below w5.heap.size w5 (w5.alloc (.cells #[.string str, .bool wide] 39)) := (Below.refl _ _).alloc (Nat.le_refl _) _
             have HX := Lib.hid (And.intro ((HR4.out.1.below hb).below hb5) (And.intro (heap_alloc_new w5 (.cells #[.string str, .bool wide] 39)) ((HR4.out.2.trans (hb.mono HR4.out.2.size)).trans (hb5.mono (HR4.out.2.trans (hb.mono HR4.out.2.size)).size))))
             clear hb hb5))
        have hb7 : Below w6.heap.size w6 (w6.alloc (.cells #[.int .i64 ((findV m).1 : Nat), .int .i64 ((findV m).2.1 : Nat)] 43)) := (Below.refl _ _).alloc (Nat.le_refl _) _
        have HLW : Hid (LW w (w6.alloc (.cells #[.int .i64 ((findV m).1 : Nat), .int .i64 ((findV m).2.1 : Nat)] 43)) rb p n t w5.heap.size w6.heap.size str wide m) := Lib.hid ⟨HX6.out.1.below hb7, (hb7.block _ (lt_of_heap HX6.out.2.1)).trans HX6.out.2.1, heap_alloc_new w6 _, HX6.out.2.2.trans (hb7.mono HX6.out.2.2.size)⟩
        clear hb7
        generalize (w6.alloc (.cells #[.int .i64 ((findV m).1 : Nat), .int .i64 ((findV m).2.1 : Nat)] 43)) = w7 at *
        clear HX HX6 HFI HOF HCO HAN HSM HAW HR4
        generalize w6.heap.size = mb at *
        generalize w5.heap.size = xb at *
        go_loopg [11] (l.length + 1) (fun k s11 wr => ∃ i : Nat, s11 = .int .i64 (i : Nat) ∧ Hid (LW w wr rb p n t xb mb str wide m) ∧ Hid (i ≤ l.length + 1 ∧ ∀ a, a < i → ∀ b, ¬ Mt l n a b) ∧ Hid (l.length + 1 - i = k))
        case atStart => exact ⟨0, rfl, HLW, Lib.hid ⟨Nat.zero_le _, fun a ha => absurd ha (Nat.not_lt_zero _)⟩, Lib.hid rfl⟩
        case round =>
          clear HLW
          obtain ⟨i, rfl, HL, HI, HK⟩ := hrel
          have d0 := cell_of_heap (v := .string str) HL.out.x (j := 0) rfl
          have d1 := cell_of_heap (v := .bool wide) HL.out.x (j := 1) rfl
          have q0 : i ≤ 61 := by have := HI.out.1; omega
          by_cases hi : i ≤ l.length
          · have q1 : (i : Int) ≤ (l.length : Int) := by omega
            have t1 : True := trivial
            go_wp2_with (first
              | (go_at_call 32; have _t := t1; clear _t; refine (HLEN _).out.mono ?_; rintro e w8 ⟨rfl, hb⟩
                 have HL8 := Lib.hid (HL.out.below hb)
                 have b0 := cell_of_heap (v := .string str) HL8.out.x (j := 0) rfl
                 have b1 := cell_of_heap (v := .bool wide) HL8.out.x (j := 1) rfl
                 clear hb d0 d1 t1)
              | (go_at_call 32; refine (HLEN _).out.mono ?_; rintro e w9 ⟨rfl, hb⟩
                 have HL9 := Lib.hid (HL8.out.below hb)
                 clear hb b0 b1))
            clear HL HL8
            go_loopg [12] (l.length + 1) (fun k s12 wx => ∃ j : Int, s12 = .int .i64 j ∧ Hid (LW w wx rb p n t xb mb str wide m) ∧ Hid (-1 ≤ j ∧ j ≤ l.length ∧ ∀ b : Nat, j < b → ¬ Mt l n i b) ∧ Hid ((j + 1).toNat = k))
            case atStart => exact ⟨l.length, rfl, HL9, Lib.hid ⟨by omega, by omega, fun b hb hm => by have := hm.le; omega⟩, Lib.hid (by omega)⟩
            case round =>
              clear HL9
              obtain ⟨j, rfl, HL, HJ, HKJ⟩ := hrel
              by_cases hj : (i : Int) ≤ j
              · obtain ⟨b, rfl⟩ := Int.eq_ofNat_of_zero_le (show 0 ≤ j by omega)
                have q2 : (b : Int) ≤ (l.length : Int) := HJ.out.2.1
                have hib : i ≤ b := by omega
                have hbl : b ≤ l.length := by omega
                have HSI := fun W => HSL i b hib hbl W
                have HWI := fun W => HWH W i b hib hbl
                have d0 := cell_of_heap (v := .string str) HL.out.x (j := 0) rfl
                have d1 := cell_of_heap (v := .bool wide) HL.out.x (j := 1) rfl
                generalize (packV (partL l i b)).1 = pst at *
                generalize (packV (partL l i b)).2 = pwi at *
                have hgo : ((b : Int) + 1).toNat = b + 1 := by omega
                have HGO := Lib.hid hgo
                clear hgo
                go_upto_region 19 with (first
                  | (go_at_call 33; refine (HSI _).out.mono ?_; rintro e w10 ⟨rfl, hb⟩
                     have HL10 := Lib.hid (HL.out.below hb)
                     clear hb d0 d1))
                have hb11 : Below w10.heap.size w10 (w10.alloc (.cells #[.string pst, .bool pwi] 39)) := (Below.refl _ _).alloc (Nat.le_refl _) _
                have hk11 := heap_alloc_new w10 (.cells #[.string pst, .bool pwi] 39)
                generalize (w10.alloc (.cells #[.string pst, .bool pwi] 39)) = w11 at *
                have HL11 := Lib.hid (HL10.out.below hb11)
                have HWC := Lib.hid ((HWI w11 HL11.out.r).out)
                have e0 := cell_of_heap (v := .string pst) hk11 (j := 0) rfl
                have e1 := cell_of_heap (v := .bool pwi) hk11 (j := 1) rfl
                generalize w10.heap.size = pb at *
                clear hb11 hk11 HSI HWI
                by_cases hmt : Mt l n i b
                · have hm : m = some (i, b) := HFM.out.unique ⟨fun e => (by cases e), fun x y e => by
                    injection e with e
                    injection e with e1 e2
                    subst e1
                    subst e2
                    exact ⟨hmt, Nat.zero_le _, fun z _ hz y hy => HI.out.2 z hz y hy, fun y hy => by
                      by_cases hyb : y ≤ b
                      · exact hyb
                      · exact absurd hy (HJ.out.2.2 y (by omega))⟩⟩
                  subst hm
                  have HMT := Lib.hid hmt
                  clear hmt
                  go_wp2_with (first
                    | (go_at_call 15; refine HWC.out.mono ?_; rintro e w12 ⟨⟨v, rfl, hv⟩, hb⟩
                       obtain rfl : v = true := hv.2 HMT.out
                       have HL12 := Lib.hid (HL11.out.below hb)
                       have c0 : w12.cell? ⟨mb, 0, none⟩ = some (.int .i64 (i : Nat)) := cell_of_heap HL12.out.m (j := 0) rfl
                       have c1 : w12.cell? ⟨mb, 1, none⟩ = some (.int .i64 (b : Nat)) := cell_of_heap HL12.out.m (j := 1) rfl
                       have c2 : (findV (some (i, b))).2.2 = true := rfl
                       clear hv hb e0 e1))
                  go_ret
                  exact ⟨by simp [findV], HL12.out.b⟩
                · have HMT := Lib.hid hmt
                  clear hmt
                  go_wp2_with (first
                    | (go_at_call 15; refine HWC.out.mono ?_; rintro e w12 ⟨⟨v, rfl, hv⟩, hb⟩
                       obtain rfl : v = false := by
                         cases v
                         · rfl
                         · exact absurd (hv.1 rfl) HMT.out
                       have HL12 := Lib.hid (HL11.out.below hb)
                       clear hv hb e0 e1))
                  go_roundg b
                  case measure => have := HKJ.out; have := HGO.out; omega
                  case rel => exact ⟨(b : Int) - 1, by go_num, HL12, Lib.hid ⟨by omega, by omega, fun y hy hm => by
                      by_cases hyb : y = b
                      · subst hyb; exact HMT.out hm
                      · exact HJ.out.2.2 y (by omega) hm⟩, Lib.hid (by omega)⟩
              · have hji : j < (i : Int) := by omega
                have HNO : Hid (∀ y : Nat, ¬ Mt l n i y) := Lib.hid fun y hm => by
                  have := hm.le
                  exact HJ.out.2.2 y (by omega) hm
                clear hj
                go_wp2_with (fail)
                go_roundg (l.length + 1 - (i + 1))
                case measure => have := HK.out; omega
                case rel => exact ⟨i + 1, by go_num, HL, Lib.hid ⟨by omega, fun a ha y hy => by
                    by_cases hai : a = i
                    · subst hai; exact HNO.out y hy
                    · exact HI.out.2 a (by omega) y hy⟩, Lib.hid rfl⟩
          · have q1 : (l.length : Int) < (i : Int) := by omega
            have hm : m = none := by
              cases m with
              | none => rfl
              | some q =>
                obtain ⟨x, y⟩ := q
                obtain ⟨h1, _⟩ := HFM.out.yes x y rfl
                have := h1.le
                exact absurd h1 (HI.out.2 x (by omega) y)
            subst hm
            clear hi
            go_wp2_with (first
              | (go_at_call 32; refine (HLEN _).out.mono ?_; rintro e w8 ⟨rfl, hb⟩
                 have HL8 := Lib.hid (HL.out.below hb)
                 clear hb d0 d1))
            go_ret
            exact ⟨by simp [findV], HL8.out.b⟩
  · have hn : (decide (p.size ≤ 200) && decide (s.size ≤ 60)) = false := by simpa using hsm
    rw [hn] at HSM
    clear hsm hn
    go_enter Try.func8, Try.ntmps8
    go_wp2_with (first
      | (go_at_call 10; refine (HAW _).out.mono ?_; rintro e w1 ⟨rfl, hb⟩; have HB1 := Lib.hid hb; clear hb)
      | (go_at_call 11; refine (HSM _).out.mono ?_; rintro e w2 ⟨rfl, rfl⟩))
    go_ret
    exact ⟨rfl, HB1.out⟩
end Go.Proofs.Ytcajnmhbkjngbaa

