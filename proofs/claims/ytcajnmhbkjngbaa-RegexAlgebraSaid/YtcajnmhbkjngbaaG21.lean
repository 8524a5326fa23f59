/- All. -/
import Derived.Test.YtcajnmhbkjngbaaG20
namespace Go.Proofs.Ytcajnmhbkjngbaa
open Go.RowKit Go.Shelf
set_option maxRecDepth 100000

def mcells (ms : List (Nat × Nat)) : List Value := ms.flatMap fun p => [.int .i64 (p.1 : Nat), .int .i64 (p.2 : Nat)]
theorem mcells_snoc (ms : List (Nat × Nat)) (a b : Nat) : mcells (ms ++ [(a, b)]) = mcells ms ++ [.int .i64 (a : Nat), .int .i64 (b : Nat)] := by simp [mcells]
theorem info_match : (Try.prog.info? 43).map (fun i => (i.zero, i.size, i.bytes)) = some (some (.agg #[.int .i64 0, .int .i64 0]), 2, 16) := by kernel_rfl
theorem allF_len (F : Nat → Option (Nat × Nat)) (N : Nat) : ∀ (f a : Nat) (last : Int), (allF F N f a last).length ≤ f
  | 0, _, _ => Nat.le_refl _
  | f + 1, a, last => by
    unfold allF
    split
    · exact Nat.zero_le _
    · split
      · exact Nat.zero_le _
      · split
        · exact Nat.le_succ_of_le (allF_len F N f _ _)
        · rw [List.length_cons]; exact Nat.succ_le_succ (allF_len F N f _ _)
/-- Find, where it is told by a function. -/
structure Fi (w : World) (p : Option Addr) (l : List Int) (F : Nat → Option (Nat × Nat)) : Prop where
  call : ∀ (W : World) (k : Nat), Below w.heap.size w W → k ≤ l.length → Calls Try.prog 18 #[.pointer p, strV l, .int .i64 (k : Nat)] W fun e w' => e = findE (F k) 0 ∧ Below W.heap.size W w'
  ok : ∀ k i j, k ≤ l.length → F k = some (i, j) → k ≤ i ∧ i ≤ j ∧ j ≤ l.length
theorem Rg.fi {w : World} {rb : Nat} {s : ByteArray} {n : Nd} {t : Nat} (h : Rg w rb s n t) {l : List Int} (hc : ChOk l) (hl : l.length ≤ 100000) {F : Nat → Option (Nat × Nat)} (hF : ∀ k, k ≤ l.length → First l n k (F k)) : Fi w (some ⟨rb, 0, none⟩) l F where
  call := fun W k hW hk => (find_in (h.below hW) hc hl k hk).mono fun e w' ⟨⟨m, h1, h2⟩, h3⟩ => ⟨by rw [h2, h1.unique (hF k hk)], h3⟩
  ok := fun k i j hk h => by
    obtain ⟨h1, h2, _⟩ := (hF k hk).yes i j h
    have := h1.le
    exact ⟨h2, this.1, this.2⟩
theorem fi_nil {w : World} {l : List Int} (hl : l.length ≤ 100000) : Fi w none l (fun _ => none) where
  call := fun W k hW hk => find_nil hl k hk
  ok := fun k i j hk h => by cases h
set_option maxHeartbeats 4000000 in
theorem all_is {w : World} {p : Option Addr} {l : List Int} (hl : l.length ≤ 100000) {F : Nat → Option (Nat × Nat)} (h : Fi w p l F) {ms : List (Nat × Nat)} (hms : allF F l.length (l.length + 2) 0 (-1) = ms) :
    Calls Try.prog 23 #[.pointer p, strV l] w fun e w' => ∃ A C, e = .returned (.slice A ms.length C) ∧ w'.ownsRow w.heap.size 43 2 (.slice A ms.length C) ms.length (mcells ms) ∧ Below w.heap.size w w' := by
  have HLEN := fun W => Lib.hid (len_is l (by omega) W)
  have HFI := Lib.hid h
  have HMS := Lib.hid hms
  have HMN : Hid (ms.length ≤ l.length + 2) := Lib.hid (by rw [← hms]; exact allF_len _ _ _ _ _)
  clear h hms
  have HCF : Hid (∀ (W : World) (k : Nat), Below w.heap.size w W → k ≤ l.length → Calls Try.prog 18 #[.pointer p, strV l, .int .i64 (k : Nat)] W fun e w' => e = findE (F k) 0 ∧ Below W.heap.size W w') := Lib.hid HFI.out.call
  unfold strV at HLEN HCF ⊢
  generalize (packV l).1 = str at *
  generalize (packV l).2 = wide at *
  go_enter Try.func23, Try.ntmps23
  have HB0 : Hid (Below w.heap.size w (w.alloc (.cells #[.string str, .bool wide] 39)) ∧ (w.alloc (.cells #[.string str, .bool wide] 39)).heap[w.heap.size]? = some (.cells #[.string str, .bool wide] 39 (0, 0)) ∧ (w.alloc (.cells #[.string str, .bool wide] 39)).ownsRow w.heap.size 43 2 (.slice none 0 0) 0 (mcells [])) := Lib.hid ⟨(Below.refl _ _).alloc (Nat.le_refl _) _, heap_alloc_new _ _, World.ownsRow_nil _ _ _ _⟩
  go_upto_region 3 with (fail)
  go_wp2_with (fail)
  go_loopg [5, 6, 7] (l.length + 2) (fun k s5 s6 s7 wr => ∃ (A : Option Addr) (C : Nat) (done : List (Nat × Nat)) (last : Int) (at_ f : Nat), s5 = .slice A done.length C ∧ s6 = .int .i64 last ∧ s7 = .int .i64 (at_ : Nat) ∧ Hid (Below w.heap.size w wr ∧ wr.heap[w.heap.size]? = some (.cells #[.string str, .bool wide] 39 (0, 0)) ∧ wr.ownsRow w.heap.size 43 2 (.slice A done.length C) done.length (mcells done)) ∧ Hid (done ++ allF F l.length f at_ last = ms ∧ l.length + 2 ≤ f + at_ ∧ at_ ≤ l.length + 1 ∧ -1 ≤ last ∧ last ≤ l.length) ∧ Hid (l.length + 2 - at_ = k))
  case atStart => exact ⟨none, 0, [], -1, 0, l.length + 2, rfl, rfl, rfl, HB0, Lib.hid ⟨HMS.out, by omega, by omega, by omega, by omega⟩, Lib.hid rfl⟩
  case round =>
    clear HB0
    obtain ⟨A, C, done, last, at_, f, rfl, rfl, rfl, HR, HI, HK⟩ := hrel
    have d0 := cell_of_heap (v := .string str) HR.out.2.1 (j := 0) rfl
    have d1 := cell_of_heap (v := .bool wide) HR.out.2.1 (j := 1) rfl
    have HQ : Hid (∀ W, Below wr.heap.size wr W → Below w.heap.size w W ∧ W.heap[w.heap.size]? = some (.cells #[.string str, .bool wide] 39 (0, 0)) ∧ W.ownsRow w.heap.size 43 2 (.slice A done.length C) done.length (mcells done)) := Lib.hid fun W hW => ⟨HR.out.1.trans (hW.mono HR.out.1.size), (hW.block _ (lt_of_heap HR.out.2.1)).trans HR.out.2.1, own_below HR.out.2.2 hW⟩
    have q0 : at_ ≤ 100001 := by have := HI.out.2.2.1; omega
    by_cases hk : at_ ≤ l.length
    · have q1 : (at_ : Int) ≤ (l.length : Int) := by omega
      obtain ⟨f, rfl⟩ : ∃ g, f = g + 1 := ⟨f - 1, by have := HI.out.2.1; omega⟩
      have HFC := fun W hW => Lib.hid (HCF.out W at_ hW hk)
      have HOK := Lib.hid (HFI.out.ok at_)
      have HU : Hid (allF F l.length (f + 1) at_ last = match F at_ with
        | none => []
        | some (i, j) => if i = j ∧ (i : Int) = last then allF F l.length f (j + 1) last else (i, j) :: allF F l.length f (if i = j then j + 1 else j) j) := Lib.hid (by rw [allF, if_neg (by omega)]; rfl)
      go_upto_region 5 with (first
        | (go_at_call 32; refine (HLEN _).out.mono ?_; rintro e w1 ⟨rfl, hb⟩
           have HB1 : Hid (Below wr.heap.size wr w1) := Lib.hid (by first | exact hb | exact (Below.refl _ _).drew.trans hb)
           have HQ1 := Lib.hid (HQ.out w1 HB1.out)
           have b0 := cell_of_heap (v := .string str) HQ1.out.2.1 (j := 0) rfl
           have b1 := cell_of_heap (v := .bool wide) HQ1.out.2.1 (j := 1) rfl
           have l1 := lt_of_heap HQ1.out.2.1
           clear hb d0 d1))
      obtain ⟨M, hM⟩ : ∃ M, M = findV (F at_) := ⟨_, rfl⟩
      have HM := Lib.hid hM
      clear hM
      have HFD : ∀ W, Below wr.heap.size wr W → Hid (Calls Try.prog 18 #[.pointer p, .agg #[.string str, .bool wide], .int .i64 (at_ : Nat)] W fun e w' => e = .returned (.tuple #[.agg #[.int .i64 (M.1 : Nat), .int .i64 (M.2.1 : Nat)], .bool M.2.2, .int .i64 0]) ∧ Below W.heap.size W w') := fun W hW => Lib.hid (by have h := (HFC W (HR.out.1.trans (hW.mono HR.out.1.size))).out; unfold findE at h; rw [← HM.out] at h; exact h)
      by_cases hz : F at_ = none
      · have HE : Hid (done = ms) := Lib.hid (by have h1 := HI.out.1; have h2 := HU.out; rw [hz] at h2; simp only at h2; rw [h2, List.append_nil] at h1; exact h1)
        obtain rfl : M = (0, 0, false) := by rw [HM.out, hz]; rfl
        go_upto_region 6 with (first
          | (go_at_call 18
             refine (HFD w1 HB1.out).out.mono ?_
             rintro e w2 ⟨rfl, hb⟩
             have HB2 : Hid (Below wr.heap.size wr w2) := Lib.hid (HB1.out.trans (hb.mono HB1.out.size))
             clear hb))
        have HX : Hid (∀ W, Below w2.heap.size w2 W → W.ownsRow w.heap.size 43 2 (.slice A done.length C) done.length (mcells done) ∧ Below w.heap.size w W) := Lib.hid fun W hW => by
          have h := HQ.out W (HB2.out.trans (hW.mono HB2.out.size))
          exact ⟨h.2.2, h.1⟩
        have hb3 : Below w2.heap.size w2 (w2.alloc (.cells #[.int .i64 0, .int .i64 0] 43)) := (Below.refl _ _).alloc (Nat.le_refl _) _
        have HX3 := Lib.hid (HX.out _ hb3)
        clear hb3
        go_wp2_with (fail)
        go_ret
        rw [← HE.out]
        exact ⟨A, C, rfl, HX3.out.1, HX3.out.2⟩
      · obtain ⟨i, j, hij⟩ : ∃ i j, F at_ = some (i, j) := by
          cases hv : F at_ with
          | none => exact absurd hv hz
          | some q => exact ⟨q.1, q.2, rfl⟩
        have HOJ := Lib.hid (HOK.out i j hk hij)
        obtain rfl : M = (i, j, true) := by rw [HM.out, hij]; rfl
        replace HU : Hid (allF F l.length (f + 1) at_ last = if i = j ∧ (i : Int) = last then allF F l.length f (j + 1) last else (i, j) :: allF F l.length f (if i = j then j + 1 else j) j) := Lib.hid (by have h := HU.out; rw [hij] at h; exact h)
        go_upto_region 6 with (first
          | (go_at_call 18
             refine (HFD w1 HB1.out).out.mono ?_
             rintro e w2 ⟨rfl, hb⟩
             have HB2 : Hid (Below wr.heap.size wr w2) := Lib.hid (HB1.out.trans (hb.mono HB1.out.size))
             clear hb))
        have hb3 : Below w2.heap.size w2 (w2.alloc (.cells #[.int .i64 (i : Nat), .int .i64 (j : Nat)] 43)) := (Below.refl _ _).alloc (Nat.le_refl _) _
        have hk3 := heap_alloc_new w2 (.cells #[.int .i64 (i : Nat), .int .i64 (j : Nat)] 43)
        generalize (w2.alloc (.cells #[.int .i64 (i : Nat), .int .i64 (j : Nat)] 43)) = w3 at *
        have HR3 := Lib.hid (HQ.out w3 (HB2.out.trans (hb3.mono HB2.out.size)))
        have HK3 := Lib.hid hk3
        have HNB : Hid (∀ a, A = some a → a.block ≠ w2.heap.size) := Lib.hid fun a ha e => by
          have h := (HQ.out w2 HB2.out).2.2
          obtain ⟨cur, hc⟩ := own_ty h a ha
          have := lt_of_heap hc
          omega
        have hBw : w.heap.size ≤ w3.heap.size := HR3.out.1.size
        have k30 := cell_of_heap (v := .int .i64 (i : Nat)) hk3 (j := 0) rfl
        have k31 := cell_of_heap (v := .int .i64 (j : Nat)) hk3 (j := 1) rfl
        generalize w2.heap.size = b8 at *
        have q3 : done.length ≤ 100002 := by
          have h1 := HMN.out
          rw [← HI.out.1, List.length_append] at h1
          omega
        have q4 : j ≤ 100000 := by have := HOJ.out; omega
        have q5 : i ≤ 100000 := by have := HOJ.out; omega
        have q6 : last ≤ 100000 := by have := HI.out; omega
        have q7 : -1 ≤ last := by have := HI.out; omega
        have hms : ∀ k : Nat, at_ < k → l.length + 2 - k < l.length + 2 - at_ := fun k hk2 => by omega
        have HMS2 := Lib.hid hms
        clear hms hb3 hk3
        by_cases hijj : i = j
        · subst hijj
          have e1 : ((i : Int) == (i : Int)) = true := by simp
          by_cases hla : (i : Int) = last
          · have HN : Hid (done ++ allF F l.length f (i + 1) last = ms) := Lib.hid (by have h := HI.out.1; rw [HU.out, if_pos ⟨rfl, hla⟩] at h; exact h)
            have e2 : ((i : Int) != last) = false := by simp [hla]
            go_wp2_with (fail)
            go_roundg (l.length + 2 - (i + 1))
            case measure => have h1 := HK.out; have h2 := HMS2.out (i + 1) (by have := HOJ.out; omega); omega
            case rel => exact ⟨A, C, done, last, i + 1, f, rfl, rfl, by go_num, HR3, Lib.hid ⟨HN.out, by have h1 := HI.out; have h2 := HOJ.out; omega, by have := HOJ.out; omega, q7, by have := HI.out; omega⟩, Lib.hid rfl⟩
          · have HN : Hid ((done ++ [(i, i)]) ++ allF F l.length f (i + 1) i = ms) := Lib.hid (by have h := HI.out.1; rw [HU.out, if_neg (fun e => hla e.2), if_pos rfl] at h; rw [List.append_assoc]; exact h)
            have e2 : ((i : Int) != last) = true := by simpa using hla
            go_wp2_with (first
            | (at_builtin
               refine app_gen Try.underlying54 info_match rfl (by decide) (by decide) rfl _ _ rfl w.heap.size A C done.length (mcells done) #[.int .i64 (i : Nat), .int .i64 (i : Nat)] rfl HR3.out.2.2 rfl rfl rfl ?k1 (by omega) hBw ?_
               case k1 => intro u hu; simp only [List.mem_cons, List.not_mem_nil, or_false] at hu; rcases hu with rfl | rfl <;> rfl
               intro A1 C1 w4 ho hm hl
               have HR4 : Hid (Below w.heap.size w w4 ∧ w4.heap[w.heap.size]? = some (.cells #[.string str, .bool wide] 39 (0, 0)) ∧ w4.ownsRow w.heap.size 43 2 (.slice A1 (done.length + 1) C1) (done.length + 1) (mcells (done ++ [(i, i)]))) := Lib.hid ⟨HR3.out.1.trans (hm.to_below hBw fun k ⟨a, ha, e⟩ => e ▸ own_ge HR3.out.2.2 a ha), (hm.block _ (lt_of_heap HR3.out.2.1) fun ⟨a, ha, e⟩ => by obtain ⟨cur, hc⟩ := own_ty HR3.out.2.2 a ha; exact ne_ty hc HR3.out.2.1 (by decide) e).trans HR3.out.2.1, by rw [mcells_snoc]; exact ho⟩
               have k40 := cell_of_heap (v := .int .i64 (i : Nat)) ((hm.block _ (lt_of_heap HK3.out) fun ⟨a, ha, e⟩ => HNB.out a ha e).trans HK3.out) (j := 0) rfl
               have k41 := cell_of_heap (v := .int .i64 (i : Nat)) ((hm.block _ (lt_of_heap HK3.out) fun ⟨a, ha, e⟩ => HNB.out a ha e).trans HK3.out) (j := 1) rfl
               clear ho hm hl))
            go_roundg (l.length + 2 - (i + 1))
            case measure => have h1 := HK.out; have h2 := HMS2.out (i + 1) (by have := HOJ.out; omega); omega
            case rel => exact ⟨A1, C1, done ++ [(i, i)], i, i + 1, f, by rw [List.length_append]; rfl, rfl, by go_num, by rw [List.length_append]; exact HR4, Lib.hid ⟨HN.out, by have h1 := HI.out; have h2 := HOJ.out; omega, by have := HOJ.out; omega, by omega, by have := HOJ.out; omega⟩, Lib.hid rfl⟩
        · have HN : Hid ((done ++ [(i, j)]) ++ allF F l.length f j j = ms) := Lib.hid (by have h := HI.out.1; rw [HU.out, if_neg (fun e => hijj e.1), if_neg hijj] at h; rw [List.append_assoc]; exact h)
          have e1 : ((i : Int) == (j : Int)) = false := by simp; omega
          go_wp2_with (first
            | (at_builtin
               refine app_gen Try.underlying54 info_match rfl (by decide) (by decide) rfl _ _ rfl w.heap.size A C done.length (mcells done) #[.int .i64 (i : Nat), .int .i64 (j : Nat)] rfl HR3.out.2.2 rfl rfl rfl ?k1 (by omega) hBw ?_
               case k1 => intro u hu; simp only [List.mem_cons, List.not_mem_nil, or_false] at hu; rcases hu with rfl | rfl <;> rfl
               intro A1 C1 w4 ho hm hl
               have HR4 : Hid (Below w.heap.size w w4 ∧ w4.heap[w.heap.size]? = some (.cells #[.string str, .bool wide] 39 (0, 0)) ∧ w4.ownsRow w.heap.size 43 2 (.slice A1 (done.length + 1) C1) (done.length + 1) (mcells (done ++ [(i, j)]))) := Lib.hid ⟨HR3.out.1.trans (hm.to_below hBw fun k ⟨a, ha, e⟩ => e ▸ own_ge HR3.out.2.2 a ha), (hm.block _ (lt_of_heap HR3.out.2.1) fun ⟨a, ha, e⟩ => by obtain ⟨cur, hc⟩ := own_ty HR3.out.2.2 a ha; exact ne_ty hc HR3.out.2.1 (by decide) e).trans HR3.out.2.1, by rw [mcells_snoc]; exact ho⟩
               have k40 := cell_of_heap (v := .int .i64 (i : Nat)) ((hm.block _ (lt_of_heap HK3.out) fun ⟨a, ha, e⟩ => HNB.out a ha e).trans HK3.out) (j := 0) rfl
               have k41 := cell_of_heap (v := .int .i64 (j : Nat)) ((hm.block _ (lt_of_heap HK3.out) fun ⟨a, ha, e⟩ => HNB.out a ha e).trans HK3.out) (j := 1) rfl
               clear ho hm hl))
          go_roundg (l.length + 2 - j)
          case measure => have h1 := HK.out; have h2 := HMS2.out j (by have := HOJ.out; omega); omega
          case rel => exact ⟨A1, C1, done ++ [(i, j)], j, j, f, by rw [List.length_append]; rfl, rfl, rfl, by rw [List.length_append]; exact HR4, Lib.hid ⟨HN.out, by have h1 := HI.out; have h2 := HOJ.out; omega, by have := HOJ.out; omega, by omega, by have := HOJ.out; omega⟩, Lib.hid rfl⟩
    · have HE : Hid (done = ms) := Lib.hid (by
        have h1 := HI.out.1
        have h2 : allF F l.length f at_ last = [] := by
          cases f with
          | zero => rfl
          | succ f => rw [allF, if_pos (by omega)]
        rw [h2, List.append_nil] at h1
        exact h1)
      have q1 : (l.length : Int) < (at_ : Int) := by omega
      go_wp2_with (first
        | (go_at_call 32; refine (HLEN _).out.mono ?_; rintro e w1 ⟨rfl, hb⟩
           have HB1 : Hid (Below wr.heap.size wr w1) := Lib.hid (by first | exact hb | exact (Below.refl _ _).drew.trans hb)
           have HQ1 := Lib.hid (HQ.out w1 HB1.out)
           clear hb d0 d1))
      go_ret
      rw [← HE.out]
      exact ⟨A, C, rfl, HQ1.out.2.2, HQ1.out.1⟩
end Go.Proofs.Ytcajnmhbkjngbaa

