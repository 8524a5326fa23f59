/- Texts on the heap, merged: V1, V2. -/
import Derived.Test.YtodfpclekihbhaaG15
import Derived.Test.YtodfpclekihbhaaG19
/- text.packWide, text.pack, text.Of: what they answer. -/
namespace Go.Proofs.Ytodfpclekihbhaa
open Go.RowKit Go.Shelf
set_option maxRecDepth 100000

def u8of (x : Int) : UInt8 := UInt8.ofNat (x % 256).toNat
theorem u8of_eq (x : Int) : x % 256 = ((u8of x).toNat : Int) := by
  unfold u8of
  rw [UInt8.toNat_ofNat']
  omega
/-- Characters with four bytes each. -/
def wideB (l : List Int) : List UInt8 := l.flatMap fun v => [u8of (v / 16777216), u8of (v / 65536), u8of (v / 256), u8of v]
theorem wideB_append (a b : List Int) : wideB (a ++ b) = wideB a ++ wideB b := by simp [wideB]
theorem wideB_len (l : List Int) : (wideB l).length = 4 * l.length := by
  induction l with
  | nil => rfl
  | cons v l ih =>
    have e : wideB (v :: l) = [u8of (v / 16777216), u8of (v / 65536), u8of (v / 256), u8of v] ++ wideB l := by simp [wideB]
    rw [e, List.length_append, ih]
    simp
    omega
open Classical in
/-- The string with some characters. -/
noncomputable def packV (l : List Int) : ByteArray × Bool := if ∃ x ∈ l, 255 < x then (⟨(wideB l).toArray⟩, true) else (⟨(l.map u8of).toArray⟩, false)
theorem packV_size (l : List Int) : (packV l).1.size ≤ 4 * l.length := by
  unfold packV
  split
  · show (wideB l).toArray.size ≤ _
    simp [wideB_len]
  · show (l.map u8of).toArray.size ≤ _
    simp
    omega
set_option maxHeartbeats 2000000 in
theorem packWide_is {w : World} {ad : Option Addr} {l : List Int} (C : Nat) (h : RdR w ad l) (hn : l.length ≤ 1000000) :
    Calls Try.prog 100 #[.slice ad l.length C] w fun e w' => e = .returned (.string ⟨(wideB l).toArray⟩) ∧ Below w.heap.size w w' := by
  have H := Lib.hid h
  have HN := Lib.hid hn
  have HB0 := Lib.hid (Lib.fresh_isBuilder 148 5 w)
  have HW0 : Hid (Below w.heap.size w (w.alloc (.cells #[.pointer none, .slice none 0 0] 148))) := Lib.hid ((Below.refl _ _).alloc (Nat.le_refl _) _)
  clear h
  go_enter Try.func100, Try.ntmps100
  go_wp2
  go_loopw [8] (fun p wr => ∃ (j : Nat) (bs : List UInt8), j ≤ l.length ∧ p = .int .i64 j ∧ Hid (bs = wideB (l.take j)) ∧ Hid (Lib.IsBuilder 148 5 w.heap.size w.heap.size (Lib.byteCells bs) wr ∧ Below w.heap.size w wr)) (fun i _ => l.length - (intOf i).toNat)
  case atStart => exact ⟨0, [], Nat.zero_le _, rfl, Lib.hid rfl, Lib.hid ⟨HB0.out, HW0.out⟩⟩
  case round =>
    obtain ⟨j, bs, hj, rfl, HZ, HR⟩ := hrel
    by_cases hlt : j < l.length
    · obtain ⟨g, hA, hg, c0⟩ := (H.out.below HR.out.2) j hlt
      have q0 : (0 : Int) ≤ (j : Int) := by omega
      have q1 : (j : Int) < (l.length : Int) := by omega
      have HZL : Hid (bs.length = 4 * j) := Lib.hid (by rw [HZ.out, wideB_len, List.length_take]; omega)
      have HT : Hid (l.take (j + 1) = l.take j ++ [l[j]'hlt]) := Lib.hid (List.take_succ_eq_append_getElem hlt)
      rw [hA]
      clear hA
      generalize l[j]'hlt = v at *
      have e1 := u8of_eq (v / 16777216)
      generalize hu1 : u8of (v / 16777216) = u1 at e1
      have e2 := u8of_eq (v / 65536)
      generalize hu2 : u8of (v / 65536) = u2 at e2
      have e3 := u8of_eq (v / 256)
      generalize hu3 : u8of (v / 256) = u3 at e3
      have e4 := u8of_eq v
      generalize hu4 : u8of v = u4 at e4
      have HE := Lib.hid (And.intro e1 (And.intro e2 (And.intro e3 e4)))
      have hq2 : l.length ≤ 1000000 := HN.out
      have HU : Hid (wideB [v] = [u1, u2, u3, u4]) := Lib.hid (by simp [wideB, hu1, hu2, hu3, hu4])
      clear e1 e2 e3 e4 hu1 hu2 hu3 hu4
      go_wp2_with (go_at_call 114
                   rw [HE.out.1, HE.out.2.1, HE.out.2.2.1, HE.out.2.2.2]
                   have hba : Below wr.heap.size wr (wr.alloc (.cells #[.int .u8 u1.toNat, .int .u8 u2.toNat, .int .u8 u3.toNat, .int .u8 u4.toNat] 5)) := (Below.refl _ _).alloc (Nat.le_refl _) _
                   have hk := heap_alloc_new wr (.cells #[.int .u8 u1.toNat, .int .u8 u2.toNat, .int .u8 u3.toNat, .int .u8 u4.toNat] 5)
                   refine (bld_write w.heap.size w.heap.size (Lib.byteCells bs) _ wr.heap.size 4 4 (Lib.byteCells [u1, u2, u3, u4]) (isb_below HR.out.1 hba) ?c1 ?c2 rfl (by decide) ?c3 ?c4).mono ?_
                   case c1 => have := HZL.out; simp [Lib.byteCells]; omega
                   case c2 => have := HR.out.2.size; simp; omega
                   case c3 => exact fun W hW j u hu => new_cells HR.out.1 _ hW j u (by simpa [Lib.byteCells] using hu)
                   case c4 => intro u hu; simp [Lib.byteCells] at hu; rcases hu with rfl | rfl | rfl | rfl <;> rfl
                   rintro e w5 ⟨rfl, h5, hb5⟩
                   have HR5 : Hid (Lib.IsBuilder 148 5 w.heap.size w.heap.size (Lib.byteCells (bs ++ [u1, u2, u3, u4])) w5 ∧ Below w.heap.size w w5) := Lib.hid ⟨.inr (by simpa [Lib.byteCells] using h5), (HR.out.2.trans (hba.mono HR.out.2.size)).trans hb5⟩
                   clear h5 hb5 hba hk)
      go_roundw
      case rel => exact ⟨j + 1, bs ++ [u1, u2, u3, u4], by omega, by go_num, Lib.hid (by rw [HT.out, wideB_append, HZ.out, HU.out]), HR5⟩
      case measure => simp [intOf]; omega
    · obtain rfl : j = l.length := by omega
      clear hlt hj
      go_wp2_with (go_at_call 102; refine (Try.Builder_String_any _ _ bs _ HR.out.1 HR.out.2.size).mono ?_; rintro e w3 ⟨rfl, hb⟩; have HB3 := Lib.hid hb; clear hb)
      go_ret
      have hz := HZ.out
      rw [List.take_length] at hz
      rw [hz]
      exact ⟨rfl, HR.out.2.trans HB3.out⟩
set_option maxHeartbeats 2000000 in
theorem pack_is {w : World} {ad : Option Addr} {l : List Int} (C : Nat) (h : RdR w ad l) (hn : l.length ≤ 1000000) :
    Calls Try.prog 94 #[.slice ad l.length C] w fun e w' => e = .returned (.agg #[.string (packV l).1, .bool (packV l).2]) ∧ Below w.heap.size w w' := by
  have H := Lib.hid h
  have HN := Lib.hid hn
  have hfb := Lib.fresh_isBuilder 148 5 (w.alloc (.cells #[.string { data := #[] }, .bool false] 61))
  rw [World.size_alloc] at hfb
  have HB0 := Lib.hid hfb
  have HW0 : Hid (Below w.heap.size w ((w.alloc (.cells #[.string { data := #[] }, .bool false] 61)).alloc (.cells #[.pointer none, .slice none 0 0] 148))) := Lib.hid (((Below.refl _ _).alloc (Nat.le_refl _) _).alloc (by simp) _)
  have HK0 := Lib.hid (heap2 w (.cells #[.string { data := #[] }, .bool false] 61) (.cells #[.pointer none, .slice none 0 0] 148)).1
  clear h hfb
  go_enter Try.func94, Try.ntmps94
  go_wp2
  go_loopw [8] (fun p wr => ∃ (j : Nat) (bs : List UInt8), j ≤ l.length ∧ p = .int .i64 j ∧ Hid (bs = (l.take j).map u8of ∧ ∀ x ∈ l.take j, ¬ 255 < x) ∧ Hid (Lib.IsBuilder 148 5 (w.heap.size + 1) (w.heap.size + 1) (Lib.byteCells bs) wr ∧ Below (w.heap.size + 1) ((w.alloc (.cells #[.string { data := #[] }, .bool false] 61)).alloc (.cells #[.pointer none, .slice none 0 0] 148)) wr)) (fun i _ => l.length - (intOf i).toNat)
  case atStart => exact ⟨0, [], Nat.zero_le _, rfl, Lib.hid ⟨rfl, fun x hx => by simp at hx⟩, Lib.hid ⟨HB0.out, Below.refl _ _⟩⟩
  case round =>
    obtain ⟨j, bs, hj, rfl, HZ, HR⟩ := hrel
    have HRB : Hid (Below w.heap.size w wr) := Lib.hid (HW0.out.trans (HR.out.2.mono (Nat.le_succ _)))
    have hk := (HR.out.2.block w.heap.size (Nat.lt_succ_self _)).trans HK0.out
    have HK := Lib.hid hk
    have z0 : w.heap.size < wr.heap.size := lt_of_heap hk
    clear hk
    by_cases hlt : j < l.length
    · obtain ⟨g, hA, hg, c0⟩ := (H.out.below HRB.out) j hlt
      have q0 : (0 : Int) ≤ (j : Int) := by omega
      have q1 : (j : Int) < (l.length : Int) := by omega
      have HZL : Hid (bs.length = j) := Lib.hid (by rw [HZ.out.1, List.length_map, List.length_take]; omega)
      have HT : Hid (l.take (j + 1) = l.take j ++ [l[j]'hlt] ∧ l[j]'hlt ∈ l) := Lib.hid ⟨List.take_succ_eq_append_getElem hlt, List.getElem_mem _⟩
      rw [hA]
      generalize hv : l[j]'hlt = v at *
      clear hv
      by_cases hbig : 255 < v
      · have HPV : Hid (packV l = (⟨(wideB l).toArray⟩, true)) := Lib.hid (if_pos ⟨v, HT.out.2, hbig⟩)
        have HCALL := Lib.hid (packWide_is C (H.out.below HRB.out) HN.out)
        rw [hA] at HCALL
        clear hA
        go_wp2_with (go_at_call 100; refine HCALL.out.mono ?_; rintro e w5 ⟨rfl, hb5⟩
                     have HB5 := Lib.hid (HRB.out.trans (hb5.mono HRB.out.size))
                     have e0 := keep3 hb5 (cell_of_heap (v := .string { data := #[] }) HK.out (j := 0) rfl)
                     have e1 := keep3 hb5 (cell_of_heap (v := .bool false) HK.out (j := 1) rfl)
                     have f0 := keepf hb5 (cell_of_heap (v := .string { data := #[] }) HK.out (j := 0) rfl) (frozen_of_heap HK.out 0)
                     have f1 := keepf hb5 (cell_of_heap (v := .bool false) HK.out (j := 1) rfl) (frozen_of_heap HK.out 1)
                     clear hb5)
        all_goals rw [HPV.out]
        all_goals exact bodyPost_ret (v := .agg #[.string ⟨(wideB l).toArray⟩, .bool true]) (by simp [results, Try.results94, go_sem, e0, e1]) rfl ⟨rfl, fin2 HB5.out (Nat.le_refl _) _ _⟩
      · have e1 := u8of_eq v
        have HNB : Hid (¬ 255 < v) := Lib.hid hbig
        generalize hu : u8of v = u at e1
        have HU := Lib.hid hu
        have HE := Lib.hid e1
        clear hu
        have hq2 : l.length ≤ 1000000 := HN.out
        clear e1 hA
        go_wp2_with (go_at_call 101
                     rw [HE.out]
                     refine (bld_byte (w.heap.size + 1) (w.heap.size + 1) (Lib.byteCells bs) _ wr HR.out.1 ?c1 ?c2).mono ?_
                     case c1 => have := HZL.out; simp [Lib.byteCells]; omega
                     case c2 => have := HR.out.2.size; simp at this; omega
                     rintro e w5 ⟨rfl, h5, hb5⟩
                     have HR5 : Hid (Lib.IsBuilder 148 5 (w.heap.size + 1) (w.heap.size + 1) (Lib.byteCells (bs ++ [u])) w5 ∧ Below (w.heap.size + 1) ((w.alloc (.cells #[.string { data := #[] }, .bool false] 61)).alloc (.cells #[.pointer none, .slice none 0 0] 148)) w5) := Lib.hid ⟨.inr (by simpa [Lib.byteCells] using h5), HR.out.2.trans hb5⟩
                     clear h5 hb5)
        go_roundw
        case rel => exact ⟨j + 1, bs ++ [u], by omega, by go_num, Lib.hid (by rw [HT.out.1, List.map_append, ← HZ.out.1]; exact ⟨by simp [HU.out], fun x hx => by rcases List.mem_append.1 hx with hx | hx; (have h1 := HZ.out.2 x hx; omega); (rw [show x = v by simpa using hx]; (have h1 := HNB.out; omega))⟩), HR5⟩
        case measure => simp [intOf]; omega
    · obtain rfl : j = l.length := by omega
      clear hlt hj
      go_wp2_with (go_at_call 102; refine (Try.Builder_String_any _ _ bs _ HR.out.1 (by have := HR.out.2.size; simp at this; omega)).mono ?_; rintro e w5 ⟨rfl, hb5⟩
                   have HB5 := Lib.hid (HRB.out.trans (hb5.mono (Nat.le_succ _)))
                   have hk5 := (hb5.block w.heap.size (Nat.lt_succ_self _)).trans HK.out
                   have e0 := cell_of_heap (v := .string { data := #[] }) hk5 (j := 0) rfl
                   have e1 := cell_of_heap (v := .bool false) hk5 (j := 1) rfl
                   have f0 := frozen_of_heap hk5 0
                   have f1 := frozen_of_heap hk5 1
                   clear hb5 hk5)
      all_goals
        have hz := HZ.out
        rw [List.take_length] at hz
        have hpv : packV l = (⟨(l.map u8of).toArray⟩, false) := if_neg fun ⟨x, hx, h⟩ => by have h1 := hz.2 x hx; omega
        rw [hpv, ← hz.1]
        exact bodyPost_ret (v := .agg #[.string ⟨bs.toArray⟩, .bool false]) (by simp [results, Try.results94, go_sem, e0, e1]) rfl ⟨rfl, fin2 HB5.out (Nat.le_refl _) _ _⟩
/-- The characters of a text. -/
def runesL (s : ByteArray) : List Int := (Conv.runesFrom s s.size 0 #[]).toList.map intOf
noncomputable def textOf (s : ByteArray) : ByteArray × Bool := packV (runesL s)
theorem runesL_len (s : ByteArray) : (runesL s).length ≤ s.size := by
  have := size_runesFrom s s.size 0 #[]
  unfold runesL
  simp at this ⊢
  omega
theorem textOf_size (s : ByteArray) : (textOf s).1.size ≤ 4 * s.size := by
  have h1 := packV_size (runesL s)
  have h2 := runesL_len s
  unfold textOf
  omega
set_option maxHeartbeats 2000000 in
theorem of_is (s : ByteArray) (hs : s.size ≤ 1000) (w : World) :
    Calls Try.prog 80 #[.string s] w fun e w' => e = .returned (.tuple #[.agg #[.string (textOf s).1, .bool (textOf s).2], .int .i64 0]) ∧ Below w.heap.size w w' := by
  have hsz := size_runesFrom s s.size 0 #[]
  obtain ⟨l, hl⟩ := runes_ints s s.size 0 #[] [] rfl
  have HTX : Hid (textOf s = packV l) := Lib.hid (by unfold textOf runesL; rw [hl, List.map_map]; congr 1; exact List.map_id' _)
  have hll : (Conv.runesFrom s s.size 0 #[]).size = l.length := by rw [← Array.length_toList, hl, List.length_map]
  have hcv := fun w => run_runes_of_string (P := Try.prog) w 9 139 21 s Try.underlying9 Try.underlying139 Try.underlying21 (by simp at hsz; omega)
  have hn : l.length ≤ 1000 := by simp at hsz; omega
  rw [hll] at hcv
  have hrd : ∀ (W : World) (cap : Nat), RdR (W.alloc (.cells (Conv.runesFrom s s.size 0 #[] ++ Array.replicate cap (.int .i32 0)) 21)) (some ⟨W.heap.size, 0, none⟩) l := fun W cap j hj => by
    refine ⟨W.heap.size, rfl, by simp, cell_of_heap (heap_alloc_new W _) ?_⟩
    rw [Array.getElem?_append_left (by rw [hll]; exact hj), ← Array.getElem?_toList, hl]
    simp [hj]
  have HRD := Lib.hid hrd
  have k1 : ¬ (65536 : Int) < (l.length : Int) := by omega
  have HN := Lib.hid hn
  have k2 : ¬ 65536 < l.length := by omega
  clear hrd hll hl hsz hs hn
  generalize Conv.runesFrom s s.size 0 #[] = R at *
  go_enter Try.func80, Try.ntmps80
  go_wp2_with (go_at_call 94
               go_loud (
                 have hr := HRD.out (w.alloc (.cells #[.string { data := #[] }, .bool false] 61)) (grownCap (w.alloc (.cells #[.string { data := #[] }, .bool false] 61)) l.length 0 21 - l.length)
                 rw [World.size_alloc] at hr
                 refine (pack_is _ (hr.below (Below.refl _ _).drew) (by have := HN.out; omega)).mono ?_
                 rintro e w5 ⟨rfl, hb5⟩
                 have hk := (hb5.block w.heap.size (by first | (simp; done) | (simp; omega))).trans (heap2 w (.cells #[.string { data := #[] }, .bool false] 61) (.cells (R ++ Array.replicate (grownCap (w.alloc (.cells #[.string { data := #[] }, .bool false] 61)) l.length 0 21 - l.length) (Value.int .i32 0)) 21)).1
                 have HB5 : Hid (Below w.heap.size w w5) := Lib.hid (((((Below.refl w.heap.size w).alloc (Nat.le_refl _) _).alloc (by simp) _).drew).trans (hb5.mono (by first | (simp; done) | (simp; omega))))
                 have e0 := cell_of_heap (v := .string { data := #[] }) hk (j := 0) rfl
                 have e1 := cell_of_heap (v := .bool false) hk (j := 1) rfl
                 have f0 := frozen_of_heap hk 0
                 have f1 := frozen_of_heap hk 1
                 clear hr hb5 hk))
  all_goals rw [HTX.out]
  all_goals exact bodyPost_ret (v := .tuple #[.agg #[.string (packV l).1, .bool (packV l).2], .int .i64 0]) (by simp [results, Try.results80, go_sem, e0, e1]) rfl ⟨rfl, fin2 HB5.out (Nat.le_refl _) _ _⟩
end Go.Proofs.Ytodfpclekihbhaa

/- law17's do: the calls with plain arguments: what it answers. -/
namespace Go.Proofs.Ytodfpclekihbhaa
open Go.RowKit Go.Shelf
set_option maxRecDepth 100000

variable {w0 w : World} {hb : Nat} {K : Nat → Prop} {H : Hp} {N : Nat}
/-- What a call by do answers and leaves. -/
def DoIs (w0 w : World) (hb : Nat) (K : Nat → Prop) (R : Hp × Int × List Int × Int) (e : Ending) (w' : World) : Prop := ∃ SA SC, e = .returned (.tuple #[.int .i64 R.2.1, .slice SA R.2.2.1.length SC, .int .i64 R.2.2.2]) ∧ RdI w' SA R.2.2.1 ∧ CPost w0 w hb K R.1 w'
theorem RdI.nil (w : World) : RdI w none [] := fun j h => absurd h (Nat.not_lt_zero _)
set_option maxHeartbeats 2000000 in
theorem is_part (c : Car w0 hb K H w) (ok : Ok H N) (hN : N ≤ 900) (r x a b : Int) (tx : ByteArray) (cls : Int) (ra : Option Addr) (rn rC : Nat) (wa : Option Addr) (wn wC : Nat) (on : Bool) : Calls Try.prog 44 #[.pointer (some ⟨hb, 0, none⟩), opV 2 r x a b tx cls ra rn rC wa wn wC on] w (DoIs w0 w hb K ((partH H r a b).1, (partH H r a b).2.1, [], (partH H r a b).2.2)) := by
  unfold opV
  have hB : Below w.heap.size w (w.alloc (.cells #[.int .i64 2, .int .i64 r, .int .i64 x, .int .i64 a, .int .i64 b, .string tx, .int .i64 cls, .slice ra rn rC, .slice wa wn wC, .bool on] 76)) := (Below.refl _ _).alloc (Nat.le_refl _) _
  have HB := Lib.hid hB
  have HOK := Lib.hid ok
  have HCA := Lib.hid (c.below hB)
  have HC := Lib.hid ((c.below hB).part ok (by omega) r a b)
  clear c ok hN hB
  go_enter Try.func44, Try.ntmps44
  go_wp2_with (go_at_call 14; refine HC.out.mono ?_; rintro e w1 ⟨rfl, hc⟩; have HP := Lib.hid hc; clear hc)
  all_goals (try simp only [Exit.inBlock, Exit.then])
  all_goals exact bodyPost_ret (by simp [results, Try.results44, go_sem] <;> rfl) rfl ⟨none, 0, rfl, RdI.nil _, HP.out.pre HB.out⟩
set_option maxHeartbeats 2000000 in
theorem is_copy (c : Car w0 hb K H w) (ok : Ok H N) (hN : N ≤ 900) (r x a b : Int) (tx : ByteArray) (cls : Int) (ra : Option Addr) (rn rC : Nat) (wa : Option Addr) (wn wC : Nat) (on : Bool) : Calls Try.prog 44 #[.pointer (some ⟨hb, 0, none⟩), opV 7 r x a b tx cls ra rn rC wa wn wC on] w (DoIs w0 w hb K ((copyH H r a x).1, 0, [], (copyH H r a x).2)) := by
  unfold opV
  have hB : Below w.heap.size w (w.alloc (.cells #[.int .i64 7, .int .i64 r, .int .i64 x, .int .i64 a, .int .i64 b, .string tx, .int .i64 cls, .slice ra rn rC, .slice wa wn wC, .bool on] 76)) := (Below.refl _ _).alloc (Nat.le_refl _) _
  have HB := Lib.hid hB
  have HOK := Lib.hid ok
  have HCA := Lib.hid (c.below hB)
  have HC := Lib.hid ((c.below hB).copy ok (by omega) r a x)
  clear c ok hN hB
  go_enter Try.func44, Try.ntmps44
  go_wp2_with (go_at_call 15; refine HC.out.mono ?_; rintro e w1 ⟨rfl, hc⟩; have HP := Lib.hid hc; clear hc)
  all_goals (try simp only [Exit.inBlock, Exit.then])
  all_goals exact bodyPost_ret (by simp [results, Try.results44, go_sem] <;> rfl) rfl ⟨none, 0, rfl, RdI.nil _, HP.out.pre HB.out⟩
set_option maxHeartbeats 2000000 in
theorem is_clear (c : Car w0 hb K H w) (ok : Ok H N) (hN : N ≤ 900) (r x a b : Int) (tx : ByteArray) (cls : Int) (ra : Option Addr) (rn rC : Nat) (wa : Option Addr) (wn wC : Nat) (on : Bool) : Calls Try.prog 44 #[.pointer (some ⟨hb, 0, none⟩), opV 8 r x a b tx cls ra rn rC wa wn wC on] w (DoIs w0 w hb K ((clearH H r).1, 0, [], (clearH H r).2)) := by
  unfold opV
  have hB : Below w.heap.size w (w.alloc (.cells #[.int .i64 8, .int .i64 r, .int .i64 x, .int .i64 a, .int .i64 b, .string tx, .int .i64 cls, .slice ra rn rC, .slice wa wn wC, .bool on] 76)) := (Below.refl _ _).alloc (Nat.le_refl _) _
  have HB := Lib.hid hB
  have HOK := Lib.hid ok
  have HCA := Lib.hid (c.below hB)
  have HC := Lib.hid ((c.below hB).clear ok (by omega) r)
  clear c ok hN hB
  go_enter Try.func44, Try.ntmps44
  go_wp2_with (go_at_call 33; refine HC.out.mono ?_; rintro e w1 ⟨rfl, hc⟩; have HP := Lib.hid hc; clear hc)
  all_goals (try simp only [Exit.inBlock, Exit.then])
  all_goals exact bodyPost_ret (by simp [results, Try.results44, go_sem] <;> rfl) rfl ⟨none, 0, rfl, RdI.nil _, HP.out.pre HB.out⟩
set_option maxHeartbeats 2000000 in
theorem is_hold (c : Car w0 hb K H w) (ok : Ok H N) (hN : N ≤ 900) (r x a b : Int) (tx : ByteArray) (cls : Int) (ra : Option Addr) (rn rC : Nat) (wa : Option Addr) (wn wC : Nat) (on : Bool) : Calls Try.prog 44 #[.pointer (some ⟨hb, 0, none⟩), opV 9 r x a b tx cls ra rn rC wa wn wC on] w (DoIs w0 w hb K ((holdH H r).1, 0, [], (holdH H r).2)) := by
  unfold opV
  have hB : Below w.heap.size w (w.alloc (.cells #[.int .i64 9, .int .i64 r, .int .i64 x, .int .i64 a, .int .i64 b, .string tx, .int .i64 cls, .slice ra rn rC, .slice wa wn wC, .bool on] 76)) := (Below.refl _ _).alloc (Nat.le_refl _) _
  have HB := Lib.hid hB
  have HOK := Lib.hid ok
  have HCA := Lib.hid (c.below hB)
  have HC := Lib.hid ((c.below hB).hold ok (by omega) r)
  clear c ok hN hB
  go_enter Try.func44, Try.ntmps44
  go_wp2_with (go_at_call 34; refine HC.out.mono ?_; rintro e w1 ⟨rfl, hc⟩; have HP := Lib.hid hc; clear hc)
  all_goals (try simp only [Exit.inBlock, Exit.then])
  all_goals exact bodyPost_ret (by simp [results, Try.results44, go_sem] <;> rfl) rfl ⟨none, 0, rfl, RdI.nil _, HP.out.pre HB.out⟩
set_option maxHeartbeats 2000000 in
theorem is_drop (c : Car w0 hb K H w) (ok : Ok H N) (hN : N ≤ 900) (r x a b : Int) (tx : ByteArray) (cls : Int) (ra : Option Addr) (rn rC : Nat) (wa : Option Addr) (wn wC : Nat) (on : Bool) : Calls Try.prog 44 #[.pointer (some ⟨hb, 0, none⟩), opV 10 r x a b tx cls ra rn rC wa wn wC on] w (DoIs w0 w hb K ((dropH H r).1, 0, [], (dropH H r).2)) := by
  unfold opV
  have hB : Below w.heap.size w (w.alloc (.cells #[.int .i64 10, .int .i64 r, .int .i64 x, .int .i64 a, .int .i64 b, .string tx, .int .i64 cls, .slice ra rn rC, .slice wa wn wC, .bool on] 76)) := (Below.refl _ _).alloc (Nat.le_refl _) _
  have HB := Lib.hid hB
  have HOK := Lib.hid ok
  have HCA := Lib.hid (c.below hB)
  have HC := Lib.hid ((c.below hB).drop ok (by omega) r)
  clear c ok hN hB
  go_enter Try.func44, Try.ntmps44
  go_wp2_with (go_at_call 35; refine HC.out.mono ?_; rintro e w1 ⟨rfl, hc⟩; have HP := Lib.hid hc; clear hc)
  all_goals (try simp only [Exit.inBlock, Exit.then])
  all_goals exact bodyPost_ret (by simp [results, Try.results44, go_sem] <;> rfl) rfl ⟨none, 0, rfl, RdI.nil _, HP.out.pre HB.out⟩
set_option maxHeartbeats 2000000 in
theorem is_watch (c : Car w0 hb K H w) (ok : Ok H N) (hN : N ≤ 900) (r x a b : Int) (tx : ByteArray) (cls : Int) (ra : Option Addr) (rn rC : Nat) (wa : Option Addr) (wn wC : Nat) (on : Bool) : Calls Try.prog 44 #[.pointer (some ⟨hb, 0, none⟩), opV 11 r x a b tx cls ra rn rC wa wn wC on] w (DoIs w0 w hb K (watchH H on, 0, [], 0)) := by
  unfold opV
  have hB : Below w.heap.size w (w.alloc (.cells #[.int .i64 11, .int .i64 r, .int .i64 x, .int .i64 a, .int .i64 b, .string tx, .int .i64 cls, .slice ra rn rC, .slice wa wn wC, .bool on] 76)) := (Below.refl _ _).alloc (Nat.le_refl _) _
  have HB := Lib.hid hB
  have HOK := Lib.hid ok
  have HCA := Lib.hid (c.below hB)
  have HC := Lib.hid ((c.below hB).watch on)
  clear c ok hN hB
  go_enter Try.func44, Try.ntmps44
  go_wp2_with (go_at_call 36; refine HC.out.mono ?_; rintro e w1 ⟨rfl, hc⟩; have HP := Lib.hid hc; clear hc)
  all_goals (try simp only [Exit.inBlock, Exit.then])
  all_goals exact bodyPost_ret (by simp [results, Try.results44, go_sem] <;> rfl) rfl ⟨none, 0, rfl, RdI.nil _, HP.out.pre HB.out⟩
set_option maxHeartbeats 2000000 in
theorem is_seen (c : Car w0 hb K H w) (ok : Ok H N) (hN : N ≤ 900) (r x a b : Int) (tx : ByteArray) (cls : Int) (ra : Option Addr) (rn rC : Nat) (wa : Option Addr) (wn wC : Nat) (on : Bool) : Calls Try.prog 44 #[.pointer (some ⟨hb, 0, none⟩), opV 12 r x a b tx cls ra rn rC wa wn wC on] w (DoIs w0 w hb K ((seenH H).1, 0, (seenH H).2, 0)) := by
  unfold opV
  have hB : Below w.heap.size w (w.alloc (.cells #[.int .i64 12, .int .i64 r, .int .i64 x, .int .i64 a, .int .i64 b, .string tx, .int .i64 cls, .slice ra rn rC, .slice wa wn wC, .bool on] 76)) := (Below.refl _ _).alloc (Nat.le_refl _) _
  have HB := Lib.hid hB
  have HOK := Lib.hid ok
  have HCA := Lib.hid (c.below hB)
  have HC := Lib.hid ((c.below hB).seen ok (by omega))
  clear c ok hN hB
  go_enter Try.func44, Try.ntmps44
  go_wp2_with (go_at_call 42; refine HC.out.mono ?_; rintro e w1 ⟨LA, LC, rfl, ho, hc⟩; have HP := Lib.hid hc; have HRS := Lib.hid (RdI.of_own ho); clear hc ho)
  all_goals (try simp only [Exit.inBlock, Exit.then])
  all_goals exact bodyPost_ret (by simp [results, Try.results44, go_sem] <;> rfl) rfl ⟨LA, LC, rfl, HRS.out, HP.out.pre HB.out⟩
set_option maxHeartbeats 2000000 in
theorem is_other (c : Car w0 hb K H w) (ok : Ok H N) (hN : N ≤ 900) (r x a b : Int) (tx : ByteArray) (cls : Int) (ra : Option Addr) (rn rC : Nat) (wa : Option Addr) (wn wC : Nat) (on : Bool) {k : Int} (h0 : k ≠ 0) (h1 : k ≠ 1) (h2 : k ≠ 2) (h3 : k ≠ 3) (h4 : k ≠ 4) (h5 : k ≠ 5) (h6 : k ≠ 6) (h7 : k ≠ 7) (h8 : k ≠ 8) (h9 : k ≠ 9) (h10 : k ≠ 10) (h11 : k ≠ 11) (h12 : k ≠ 12) : Calls Try.prog 44 #[.pointer (some ⟨hb, 0, none⟩), opV k r x a b tx cls ra rn rC wa wn wC on] w (DoIs w0 w hb K (H, 0, [], 0)) := by
  unfold opV
  have hB : Below w.heap.size w (w.alloc (.cells #[.int .i64 k, .int .i64 r, .int .i64 x, .int .i64 a, .int .i64 b, .string tx, .int .i64 cls, .slice ra rn rC, .slice wa wn wC, .bool on] 76)) := (Below.refl _ _).alloc (Nat.le_refl _) _
  have HB := Lib.hid hB
  have HOK := Lib.hid ok
  have HCA := Lib.hid (c.below hB)
  have q0 : (k == 0) = false := by simpa using h0
  have q1 : (k == 1) = false := by simpa using h1
  have q2 : (k == 2) = false := by simpa using h2
  have q3 : (k == 3) = false := by simpa using h3
  have q4 : (k == 4) = false := by simpa using h4
  have q5 : (k == 5) = false := by simpa using h5
  have q6 : (k == 6) = false := by simpa using h6
  have q7 : (k == 7) = false := by simpa using h7
  have q8 : (k == 8) = false := by simpa using h8
  have q9 : (k == 9) = false := by simpa using h9
  have q10 : (k == 10) = false := by simpa using h10
  have q11 : (k == 11) = false := by simpa using h11
  have q12 : (k == 12) = false := by simpa using h12
  have HCC := Lib.hid c
  clear c ok hN hB h0 h1 h2 h3 h4 h5 h6 h7 h8 h9 h10 h11 h12
  go_enter Try.func44, Try.ntmps44
  go_wp2
  all_goals (try simp only [Exit.inBlock, Exit.then])
  all_goals exact bodyPost_ret (by simp [results, Try.results44, go_sem] <;> rfl) rfl ⟨none, 0, rfl, RdI.nil _, (CPost.same HCC.out HB.out)⟩
end Go.Proofs.Ytodfpclekihbhaa

