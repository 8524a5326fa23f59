/- Texts on regular expressions, merged: T1, T2. -/
import Derived.Test.YtcajnmhbkjngbaaG11
import Derived.Test.YtcajnmhbkjngbaaG06
import Derived.Shelf.Strings.Builder1
import Derived.Laws.IdiomStrings
/- strings.Builder's WriteByte and Write at this translation (as at the heap's seat). -/
namespace Go.Proofs.Ytcajnmhbkjngbaa
open Go.RowKit Go.Shelf
set_option maxRecDepth 100000

theorem add_off (g i j : Nat) : (⟨g, i, none⟩ : Addr).add j = ⟨g, i + j, none⟩ := by simp [Addr.add]
theorem bld_size : (Try.prog.info? 112).map (·.size) = some 2 := by kernel_rfl
theorem bld_lies : liesAt Try.prog Try.prog.depth 112 (2 / Try.prog.cellsOf 112) 0 112 1 = true := by kernel_rfl
theorem bld_byteI : (Try.prog.info? 5).map (fun i => (i.zero, i.size, i.bytes)) = some (some (.int .u8 0), 1, 1) := by kernel_rfl
set_option maxHeartbeats 1000000 in
theorem bld_used (b : Nat) (w : World) (h0 : w.cell? ⟨b, 0, none⟩ = some (.pointer (some ⟨b, 0, none⟩))) :
    Calls Try.prog 86 #[.pointer (some ⟨b, 0, none⟩)] w fun e w' => e = .returned (.tuple #[]) ∧ w' = w := by
  obtain ⟨j, hj, _⟩ := Option.map_eq_some_iff.1 bld_size
  go_enter Try.func86, Try.ntmps86
  go_wp2
  rw [Lib.run_neq_ptr_same w _ Try.underlying110 hj]
  go_wp2
  go_end0
  exact ⟨rfl, rfl⟩
set_option maxHeartbeats 1000000 in
theorem bld_fresh (b : Nat) (w : World) (h0 : w.cell? ⟨b, 0, none⟩ = some (.pointer none)) (hsh : w.shape? b = some (112, 2)) (hfz : w.frozen? ⟨b, 0, none⟩ = false) :
    Calls Try.prog 86 #[.pointer (some ⟨b, 0, none⟩)] w fun e w' => e = .returned (.tuple #[]) ∧ w' = w.setCell ⟨b, 0, none⟩ (.pointer (some ⟨b, 0, none⟩)) := by
  obtain ⟨j, hj, hjs⟩ := Option.map_eq_some_iff.1 bld_size
  go_enter Try.func86, Try.ntmps86
  go_wp2
  rw [Lib.run_to_unsafe w ⟨b, 0, none⟩ Try.underlying110 Try.underlying158 hj (by rw [hjs]; decide) hsh (Nat.zero_lt_succ 1)]
  simp only [Result.andThen]
  rw [Oper.upon_value]
  go_wp2
  rw [run_callFunc_extern Try.func102 (by kernel_rfl) (by kernel_rfl) (by kernel_rfl) (e := Extern.AbiNoEscape.same) (by kernel_rfl)]
  rw [Lib.run_noEscape]
  simp only [Result.andThen]
  rw [Oper.upon_value]
  go_wp2
  rw [Lib.run_from_unsafe w ⟨b, 0, none⟩ Try.underlying158 Try.underlying110 hj hsh bld_lies]
  simp only [Result.andThen]
  rw [Oper.upon_value]
  go_wp2
  go_end0
  exact ⟨rfl, rfl⟩
theorem bld_check (B b : Nat) (bs : List Value) (w : World) (h : Lib.IsBuilder 112 5 B b bs w) :
    Calls Try.prog 86 #[.pointer (some ⟨b, 0, none⟩)] w fun e w' => e = .returned (.tuple #[]) ∧ (Lib.BuilderAt 112 5 B b (.pointer (some ⟨b, 0, none⟩)) bs w' ∧ Below B w w' ∧ Mut (· = b) w w') := by
  rcases h with h | h
  · refine (bld_fresh b w h.cell0 h.shape h.frozen0).mono ?_
    rintro e w' ⟨rfl, rfl⟩
    exact ⟨rfl, h.used _, (Below.refl B w).setCell (p := ⟨b, 0, none⟩) h.1 _, Mut.setCell _ _ _ _ rfl⟩
  · refine (bld_used b w h.cell0).mono ?_
    rintro e w' ⟨rfl, rfl⟩
    exact ⟨rfl, h, Below.refl B _, Mut.refl _ _⟩
set_option maxHeartbeats 2000000 in
theorem bld_byte (B b : Nat) (bs : List Value) (c : Int) (w : World) (h : Lib.IsBuilder 112 5 B b bs w) (hlen : bs.length + 1 ≤ 140737488355328) (hBw : B ≤ w.heap.size) :
    Calls Try.prog 85 #[.pointer (some ⟨b, 0, none⟩), .int .u8 c] w fun e w' => e = .returned .nilIface ∧ (Lib.BuilderAt 112 5 B b (.pointer (some ⟨b, 0, none⟩)) (bs ++ [.int .u8 c]) w' ∧ Below B w w') := by
  obtain ⟨i0, hi, hz0, hz1, hz2⟩ := info_parts bld_byteI
  go_enter Try.func85, Try.ntmps85
  go_wp2_with (go_at_call 86; refine (bld_check B b bs _ h).mono ?_)
  rintro e w1 ⟨rfl, h1, hb1, hm1⟩
  obtain ⟨hB, v, hbk, hown, hne⟩ := h1
  have c0 : w1.cell? ⟨b, 0, none⟩ = some (.pointer (some ⟨b, 0, none⟩)) := by rw [Lib.cell_of_heap hbk]; rfl
  have c1 : w1.cell? ⟨b, 1, none⟩ = some v := by rw [Lib.cell_of_heap hbk]; rfl
  go_wp2_with (at_builtin; refine wpList_append_own _ rfl _ _ 105 rfl B 5 i0 (.int .u8 0) 1 1 Try.underlying105 hi hz0 hz1 hz2 rfl (by decide) _ _ _ rfl (hown.alloc _) ⟨w1.heap.size, 0, none⟩ 1 1 [.int .u8 c] rfl rfl ?c1 ?c2 ?c3 ?c4 ?c5 ?_)
  case c1 =>
    intro j u hj
    match j, hj with
    | 0, hj => simp at hj; subst hj; simp [Addr.add]
  case c2 => intro u hu; simp at hu; subst hu; rfl
  case c3 => unfold maxLen; omega
  case c4 => omega
  case c5 => have := hb1.size; simp; omega
  intro v' w2 hown' hgrow _
  have hlt : b < w1.heap.size := lt_of_heap hbk
  have hb2 : w2.heap[b]? = some (.cells #[.pointer (some ⟨b, 0, none⟩), v] 112 (0, 0)) := by
    rw [hgrow.block b (by simp; omega) (fun e => hne e.symm), Lib.alloc_old w1 _ b hlt]
    exact hbk
  have d0 : w2.cell? ⟨b, 0, none⟩ = some (.pointer (some ⟨b, 0, none⟩)) := by rw [Lib.cell_of_heap hb2]; rfl
  have d1 : w2.cell? ⟨b, 1, none⟩ = some v := by rw [Lib.cell_of_heap hb2]; rfl
  have f1 : w2.frozen? ⟨b, 1, none⟩ = false := Lib.frozen_of_heap hb2 1
  obtain ⟨g, cap, rfl⟩ : ∃ g cap, v' = .slice (some ⟨g, 0, none⟩) (bs.length + 1) cap := by
    rcases hown'.2 with ⟨_, h0⟩ | ⟨g, cap, cur, hv, _⟩
    · omega
    · exact ⟨g, cap, hv⟩
  go_wp2
  go_ret
  refine ⟨rfl, ?_, ?_⟩
  · exact Lib.BuilderAt.put (T := 112) (e := 5) hB hb2 (bs' := bs ++ [.int .u8 c]) (by simpa using hown') (by decide)
  · exact ((hb1.alloc (by have := hb1.size; omega) _).grown hgrow (by have := hb1.size; simp; omega) (fun k hk => (hown.lt k hk).1)).setCell (p := ⟨b, 1, none⟩) hB _
set_option maxHeartbeats 2000000 in
theorem bld_write (B b : Nat) (bs : List Value) (w : World) (p n C : Nat) (vs : List Value) (h : Lib.IsBuilder 112 5 B b bs w) (hlen : bs.length + n ≤ 140737488355328) (hBw : B ≤ w.heap.size) (hn : vs.length = n) (hn0 : 0 < n) (hc : ∀ W, Mut (· = b) w W → ∀ j u, vs[j]? = some u → W.cell? ⟨p, j, none⟩ = some u) (h1 : ∀ u ∈ vs, u.oneCell' = true) :
    Calls Try.prog 93 #[.pointer (some ⟨b, 0, none⟩), .slice (some ⟨p, 0, none⟩) n C] w fun e w' => e = .returned (.tuple #[.int .i64 n, .nilIface]) ∧ (Lib.BuilderAt 112 5 B b (.pointer (some ⟨b, 0, none⟩)) (bs ++ vs) w' ∧ Below B w w') := by
  obtain ⟨i0, hi, hz0, hz1, hz2⟩ := info_parts bld_byteI
  have HN := Lib.hid hn
  have HC := Lib.hid hc
  have H1 := Lib.hid h1
  clear hn hc h1
  go_enter Try.func93, Try.ntmps93
  go_wp2_with (go_at_call 86; refine (bld_check B b bs _ h).mono ?_)
  rintro e w1 ⟨rfl, h1, hb1, hm1⟩
  obtain ⟨hB, v, hbk, hown, hne⟩ := h1
  have c0 : w1.cell? ⟨b, 0, none⟩ = some (.pointer (some ⟨b, 0, none⟩)) := by rw [Lib.cell_of_heap hbk]; rfl
  have c1 : w1.cell? ⟨b, 1, none⟩ = some v := by rw [Lib.cell_of_heap hbk]; rfl
  go_wp2_with (at_builtin; refine wpList_append_own _ rfl _ _ 105 rfl B 5 i0 (.int .u8 0) 1 1 Try.underlying105 hi hz0 hz1 hz2 rfl (by decide) _ _ _ rfl hown ⟨p, 0, none⟩ n C vs rfl (by rw [HN.out]; omega) ?c1 H1.out ?c3 ?c4 ?c5 ?_)
  case c1 =>
    intro j u hj
    rw [add_off, Nat.zero_add]
    exact HC.out _ hm1 j u hj
  case c3 => unfold maxLen; omega
  case c4 => omega
  case c5 => have := hb1.size; omega
  intro v' w2 hown' hgrow _
  have hlt : b < w1.heap.size := lt_of_heap hbk
  have hb2 : w2.heap[b]? = some (.cells #[.pointer (some ⟨b, 0, none⟩), v] 112 (0, 0)) := by
    rw [hgrow.block b hlt (fun e => hne e.symm)]
    exact hbk
  have d0 : w2.cell? ⟨b, 0, none⟩ = some (.pointer (some ⟨b, 0, none⟩)) := by rw [Lib.cell_of_heap hb2]; rfl
  have d1 : w2.cell? ⟨b, 1, none⟩ = some v := by rw [Lib.cell_of_heap hb2]; rfl
  have f1 : w2.frozen? ⟨b, 1, none⟩ = false := Lib.frozen_of_heap hb2 1
  obtain ⟨g, cap, rfl⟩ : ∃ g cap, v' = .slice (some ⟨g, 0, none⟩) (bs.length + n) cap := by
    rcases hown'.2 with ⟨_, h0⟩ | ⟨g, cap, cur, hv, _⟩
    · omega
    · exact ⟨g, cap, hv⟩
  go_wp2
  go_ret2
  refine ⟨rfl, ?_, ?_⟩
  · exact Lib.BuilderAt.put (T := 112) (e := 5) hB hb2 (bs' := bs ++ vs) (by have := HN.out; rw [List.length_append, this]; exact hown') (by decide)
  · exact (hb1.grown hgrow (by have := hb1.size; omega) (fun k hk => (hown.lt k hk).1)).setCell (p := ⟨b, 1, none⟩) hB _
/-- A list of characters that can be read, wherever in its block it begins. -/
def RdRo (w : World) (A : Option Addr) (l : List Int) : Prop := ∀ j (h : j < l.length), ∃ g o, A = some ⟨g, o, none⟩ ∧ g < w.heap.size ∧ w.cell? ⟨g, o + j, none⟩ = some (.int .i32 (l[j]'h))
theorem RdRo.below {w w' : World} {A : Option Addr} {l : List Int} (h : RdRo w A l) (hb : Below w.heap.size w w') : RdRo w' A l := fun j hj => by
  obtain ⟨g, o, h1, h2, h3⟩ := h j hj
  exact ⟨g, o, h1, Nat.lt_of_lt_of_le h2 hb.size, keep3 hb h3⟩
theorem RdR.o {w : World} {A : Option Addr} {l : List Int} (h : RdR w A l) : RdRo w A l := fun j hj => by
  obtain ⟨g, h1, h2, h3⟩ := h j hj
  exact ⟨g, 0, h1, h2, by rw [Nat.zero_add]; exact h3⟩
end Go.Proofs.Ytcajnmhbkjngbaa

/- text.packWide, text.pack, text.Of: what they answer. -/
namespace Go.Proofs.Ytcajnmhbkjngbaa
open Go.RowKit Go.Shelf
set_option maxRecDepth 100000

theorem u8m (x : Int) : ∃ u : UInt8, x % 256 = (u.toNat : Int) := by
  refine ⟨UInt8.ofNat (x % 256).toNat, ?_⟩
  rw [UInt8.toNat_ofNat']
  omega
theorem isb_below {w w' : World} {B b : Nat} {bs : List Value} (h : Lib.IsBuilder 112 5 B b bs w) (hb : Below w.heap.size w w') : Lib.IsBuilder 112 5 B b bs w' := by
  rcases h with ⟨h1, v, h2, h3, h4⟩ | ⟨h1, v, h2, h3, h4⟩
  · exact .inl ⟨h1, v, (hb.block _ (lt_of_heap h2)).trans h2, own_mut h3 (Mut.of_below (S := fun _ => False) hb) fun _ _ h => h, h4⟩
  · exact .inr ⟨h1, v, (hb.block _ (lt_of_heap h2)).trans h2, own_mut h3 (Mut.of_below (S := fun _ => False) hb) fun _ _ h => h, h4⟩
theorem new_cells {wr W : World} {b : Nat} {bs : List Value} (h : Lib.IsBuilder 112 5 b b bs wr) (vs : Array Value) (hW : Mut (· = b) (wr.alloc (.cells vs 5)) W) (j : Nat) (u : Value) (hu : vs.toList[j]? = some u) : W.cell? ⟨wr.heap.size, j, none⟩ = some u := by
  have hk := heap_alloc_new wr (.cells vs 5)
  have hlt : b < wr.heap.size := by
    rcases h with ⟨_, v, h2, _⟩ | ⟨_, v, h2, _⟩ <;> exact lt_of_heap h2
  have hb := hW.block _ (lt_of_heap hk) (by omega)
  rw [World.cell?_of_block (a := ⟨wr.heap.size, j, none⟩) hb]
  exact cell_of_heap hk (by simpa using hu)
theorem fin2t {w W : World} {B : Nat} (hb : Below B w W) (hB : w.heap.size ≤ B) (a b : Value) : Below w.heap.size w ((W.setCell ⟨w.heap.size, 0, none⟩ a).setCell ⟨w.heap.size, 1, none⟩ b) :=
  (hb.mono hB).trans (((Mut.setCell (S := (· = w.heap.size)) _ _ _ _ rfl).then (Mut.setCell (S := (· = w.heap.size)) _ _ _ _ rfl)).to_below hb.size fun k hk => by omega)
theorem runes_ints (s : ByteArray) : ∀ (bound i : Nat) (acc : Array Value) (l : List Int), acc.toList = l.map (Value.int .i32) → ∃ l' : List Int, (Conv.runesFrom s bound i acc).toList = l'.map (Value.int .i32)
  | 0, _, acc, l, h => ⟨l, by simpa [Conv.runesFrom] using h⟩
  | bound + 1, i, acc, l, h => by
    unfold Conv.runesFrom
    split
    · exact runes_ints s bound _ _ (l ++ [Int.ofNat (Utf8.decode s i).1]) (by rw [Array.toList_push, h, List.map_append]; rfl)
    · exact ⟨l, h⟩
def u8of (x : Int) : UInt8 := UInt8.ofNat (x % 256).toNat
theorem u8of_eq (x : Int) : x % 256 = ((u8of x).toNat : Int) := by
  unfold u8of
  rw [UInt8.toNat_ofNat']
  omega
/-- Characters with four bytes each. -/
def wideB (l : List Int) : List UInt8 := l.flatMap fun v => [u8of (v / 16777216), u8of (v / 65536), u8of (v / 256), u8of v]
theorem wideB_append (a b : List Int) : wideB (a ++ b) = wideB a ++ wideB b := by simp [wideB]
theorem wideB_len (l : List Int) : (wideB l).length = 4 * l.length := by
  induction l with
  | nil => rfl
  | cons v l ih =>
    have e : wideB (v :: l) = [u8of (v / 16777216), u8of (v / 65536), u8of (v / 256), u8of v] ++ wideB l := by simp [wideB]
    rw [e, List.length_append, ih]
    simp
    omega
open Classical in
/-- The string with some characters. -/
noncomputable def packV (l : List Int) : ByteArray × Bool := if ∃ x ∈ l, 255 < x then (⟨(wideB l).toArray⟩, true) else (⟨(l.map u8of).toArray⟩, false)
theorem packV_size (l : List Int) : (packV l).1.size ≤ 4 * l.length := by
  unfold packV
  split
  · show (wideB l).toArray.size ≤ _
    simp [wideB_len]
  · show (l.map u8of).toArray.size ≤ _
    simp
    omega
set_option maxHeartbeats 2000000 in
theorem packWide_is {w : World} {ad : Option Addr} {l : List Int} (C : Nat) (h : RdRo w ad l) (hn : l.length ≤ 1000000) :
    Calls Try.prog 67 #[.slice ad l.length C] w fun e w' => e = .returned (.string ⟨(wideB l).toArray⟩) ∧ Below w.heap.size w w' := by
  have H := Lib.hid h
  have HN := Lib.hid hn
  have HB0 := Lib.hid (Lib.fresh_isBuilder 112 5 w)
  have HW0 : Hid (Below w.heap.size w (w.alloc (.cells #[.pointer none, .slice none 0 0] 112))) := Lib.hid ((Below.refl _ _).alloc (Nat.le_refl _) _)
  clear h
  go_enter Try.func67, Try.ntmps67
  go_wp2
  go_loopw [8] (fun p wr => ∃ (j : Nat) (bs : List UInt8), j ≤ l.length ∧ p = .int .i64 j ∧ Hid (bs = wideB (l.take j)) ∧ Hid (Lib.IsBuilder 112 5 w.heap.size w.heap.size (Lib.byteCells bs) wr ∧ Below w.heap.size w wr)) (fun i _ => l.length - (intOf i).toNat)
  case atStart => exact ⟨0, [], Nat.zero_le _, rfl, Lib.hid rfl, Lib.hid ⟨HB0.out, HW0.out⟩⟩
  case round =>
    obtain ⟨j, bs, hj, rfl, HZ, HR⟩ := hrel
    by_cases hlt : j < l.length
    · obtain ⟨g, o, hA, hg, c0⟩ := (H.out.below HR.out.2) j hlt
      have q0 : (0 : Int) ≤ (j : Int) := by omega
      have q1 : (j : Int) < (l.length : Int) := by omega
      have HZL : Hid (bs.length = 4 * j) := Lib.hid (by rw [HZ.out, wideB_len, List.length_take]; omega)
      have HT : Hid (l.take (j + 1) = l.take j ++ [l[j]'hlt]) := Lib.hid (List.take_succ_eq_append_getElem hlt)
      rw [hA]
      clear hA
      generalize l[j]'hlt = v at *
      have e1 := u8of_eq (v / 16777216)
      generalize hu1 : u8of (v / 16777216) = u1 at e1
      have e2 := u8of_eq (v / 65536)
      generalize hu2 : u8of (v / 65536) = u2 at e2
      have e3 := u8of_eq (v / 256)
      generalize hu3 : u8of (v / 256) = u3 at e3
      have e4 := u8of_eq v
      generalize hu4 : u8of v = u4 at e4
      have HE := Lib.hid (And.intro e1 (And.intro e2 (And.intro e3 e4)))
      have hq2 : l.length ≤ 1000000 := HN.out
      have HU : Hid (wideB [v] = [u1, u2, u3, u4]) := Lib.hid (by simp [wideB, hu1, hu2, hu3, hu4])
      clear e1 e2 e3 e4 hu1 hu2 hu3 hu4
      go_wp2_with (go_at_call 93
                   rw [HE.out.1, HE.out.2.1, HE.out.2.2.1, HE.out.2.2.2]
                   have hba : Below wr.heap.size wr (wr.alloc (.cells #[.int .u8 u1.toNat, .int .u8 u2.toNat, .int .u8 u3.toNat, .int .u8 u4.toNat] 5)) := (Below.refl _ _).alloc (Nat.le_refl _) _
                   have hk := heap_alloc_new wr (.cells #[.int .u8 u1.toNat, .int .u8 u2.toNat, .int .u8 u3.toNat, .int .u8 u4.toNat] 5)
                   refine (bld_write w.heap.size w.heap.size (Lib.byteCells bs) _ wr.heap.size 4 4 (Lib.byteCells [u1, u2, u3, u4]) (isb_below HR.out.1 hba) ?c1 ?c2 rfl (by decide) ?c3 ?c4).mono ?_
                   case c1 => have := HZL.out; simp [Lib.byteCells]; omega
                   case c2 => have := HR.out.2.size; simp; omega
                   case c3 => exact fun W hW j u hu => new_cells HR.out.1 _ hW j u (by simpa [Lib.byteCells] using hu)
                   case c4 => intro u hu; simp [Lib.byteCells] at hu; rcases hu with rfl | rfl | rfl | rfl <;> rfl
                   rintro e w5 ⟨rfl, h5, hb5⟩
                   have HR5 : Hid (Lib.IsBuilder 112 5 w.heap.size w.heap.size (Lib.byteCells (bs ++ [u1, u2, u3, u4])) w5 ∧ Below w.heap.size w w5) := Lib.hid ⟨.inr (by simpa [Lib.byteCells] using h5), (HR.out.2.trans (hba.mono HR.out.2.size)).trans hb5⟩
                   clear h5 hb5 hba hk)
      go_roundw
      case rel => exact ⟨j + 1, bs ++ [u1, u2, u3, u4], by omega, by go_num, Lib.hid (by rw [HT.out, wideB_append, HZ.out, HU.out]), HR5⟩
      case measure => simp [intOf]; omega
    · obtain rfl : j = l.length := by omega
      clear hlt hj
      go_wp2_with (go_at_call 61; refine (Try.Builder_String_any _ _ bs _ HR.out.1 HR.out.2.size).mono ?_; rintro e w3 ⟨rfl, hb⟩; have HB3 := Lib.hid hb; clear hb)
      go_ret
      have hz := HZ.out
      rw [List.take_length] at hz
      rw [hz]
      exact ⟨rfl, HR.out.2.trans HB3.out⟩
set_option maxHeartbeats 2000000 in
theorem pack_is {w : World} {ad : Option Addr} {l : List Int} (C : Nat) (h : RdRo w ad l) (hn : l.length ≤ 1000000) :
    Calls Try.prog 57 #[.slice ad l.length C] w fun e w' => e = .returned (.agg #[.string (packV l).1, .bool (packV l).2]) ∧ Below w.heap.size w w' := by
  have H := Lib.hid h
  have HN := Lib.hid hn
  have hfb := Lib.fresh_isBuilder 112 5 (w.alloc (.cells #[.string { data := #[] }, .bool false] 39))
  rw [World.size_alloc] at hfb
  have HB0 := Lib.hid hfb
  have HW0 : Hid (Below w.heap.size w ((w.alloc (.cells #[.string { data := #[] }, .bool false] 39)).alloc (.cells #[.pointer none, .slice none 0 0] 112))) := Lib.hid (((Below.refl _ _).alloc (Nat.le_refl _) _).alloc (by simp) _)
  have HK0 := Lib.hid (heap2 w (.cells #[.string { data := #[] }, .bool false] 39) (.cells #[.pointer none, .slice none 0 0] 112)).1
  clear h hfb
  go_enter Try.func57, Try.ntmps57
  go_wp2
  go_loopw [8] (fun p wr => ∃ (j : Nat) (bs : List UInt8), j ≤ l.length ∧ p = .int .i64 j ∧ Hid (bs = (l.take j).map u8of ∧ ∀ x ∈ l.take j, ¬ 255 < x) ∧ Hid (Lib.IsBuilder 112 5 (w.heap.size + 1) (w.heap.size + 1) (Lib.byteCells bs) wr ∧ Below (w.heap.size + 1) ((w.alloc (.cells #[.string { data := #[] }, .bool false] 39)).alloc (.cells #[.pointer none, .slice none 0 0] 112)) wr)) (fun i _ => l.length - (intOf i).toNat)
  case atStart => exact ⟨0, [], Nat.zero_le _, rfl, Lib.hid ⟨rfl, fun x hx => by simp at hx⟩, Lib.hid ⟨HB0.out, Below.refl _ _⟩⟩
  case round =>
    obtain ⟨j, bs, hj, rfl, HZ, HR⟩ := hrel
    have HRB : Hid (Below w.heap.size w wr) := Lib.hid (HW0.out.trans (HR.out.2.mono (Nat.le_succ _)))
    have hk := (HR.out.2.block w.heap.size (Nat.lt_succ_self _)).trans HK0.out
    have HK := Lib.hid hk
    have z0 : w.heap.size < wr.heap.size := lt_of_heap hk
    clear hk
    by_cases hlt : j < l.length
    · obtain ⟨g, o, hA, hg, c0⟩ := (H.out.below HRB.out) j hlt
      have q0 : (0 : Int) ≤ (j : Int) := by omega
      have q1 : (j : Int) < (l.length : Int) := by omega
      have HZL : Hid (bs.length = j) := Lib.hid (by rw [HZ.out.1, List.length_map, List.length_take]; omega)
      have HT : Hid (l.take (j + 1) = l.take j ++ [l[j]'hlt] ∧ l[j]'hlt ∈ l) := Lib.hid ⟨List.take_succ_eq_append_getElem hlt, List.getElem_mem _⟩
      rw [hA]
      generalize hv : l[j]'hlt = v at *
      clear hv
      by_cases hbig : 255 < v
      · have HPV : Hid (packV l = (⟨(wideB l).toArray⟩, true)) := Lib.hid (if_pos ⟨v, HT.out.2, hbig⟩)
        have HCALL := Lib.hid (packWide_is C (H.out.below HRB.out) HN.out)
        rw [hA] at HCALL
        clear hA
        go_wp2_with (go_at_call 67; refine HCALL.out.mono ?_; rintro e w5 ⟨rfl, hb5⟩
                     have HB5 := Lib.hid (HRB.out.trans (hb5.mono HRB.out.size))
                     have e0 := keep3 hb5 (cell_of_heap (v := .string { data := #[] }) HK.out (j := 0) rfl)
                     have e1 := keep3 hb5 (cell_of_heap (v := .bool false) HK.out (j := 1) rfl)
                     have f0 := keepf hb5 (cell_of_heap (v := .string { data := #[] }) HK.out (j := 0) rfl) (frozen_of_heap HK.out 0)
                     have f1 := keepf hb5 (cell_of_heap (v := .bool false) HK.out (j := 1) rfl) (frozen_of_heap HK.out 1)
                     clear hb5)
        all_goals rw [HPV.out]
        all_goals exact bodyPost_ret (v := .agg #[.string ⟨(wideB l).toArray⟩, .bool true]) (by simp [results, Try.results57, go_sem, e0, e1]) rfl ⟨rfl, fin2t HB5.out (Nat.le_refl _) _ _⟩
      · have e1 := u8of_eq v
        have HNB : Hid (¬ 255 < v) := Lib.hid hbig
        generalize hu : u8of v = u at e1
        have HU := Lib.hid hu
        have HE := Lib.hid e1
        clear hu
        have hq2 : l.length ≤ 1000000 := HN.out
        clear e1 hA
        go_wp2_with (go_at_call 85
                     rw [HE.out]
                     refine (bld_byte (w.heap.size + 1) (w.heap.size + 1) (Lib.byteCells bs) _ wr HR.out.1 ?c1 ?c2).mono ?_
                     case c1 => have := HZL.out; simp [Lib.byteCells]; omega
                     case c2 => have := HR.out.2.size; simp at this; omega
                     rintro e w5 ⟨rfl, h5, hb5⟩
                     have HR5 : Hid (Lib.IsBuilder 112 5 (w.heap.size + 1) (w.heap.size + 1) (Lib.byteCells (bs ++ [u])) w5 ∧ Below (w.heap.size + 1) ((w.alloc (.cells #[.string { data := #[] }, .bool false] 39)).alloc (.cells #[.pointer none, .slice none 0 0] 112)) w5) := Lib.hid ⟨.inr (by simpa [Lib.byteCells] using h5), HR.out.2.trans hb5⟩
                     clear h5 hb5)
        go_roundw
        case rel => exact ⟨j + 1, bs ++ [u], by omega, by go_num, Lib.hid (by rw [HT.out.1, List.map_append, ← HZ.out.1]; exact ⟨by simp [HU.out], fun x hx => by rcases List.mem_append.1 hx with hx | hx; (have h1 := HZ.out.2 x hx; omega); (rw [show x = v by simpa using hx]; (have h1 := HNB.out; omega))⟩), HR5⟩
        case measure => simp [intOf]; omega
    · obtain rfl : j = l.length := by omega
      clear hlt hj
      go_wp2_with (go_at_call 61; refine (Try.Builder_String_any _ _ bs _ HR.out.1 (by have := HR.out.2.size; simp at this; omega)).mono ?_; rintro e w5 ⟨rfl, hb5⟩
                   have HB5 := Lib.hid (HRB.out.trans (hb5.mono (Nat.le_succ _)))
                   have hk5 := (hb5.block w.heap.size (Nat.lt_succ_self _)).trans HK.out
                   have e0 := cell_of_heap (v := .string { data := #[] }) hk5 (j := 0) rfl
                   have e1 := cell_of_heap (v := .bool false) hk5 (j := 1) rfl
                   have f0 := frozen_of_heap hk5 0
                   have f1 := frozen_of_heap hk5 1
                   clear hb5 hk5)
      all_goals
        have hz := HZ.out
        rw [List.take_length] at hz
        have hpv : packV l = (⟨(l.map u8of).toArray⟩, false) := if_neg fun ⟨x, hx, h⟩ => by have h1 := hz.2 x hx; omega
        rw [hpv, ← hz.1]
        exact bodyPost_ret (v := .agg #[.string ⟨bs.toArray⟩, .bool false]) (by simp [results, Try.results57, go_sem, e0, e1]) rfl ⟨rfl, fin2t HB5.out (Nat.le_refl _) _ _⟩
/-- The characters of a text. -/
def runesL (s : ByteArray) : List Int := (Conv.runesFrom s s.size 0 #[]).toList.map intOf
noncomputable def textOf (s : ByteArray) : ByteArray × Bool := packV (runesL s)
theorem runesL_len (s : ByteArray) : (runesL s).length ≤ s.size := by
  have := size_runesFrom s s.size 0 #[]
  unfold runesL
  simp at this ⊢
  omega
theorem textOf_size (s : ByteArray) : (textOf s).1.size ≤ 4 * s.size := by
  have h1 := packV_size (runesL s)
  have h2 := runesL_len s
  unfold textOf
  omega
set_option maxHeartbeats 2000000 in
theorem of_is (s : ByteArray) (hs : s.size ≤ 1000) (w : World) :
    Calls Try.prog 45 #[.string s] w fun e w' => e = .returned (.tuple #[.agg #[.string (textOf s).1, .bool (textOf s).2], .int .i64 0]) ∧ Below w.heap.size w w' := by
  have hsz := size_runesFrom s s.size 0 #[]
  obtain ⟨l, hl⟩ := runes_ints s s.size 0 #[] [] rfl
  have HTX : Hid (textOf s = packV l) := Lib.hid (by unfold textOf runesL; rw [hl, List.map_map]; congr 1; exact List.map_id' _)
  have hll : (Conv.runesFrom s s.size 0 #[]).size = l.length := by rw [← Array.length_toList, hl, List.length_map]
  have hcv := fun w => run_runes_of_string (P := Try.prog) w 9 90 21 s Try.underlying9 Try.underlying90 Try.underlying21 (by simp at hsz; omega)
  have hn : l.length ≤ 1000 := by simp at hsz; omega
  rw [hll] at hcv
  have hrd : ∀ (W : World) (cap : Nat), RdR (W.alloc (.cells (Conv.runesFrom s s.size 0 #[] ++ Array.replicate cap (.int .i32 0)) 21)) (some ⟨W.heap.size, 0, none⟩) l := fun W cap j hj => by
    refine ⟨W.heap.size, rfl, by simp, cell_of_heap (heap_alloc_new W _) ?_⟩
    rw [Array.getElem?_append_left (by rw [hll]; exact hj), ← Array.getElem?_toList, hl]
    simp [hj]
  have HRD := Lib.hid hrd
  have k1 : ¬ (65536 : Int) < (l.length : Int) := by omega
  have HN := Lib.hid hn
  have k2 : ¬ 65536 < l.length := by omega
  clear hrd hll hl hsz hs hn
  generalize Conv.runesFrom s s.size 0 #[] = R at *
  go_enter Try.func45, Try.ntmps45
  go_wp2_with (go_at_call 57
               go_loud (
                 have hr := HRD.out (w.alloc (.cells #[.string { data := #[] }, .bool false] 39)) (grownCap (w.alloc (.cells #[.string { data := #[] }, .bool false] 39)) l.length 0 21 - l.length)
                 rw [World.size_alloc] at hr
                 refine (pack_is _ (hr.below (Below.refl _ _).drew).o (by have := HN.out; omega)).mono ?_
                 rintro e w5 ⟨rfl, hb5⟩
                 have hk := (hb5.block w.heap.size (by first | (simp; done) | (simp; omega))).trans (heap2 w (.cells #[.string { data := #[] }, .bool false] 39) (.cells (R ++ Array.replicate (grownCap (w.alloc (.cells #[.string { data := #[] }, .bool false] 39)) l.length 0 21 - l.length) (Value.int .i32 0)) 21)).1
                 have HB5 : Hid (Below w.heap.size w w5) := Lib.hid (((((Below.refl w.heap.size w).alloc (Nat.le_refl _) _).alloc (by simp) _).drew).trans (hb5.mono (by first | (simp; done) | (simp; omega))))
                 have e0 := cell_of_heap (v := .string { data := #[] }) hk (j := 0) rfl
                 have e1 := cell_of_heap (v := .bool false) hk (j := 1) rfl
                 have f0 := frozen_of_heap hk 0
                 have f1 := frozen_of_heap hk 1
                 clear hr hb5 hk))
  all_goals rw [HTX.out]
  all_goals exact bodyPost_ret (v := .tuple #[.agg #[.string (packV l).1, .bool (packV l).2], .int .i64 0]) (by simp [results, Try.results45, go_sem, e0, e1]) rfl ⟨rfl, fin2t HB5.out (Nat.le_refl _) _ _⟩
end Go.Proofs.Ytcajnmhbkjngbaa

