/- Texts on the heap, merged: Shelf, W38, W39, W40. -/
import Derived.Shelf.Strings.Builder1
import Derived.Shelf.Small.Bits
import Derived.Shelf.Strings.BuilderF
import Derived.Shelf.Strings.BuilderK
import Derived.Shelf.Strconv.Itoa0
import Derived.Shelf.Strings.BuilderCap
import Derived.Ground.SlgnProg
import Derived.Shelf.SlicesE.Clone
import Derived.Test.YtodfpclekihbhaaProg
import Derived.Test.YtodfpclekihbhaaG14
import Derived.Laws.IdiomStrings
/-
  DERIVED: THE SHELF's CONTRACTS AT THIS DUMP, IN PLAIN WORDS (tools/lay-plain.mjs out of 'TryShelf.lean', which tools/lay-shelf.mjs wrote): THE SAME DECLARATIONS UNDER THE SAME NAMES: 'import', 'namespace', 'open', 'def', 'theorem' AND NOTHING ELSE: no command of the shelf's: FOR A HAND-IN. Each laying: the table of numbers ('.._ren') and one theorem, a field a fact of the dump's own or the kernel's comparison; each contract: ONE APPLICATION.
-/
namespace Go.Proofs
open Go.Shelf
def Try.lays169_ren : Go.Shelf.Ren := ⟨fun | 169 => 102 | n => n, fun | 70 => 145 | 9 => 9 | 0 => 0 | 72 => 148 | 37 => 146 | 127 => 168 | 3 => 3 | 5 => 5 | n => n, fun | n => n⟩
theorem Try.lays169 : Go.Proofs.Lays.n169 Try.prog Try.lays169_ren := {
  mixed := by kernel_rfl
  f169 := Try.func102.trans (congrArg some (by kernel_rfl))
  t0 := Try.underlying0
  a0 := Try.isAgg0
  z0 := Try.sizeOf0
  v0 := Try.zeroValue0
  t3 := Try.underlying3
  a3 := Try.isAgg3
  z3 := Try.sizeOf3
  v3 := Try.zeroValue3
  t9 := Try.underlying9
  a9 := Try.isAgg9
  z9 := Try.sizeOf9
  v9 := Try.zeroValue9
  t37 := Try.underlying146
  a37 := Try.isAgg146
  z37 := Try.sizeOf146
  v37 := Try.zeroValue146
  t70 := Try.underlying145
  a70 := Try.isAgg145
  z70 := Try.sizeOf145
  v70 := Try.zeroValue145
  t72 := Try.underlying148
  a72 := Try.isAgg148
  z72 := Try.sizeOf148
  v72 := Try.zeroValue148
  t127 := Try.underlying168
  a127 := Try.isAgg168
  z127 := Try.sizeOf168
  v127 := Try.zeroValue168 }
theorem Try.Builder_Extra_169 : Builder.Extra Try.prog Try.lays169_ren := {
  sizeBuilder := by kernel_rfl
  liesBuilder := by kernel_rfl
  t5 := Try.underlying5
  a5 := Try.isAgg5
  z5 := Try.sizeOf5
  v5 := Try.zeroValue5
  infoByte := by kernel_rfl
  cellsByte := by kernel_rfl
  sizeByte := by kernel_rfl
  neB5 := by decide }
open Go.RowKit in
/-- (*strings.Builder).String: "String returns the accumulated string.": OF A BUILDER THAT HOLDS AT LEAST ONE BYTE. ✋ THE MODEL FREEZES THOSE BYTES IN THE BUFFER (unsafe.String): a later write INTO them ends the model's run without an answer; a later append BEHIND them goes on. The statement's order of evaluation is drawn: one draw. (LAID: no walk: one application.) -/
theorem Try.Builder_String (B b : Nat) (l : List UInt8) (w : World) (h : Lib.IsBuilder 148 5 B b (Lib.byteCells l) w) (h0 : l ≠ []) :
    Calls Try.prog 102 #[.pointer (some ⟨b, 0, none⟩)] w fun e w' => e = .returned (.string ⟨l.toArray⟩) ∧ Below B w w' := Any.Builder_String Try.lays169 Try.Builder_Extra_169 B b l w h h0
open Go.RowKit in
/-- (*strings.Builder).String OF A BUILDER THAT HOLDS NO BYTE: the empty string. (Its buffer is nil, or a row of which it has taken nothing yet; where that row has NO capacity the model lays one new block for unsafe.SliceData's 'some address'.) One draw. (LAID: no walk: one application.) -/
theorem Try.Builder_String_empty (B b : Nat) (w : World) (h : Lib.IsBuilder 148 5 B b [] w) (hBw : B ≤ w.heap.size) :
    Calls Try.prog 102 #[.pointer (some ⟨b, 0, none⟩)] w fun e w' => e = .returned (.string ⟨#[]⟩) ∧ Below B w w' := Any.Builder_String_empty Try.lays169 Try.Builder_Extra_169 B b w h hBw
open Go.RowKit in
/-- (*strings.Builder).String: "String returns the accumulated string.": WHATEVER THE BUILDER HOLDS. (LAID: no walk: one application.) -/
theorem Try.Builder_String_any (B b : Nat) (l : List UInt8) (w : World) (h : Lib.IsBuilder 148 5 B b (Lib.byteCells l) w) (hBw : B ≤ w.heap.size) :
    Calls Try.prog 102 #[.pointer (some ⟨b, 0, none⟩)] w fun e w' => e = .returned (.string ⟨l.toArray⟩) ∧ Below B w w' := Any.Builder_String_any Try.lays169 Try.Builder_Extra_169 B b l w h hBw
def Try.lays128_ren : Go.Shelf.Ren := ⟨fun | 128 => 111 | n => n, fun | 51 => 162 | 3 => 3 | 4 => 4 | 46 => 143 | 5 => 5 | 9 => 9 | n => n, fun | n => n⟩
theorem Try.lays128 : Go.Proofs.Lays.n128 Try.prog Try.lays128_ren := {
  mixed := by kernel_rfl
  f128 := Try.func111.trans (congrArg some (by kernel_rfl))
  t3 := Try.underlying3
  a3 := Try.isAgg3
  z3 := Try.sizeOf3
  v3 := Try.zeroValue3
  t4 := Try.underlying4
  a4 := Try.isAgg4
  z4 := Try.sizeOf4
  v4 := Try.zeroValue4
  t5 := Try.underlying5
  a5 := Try.isAgg5
  z5 := Try.sizeOf5
  v5 := Try.zeroValue5
  t9 := Try.underlying9
  a9 := Try.isAgg9
  z9 := Try.sizeOf9
  v9 := Try.zeroValue9
  t46 := Try.underlying143
  a46 := Try.isAgg143
  z46 := Try.sizeOf143
  v46 := Try.zeroValue143
  t51 := Try.underlying162
  a51 := Try.isAgg162
  z51 := Try.sizeOf162
  v51 := Try.zeroValue162 }
/-- bits.Len32: "Len32 returns the minimum number of bits required to represent x; the result is 0 for x == 0.": IT RETURNS 'Lib.bitLen x'; the world is as it was. ('h0', 'h1': x is a uint32.) (LAID: no walk: one application.) -/
theorem Try.bits_Len32 (x : Int) (w : World) (h0 : 0 ≤ x) (h1 : x ≤ 4294967295) :
    Calls Try.prog 111 #[.int .u32 x] w fun e w' => e = .returned (.int .i64 (Lib.bitLen x.toNat)) ∧ w' = w := Any.bits_Len32 Try.lays128 x w h0 h1
def Try.lays125_ren : Go.Shelf.Ren := ⟨fun | 125 => 97 | 128 => 111 | 129 => 112 | n => n, fun | 46 => 143 | 3 => 3 | 51 => 162 | 53 => 164 | 4 => 4 | 5 => 5 | 9 => 9 | n => n, fun | n => n⟩
theorem Try.lays125 : Go.Proofs.Lays.n125 Try.prog Try.lays125_ren := {
  mixed := by kernel_rfl
  f125 := Try.func97.trans (congrArg some (by kernel_rfl))
  f128 := Try.func111.trans (congrArg some (by kernel_rfl))
  f129 := Try.func112.trans (congrArg some (by kernel_rfl))
  t3 := Try.underlying3
  a3 := Try.isAgg3
  z3 := Try.sizeOf3
  v3 := Try.zeroValue3
  t4 := Try.underlying4
  a4 := Try.isAgg4
  z4 := Try.sizeOf4
  v4 := Try.zeroValue4
  t5 := Try.underlying5
  a5 := Try.isAgg5
  z5 := Try.sizeOf5
  v5 := Try.zeroValue5
  t9 := Try.underlying9
  a9 := Try.isAgg9
  z9 := Try.sizeOf9
  v9 := Try.zeroValue9
  t46 := Try.underlying143
  a46 := Try.isAgg143
  z46 := Try.sizeOf143
  v46 := Try.zeroValue143
  t51 := Try.underlying162
  a51 := Try.isAgg162
  z51 := Try.sizeOf162
  v51 := Try.zeroValue162
  t53 := Try.underlying164
  a53 := Try.isAgg164
  z53 := Try.sizeOf164
  v53 := Try.zeroValue164 }
/-- bits.Len: "Len returns the minimum number of bits required to represent x; the result is 0 for x == 0.": IT RETURNS 'Lib.bitLen x'; the world is as it was. (A uint has 64 bits in the model.) ITS CALLEE bits.Len64 IS MET BY ITS OWN CONTRACT OFF THE SHELF (lay that first). (LAID: no walk: one application.) -/
theorem Try.bits_Len (x : Int) (w : World) (h0 : 0 ≤ x) (h1 : x ≤ 18446744073709551615) :
    Calls Try.prog 97 #[.int .u64 x] w fun e w' => e = .returned (.int .i64 (Lib.bitLen x.toNat)) ∧ w' = w := Any.bits_Len Try.lays125 x w h0 h1
open Go.RowKit in
/-- (*strings.Builder).String: "String returns the accumulated string.": OF A BUILDER THAT HOLDS AT LEAST ONE BYTE. ✋ THE MODEL FREEZES THOSE BYTES IN THE BUFFER (unsafe.String): a later write INTO them ends the model's run without an answer; a later append BEHIND them goes on. The statement's order of evaluation is drawn: one draw. THE FORM '_f': IT SAYS BESIDES THAT THE BUILDER IS A BUILDER STILL ('Lib.IsBuilderF', the same bytes): SO IT CAN BE WRITTEN ON: 'b.WriteString(b.String()[:k])'. (LAID: no walk: one application.) -/
theorem Try.Builder_String_f (B b : Nat) (l : List UInt8) (w : World) (h : Lib.IsBuilderF 148 5 B b (Lib.byteCells l) w) (h0 : l ≠ []) :
    Calls Try.prog 102 #[.pointer (some ⟨b, 0, none⟩)] w fun e w' => e = .returned (.string ⟨l.toArray⟩) ∧ (Lib.IsBuilderF 148 5 B b (Lib.byteCells l) w' ∧ Below B w w') := Any.Builder_String_f Try.lays169 Try.Builder_Extra_169 B b l w h h0
open Go.RowKit in
/-- (*strings.Builder).String OF A BUILDER THAT HOLDS NO BYTE: the empty string; THE FORM '_f': a builder still. (LAID: no walk: one application.) -/
theorem Try.Builder_String_empty_f (B b : Nat) (w : World) (h : Lib.IsBuilderF 148 5 B b [] w) (hBw : B ≤ w.heap.size) :
    Calls Try.prog 102 #[.pointer (some ⟨b, 0, none⟩)] w fun e w' => e = .returned (.string ⟨#[]⟩) ∧ (Lib.IsBuilderF 148 5 B b [] w' ∧ Below B w w') := Any.Builder_String_empty_f Try.lays169 Try.Builder_Extra_169 B b w h hBw
open Go.RowKit in
/-- (*strings.Builder).String: "String returns the accumulated string.": WHATEVER THE BUILDER HOLDS; THE FORM '_f': OF A BUILDER THAT MAY HAVE BEEN READ BEFORE; AND IT IS A BUILDER STILL, holding the same bytes: it can be written on. (LAID: no walk: one application.) -/
theorem Try.Builder_String_any_f (B b : Nat) (l : List UInt8) (w : World) (h : Lib.IsBuilderF 148 5 B b (Lib.byteCells l) w) (hBw : B ≤ w.heap.size) :
    Calls Try.prog 102 #[.pointer (some ⟨b, 0, none⟩)] w fun e w' => e = .returned (.string ⟨l.toArray⟩) ∧ (Lib.IsBuilderF 148 5 B b (Lib.byteCells l) w' ∧ Below B w w') := Any.Builder_String_any_f Try.lays169 Try.Builder_Extra_169 B b l w h hBw
open Go.RowKit in
/-- (*strings.Builder).String: "String returns the accumulated string.": OF A BUILDER THAT HOLDS AT LEAST ONE BYTE. ✋ THE MODEL FREEZES THOSE BYTES IN THE BUFFER (unsafe.String): a later write INTO them ends the model's run without an answer; a later append BEHIND them goes on. The statement's order of evaluation is drawn: one draw. THE FORM '_k': OVER 'Lib.IsBuilderF' (a builder that 'String()' may have read), AND WITH THE FRAME THAT REACHES ABOVE THE BUILDER: 'Lib.OthersKept': every block that is not b and is no row of uint8's stands as it stood: the iterator of a range among them. (LAID: no walk: one application.) -/
theorem Try.Builder_String_k (B b : Nat) (l : List UInt8) (w : World) (h : Lib.IsBuilderF 148 5 B b (Lib.byteCells l) w) (h0 : l ≠ []) :
    Calls Try.prog 102 #[.pointer (some ⟨b, 0, none⟩)] w fun e w' => e = .returned (.string ⟨l.toArray⟩) ∧ (Lib.IsBuilderF 148 5 B b (Lib.byteCells l) w' ∧ Below B w w' ∧ Lib.OthersKept 5 (some b) w w') := Any.Builder_String_k Try.lays169 Try.Builder_Extra_169 B b l w h h0
open Go.RowKit in
/-- (*strings.Builder).String OF A BUILDER THAT HOLDS NO BYTE: the empty string; THE FORM '_k': OVER 'Lib.IsBuilderF' (a builder that 'String()' may have read), AND WITH THE FRAME THAT REACHES ABOVE THE BUILDER: 'Lib.OthersKept': every block that is not b and is no row of uint8's stands as it stood: the iterator of a range among them. (LAID: no walk: one application.) -/
theorem Try.Builder_String_empty_k (B b : Nat) (w : World) (h : Lib.IsBuilderF 148 5 B b [] w) (hBw : B ≤ w.heap.size) :
    Calls Try.prog 102 #[.pointer (some ⟨b, 0, none⟩)] w fun e w' => e = .returned (.string ⟨#[]⟩) ∧ (Lib.IsBuilderF 148 5 B b [] w' ∧ Below B w w' ∧ Lib.OthersKept 5 (some b) w w') := Any.Builder_String_empty_k Try.lays169 Try.Builder_Extra_169 B b w h hBw
open Go.RowKit in
/-- (*strings.Builder).String: "String returns the accumulated string.": WHATEVER THE BUILDER HOLDS; THE FORM '_k': OVER 'Lib.IsBuilderF' (a builder that 'String()' may have read), AND WITH THE FRAME THAT REACHES ABOVE THE BUILDER: 'Lib.OthersKept': every block that is not b and is no row of uint8's stands as it stood: the iterator of a range among them. (LAID: no walk: one application.) -/
theorem Try.Builder_String_any_k (B b : Nat) (l : List UInt8) (w : World) (h : Lib.IsBuilderF 148 5 B b (Lib.byteCells l) w) (hBw : B ≤ w.heap.size) :
    Calls Try.prog 102 #[.pointer (some ⟨b, 0, none⟩)] w fun e w' => e = .returned (.string ⟨l.toArray⟩) ∧ (Lib.IsBuilderF 148 5 B b (Lib.byteCells l) w' ∧ Below B w w' ∧ Lib.OthersKept 5 (some b) w w') := Any.Builder_String_any_k Try.lays169 Try.Builder_Extra_169 B b l w h hBw
def Try.lays129_ren : Go.Shelf.Ren := ⟨fun | 129 => 112 | n => n, fun | 53 => 164 | 3 => 3 | 4 => 4 | 46 => 143 | 5 => 5 | 9 => 9 | n => n, fun | n => n⟩
theorem Try.lays129 : Go.Proofs.Lays.n129 Try.prog Try.lays129_ren := {
  mixed := by kernel_rfl
  f129 := Try.func112.trans (congrArg some (by kernel_rfl))
  t3 := Try.underlying3
  a3 := Try.isAgg3
  z3 := Try.sizeOf3
  v3 := Try.zeroValue3
  t4 := Try.underlying4
  a4 := Try.isAgg4
  z4 := Try.sizeOf4
  v4 := Try.zeroValue4
  t5 := Try.underlying5
  a5 := Try.isAgg5
  z5 := Try.sizeOf5
  v5 := Try.zeroValue5
  t9 := Try.underlying9
  a9 := Try.isAgg9
  z9 := Try.sizeOf9
  v9 := Try.zeroValue9
  t46 := Try.underlying143
  a46 := Try.isAgg143
  z46 := Try.sizeOf143
  v46 := Try.zeroValue143
  t53 := Try.underlying164
  a53 := Try.isAgg164
  z53 := Try.sizeOf164
  v53 := Try.zeroValue164 }
/-- bits.Len64: "Len64 returns the minimum number of bits required to represent x; the result is 0 for x == 0.": IT RETURNS 'Lib.bitLen x'; the world is as it was. ('h0', 'h1': x is a uint64.) (LAID: no walk: one application.) -/
theorem Try.bits_Len64 (x : Int) (w : World) (h0 : 0 ≤ x) (h1 : x ≤ 18446744073709551615) :
    Calls Try.prog 112 #[.int .u64 x] w fun e w' => e = .returned (.int .i64 (Lib.bitLen x.toNat)) ∧ w' = w := Any.bits_Len64 Try.lays129 x w h0 h1
def Try.laysSlE041_f86_ren : Go.Shelf.Ren := ⟨fun | 41 => 86 | n => n, fun | 22 => 30 | 23 => 4 | 4 => 4 | n => n, fun | n => n⟩
theorem Try.laysSlE041_f86 : Go.Proofs.SlLaysE0.n41 Try.prog Try.laysSlE041_f86_ren := {
  mixed := by kernel_rfl
  f41 := ⟨Try.f86.name, by decide, Try.func86.trans (congrArg some (by kernel_rfl))⟩
  t4 := Try.underlying4
  a4 := Try.isAgg4
  z4 := Try.sizeOf4
  v4 := Try.zeroValue4
  t22 := Try.underlying30
  a22 := Try.isAgg30
  z22 := Try.sizeOf30
  v22 := Try.zeroValue30 }
open Go.RowKit Go.Lib in
/-- slices.Clone: "Clone returns a copy of the slice. The elements are copied using assignment, so this is a shallow clone. The result may have additional unused capacity. The result preserves the nilness of s.": OF A SLICE THAT IS NOT nil IT RETURNS A SLICE THAT IS NOT nil, OF THE SAME CELLS, IN MEMORY OF THE CALL's OWN ('ownsRow': the how-to's 6f); below the heap's size at the call all is as it was. (LAID AT THE INSTANCE 'slices.Clone[[]bool,bool]': no walk: one application.) -/
theorem Try.slices_Clone (i0 : TypeInfo) (z : Value) (size bytes : Nat) (hi : Try.prog.info? 4 = some i0) (hz0 : i0.zero = some z) (hz1 : i0.size = size) (hz2 : i0.bytes = bytes) (hzs : z.cells.size = size) (hsz : 0 < size) (z23 : ∀ w, (Go.sizeOf 4).run Try.prog w = .ok size w) (b off n c : Nat) (news : List Value) (w : World) (hl : news.length = n * size) (hn : n ≤ maxLen) (hbig : n * bytes ≤ 140737488355328) (hc : ∀ j u, news[j]? = some u → w.cell? ⟨b, off + j, none⟩ = some u) (h1 : ∀ u ∈ news, u.oneCell' = true) :
    Calls Try.prog 86 #[.slice (some ⟨b, off, none⟩) n c] w fun e w' => ∃ v', e = .returned v' ∧ w'.ownsRow w.heap.size 4 size v' n news ∧ v' ≠ .slice none 0 0 ∧ Below w.heap.size w w' := AnyE.slices_Clone Try.laysSlE041_f86 i0 z size bytes hi hz0 hz1 hz2 hzs hsz z23 b off n c news w hl hn hbig hc h1
open Go.RowKit Go.Lib in
/-- The same at nil: nil comes back; the world is as it was; nothing is asked of the element's type. (LAID AT THE INSTANCE 'slices.Clone[[]bool,bool]': no walk: one application.) -/
theorem Try.slices_Clone_nil (n c : Nat) (w : World) :
    Calls Try.prog 86 #[.slice none n c] w fun e w' => e = .returned (.slice none 0 0) ∧ w' = w := AnyE.slices_Clone_nil Try.laysSlE041_f86 n c w
end Go.Proofs

/- strings.Builder's WriteByte and Write at this translation. -/
namespace Go.Proofs.Ytodfpclekihbhaa
open Go.RowKit Go.Shelf
set_option maxRecDepth 100000

theorem bld_size : (Try.prog.info? 148).map (·.size) = some 2 := by kernel_rfl
theorem bld_lies : liesAt Try.prog Try.prog.depth 148 (2 / Try.prog.cellsOf 148) 0 148 1 = true := by kernel_rfl
theorem bld_byteI : (Try.prog.info? 5).map (fun i => (i.zero, i.size, i.bytes)) = some (some (.int .u8 0), 1, 1) := by kernel_rfl
set_option maxHeartbeats 1000000 in
theorem bld_used (b : Nat) (w : World) (h0 : w.cell? ⟨b, 0, none⟩ = some (.pointer (some ⟨b, 0, none⟩))) :
    Calls Try.prog 115 #[.pointer (some ⟨b, 0, none⟩)] w fun e w' => e = .returned (.tuple #[]) ∧ w' = w := by
  obtain ⟨j, hj, _⟩ := Option.map_eq_some_iff.1 bld_size
  go_enter Try.func115, Try.ntmps115
  go_wp2
  rw [Lib.run_neq_ptr_same w _ Try.underlying145 hj]
  go_wp2
  go_end0
  exact ⟨rfl, rfl⟩
set_option maxHeartbeats 1000000 in
theorem bld_fresh (b : Nat) (w : World) (h0 : w.cell? ⟨b, 0, none⟩ = some (.pointer none)) (hsh : w.shape? b = some (148, 2)) (hfz : w.frozen? ⟨b, 0, none⟩ = false) :
    Calls Try.prog 115 #[.pointer (some ⟨b, 0, none⟩)] w fun e w' => e = .returned (.tuple #[]) ∧ w' = w.setCell ⟨b, 0, none⟩ (.pointer (some ⟨b, 0, none⟩)) := by
  obtain ⟨j, hj, hjs⟩ := Option.map_eq_some_iff.1 bld_size
  go_enter Try.func115, Try.ntmps115
  go_wp2
  rw [Lib.run_to_unsafe w ⟨b, 0, none⟩ Try.underlying145 Try.underlying175 hj (by rw [hjs]; decide) hsh (Nat.zero_lt_succ 1)]
  simp only [Result.andThen]
  rw [Oper.upon_value]
  go_wp2
  rw [run_callFunc_extern Try.func121 (by kernel_rfl) (by kernel_rfl) (by kernel_rfl) (e := Extern.AbiNoEscape.same) (by kernel_rfl)]
  rw [Lib.run_noEscape]
  simp only [Result.andThen]
  rw [Oper.upon_value]
  go_wp2
  rw [Lib.run_from_unsafe w ⟨b, 0, none⟩ Try.underlying175 Try.underlying145 hj hsh bld_lies]
  simp only [Result.andThen]
  rw [Oper.upon_value]
  go_wp2
  go_end0
  exact ⟨rfl, rfl⟩
theorem bld_check (B b : Nat) (bs : List Value) (w : World) (h : Lib.IsBuilder 148 5 B b bs w) :
    Calls Try.prog 115 #[.pointer (some ⟨b, 0, none⟩)] w fun e w' => e = .returned (.tuple #[]) ∧ (Lib.BuilderAt 148 5 B b (.pointer (some ⟨b, 0, none⟩)) bs w' ∧ Below B w w' ∧ Mut (· = b) w w') := by
  rcases h with h | h
  · refine (bld_fresh b w h.cell0 h.shape h.frozen0).mono ?_
    rintro e w' ⟨rfl, rfl⟩
    exact ⟨rfl, h.used _, (Below.refl B w).setCell (p := ⟨b, 0, none⟩) h.1 _, Mut.setCell _ _ _ _ rfl⟩
  · refine (bld_used b w h.cell0).mono ?_
    rintro e w' ⟨rfl, rfl⟩
    exact ⟨rfl, h, Below.refl B _, Mut.refl _ _⟩
set_option maxHeartbeats 2000000 in
theorem bld_byte (B b : Nat) (bs : List Value) (c : Int) (w : World) (h : Lib.IsBuilder 148 5 B b bs w) (hlen : bs.length + 1 ≤ 140737488355328) (hBw : B ≤ w.heap.size) :
    Calls Try.prog 101 #[.pointer (some ⟨b, 0, none⟩), .int .u8 c] w fun e w' => e = .returned .nilIface ∧ (Lib.BuilderAt 148 5 B b (.pointer (some ⟨b, 0, none⟩)) (bs ++ [.int .u8 c]) w' ∧ Below B w w') := by
  obtain ⟨i0, hi, hz0, hz1, hz2⟩ := info_parts bld_byteI
  go_enter Try.func101, Try.ntmps101
  go_wp2_with (go_at_call 115; refine (bld_check B b bs _ h).mono ?_)
  rintro e w1 ⟨rfl, h1, hb1, hm1⟩
  obtain ⟨hB, v, hbk, hown, hne⟩ := h1
  have c0 : w1.cell? ⟨b, 0, none⟩ = some (.pointer (some ⟨b, 0, none⟩)) := by rw [Lib.cell_of_heap hbk]; rfl
  have c1 : w1.cell? ⟨b, 1, none⟩ = some v := by rw [Lib.cell_of_heap hbk]; rfl
  go_wp2_with (at_builtin; refine wpList_append_own _ rfl _ _ 146 rfl B 5 i0 (.int .u8 0) 1 1 Try.underlying146 hi hz0 hz1 hz2 rfl (by decide) _ _ _ rfl (hown.alloc _) ⟨w1.heap.size, 0, none⟩ 1 1 [.int .u8 c] rfl rfl ?c1 ?c2 ?c3 ?c4 ?c5 ?_)
  case c1 =>
    intro j u hj
    match j, hj with
    | 0, hj => simp at hj; subst hj; simp [Addr.add]
  case c2 => intro u hu; simp at hu; subst hu; rfl
  case c3 => unfold maxLen; omega
  case c4 => omega
  case c5 => have := hb1.size; simp; omega
  intro v' w2 hown' hgrow _
  have hlt : b < w1.heap.size := lt_of_heap hbk
  have hb2 : w2.heap[b]? = some (.cells #[.pointer (some ⟨b, 0, none⟩), v] 148 (0, 0)) := by
    rw [hgrow.block b (by simp; omega) (fun e => hne e.symm), Lib.alloc_old w1 _ b hlt]
    exact hbk
  have d0 : w2.cell? ⟨b, 0, none⟩ = some (.pointer (some ⟨b, 0, none⟩)) := by rw [Lib.cell_of_heap hb2]; rfl
  have d1 : w2.cell? ⟨b, 1, none⟩ = some v := by rw [Lib.cell_of_heap hb2]; rfl
  have f1 : w2.frozen? ⟨b, 1, none⟩ = false := Lib.frozen_of_heap hb2 1
  obtain ⟨g, cap, rfl⟩ : ∃ g cap, v' = .slice (some ⟨g, 0, none⟩) (bs.length + 1) cap := by
    rcases hown'.2 with ⟨_, h0⟩ | ⟨g, cap, cur, hv, _⟩
    · omega
    · exact ⟨g, cap, hv⟩
  go_wp2
  go_ret
  refine ⟨rfl, ?_, ?_⟩
  · exact Lib.BuilderAt.put (T := 148) (e := 5) hB hb2 (bs' := bs ++ [.int .u8 c]) (by simpa using hown') (by decide)
  · exact ((hb1.alloc (by have := hb1.size; omega) _).grown hgrow (by have := hb1.size; simp; omega) (fun k hk => (hown.lt k hk).1)).setCell (p := ⟨b, 1, none⟩) hB _
set_option maxHeartbeats 2000000 in
theorem bld_write (B b : Nat) (bs : List Value) (w : World) (p n C : Nat) (vs : List Value) (h : Lib.IsBuilder 148 5 B b bs w) (hlen : bs.length + n ≤ 140737488355328) (hBw : B ≤ w.heap.size) (hn : vs.length = n) (hn0 : 0 < n) (hc : ∀ W, Mut (· = b) w W → ∀ j u, vs[j]? = some u → W.cell? ⟨p, j, none⟩ = some u) (h1 : ∀ u ∈ vs, u.oneCell' = true) :
    Calls Try.prog 114 #[.pointer (some ⟨b, 0, none⟩), .slice (some ⟨p, 0, none⟩) n C] w fun e w' => e = .returned (.tuple #[.int .i64 n, .nilIface]) ∧ (Lib.BuilderAt 148 5 B b (.pointer (some ⟨b, 0, none⟩)) (bs ++ vs) w' ∧ Below B w w') := by
  obtain ⟨i0, hi, hz0, hz1, hz2⟩ := info_parts bld_byteI
  have HN := Lib.hid hn
  have HC := Lib.hid hc
  have H1 := Lib.hid h1
  clear hn hc h1
  go_enter Try.func114, Try.ntmps114
  go_wp2_with (go_at_call 115; refine (bld_check B b bs _ h).mono ?_)
  rintro e w1 ⟨rfl, h1, hb1, hm1⟩
  obtain ⟨hB, v, hbk, hown, hne⟩ := h1
  have c0 : w1.cell? ⟨b, 0, none⟩ = some (.pointer (some ⟨b, 0, none⟩)) := by rw [Lib.cell_of_heap hbk]; rfl
  have c1 : w1.cell? ⟨b, 1, none⟩ = some v := by rw [Lib.cell_of_heap hbk]; rfl
  go_wp2_with (at_builtin; refine wpList_append_own _ rfl _ _ 146 rfl B 5 i0 (.int .u8 0) 1 1 Try.underlying146 hi hz0 hz1 hz2 rfl (by decide) _ _ _ rfl hown ⟨p, 0, none⟩ n C vs rfl (by rw [HN.out]; omega) ?c1 H1.out ?c3 ?c4 ?c5 ?_)
  case c1 =>
    intro j u hj
    rw [add_off, Nat.zero_add]
    exact HC.out _ hm1 j u hj
  case c3 => unfold maxLen; omega
  case c4 => omega
  case c5 => have := hb1.size; omega
  intro v' w2 hown' hgrow _
  have hlt : b < w1.heap.size := lt_of_heap hbk
  have hb2 : w2.heap[b]? = some (.cells #[.pointer (some ⟨b, 0, none⟩), v] 148 (0, 0)) := by
    rw [hgrow.block b hlt (fun e => hne e.symm)]
    exact hbk
  have d0 : w2.cell? ⟨b, 0, none⟩ = some (.pointer (some ⟨b, 0, none⟩)) := by rw [Lib.cell_of_heap hb2]; rfl
  have d1 : w2.cell? ⟨b, 1, none⟩ = some v := by rw [Lib.cell_of_heap hb2]; rfl
  have f1 : w2.frozen? ⟨b, 1, none⟩ = false := Lib.frozen_of_heap hb2 1
  obtain ⟨g, cap, rfl⟩ : ∃ g cap, v' = .slice (some ⟨g, 0, none⟩) (bs.length + n) cap := by
    rcases hown'.2 with ⟨_, h0⟩ | ⟨g, cap, cur, hv, _⟩
    · omega
    · exact ⟨g, cap, hv⟩
  go_wp2
  go_ret2
  refine ⟨rfl, ?_, ?_⟩
  · exact Lib.BuilderAt.put (T := 148) (e := 5) hB hb2 (bs' := bs ++ vs) (by have := HN.out; rw [List.length_append, this]; exact hown') (by decide)
  · exact (hb1.grown hgrow (by have := hb1.size; omega) (fun k hk => (hown.lt k hk).1)).setCell (p := ⟨b, 1, none⟩) hB _
end Go.Proofs.Ytodfpclekihbhaa

/- text.packWide, text.pack, text.Of: what a law without the reference needs of them. -/
namespace Go.Proofs.Ytodfpclekihbhaa
open Go.RowKit Go.Shelf
set_option maxRecDepth 100000

/-- A slice of runes that can be read. -/
def RdR (w : World) (A : Option Addr) (l : List Int) : Prop := ∀ j (h : j < l.length), ∃ g, A = some ⟨g, 0, none⟩ ∧ g < w.heap.size ∧ w.cell? ⟨g, j, none⟩ = some (.int .i32 (l[j]'h))
theorem RdR.below {w w' : World} {A : Option Addr} {l : List Int} (h : RdR w A l) (hb : Below w.heap.size w w') : RdR w' A l := fun j hj => by
  obtain ⟨g, h1, h2, h3⟩ := h j hj
  exact ⟨g, h1, Nat.lt_of_lt_of_le h2 hb.size, keep3 hb h3⟩
theorem u8m (x : Int) : ∃ u : UInt8, x % 256 = (u.toNat : Int) := by
  refine ⟨UInt8.ofNat (x % 256).toNat, ?_⟩
  rw [UInt8.toNat_ofNat']
  omega
theorem isb_below {w w' : World} {B b : Nat} {bs : List Value} (h : Lib.IsBuilder 148 5 B b bs w) (hb : Below w.heap.size w w') : Lib.IsBuilder 148 5 B b bs w' := by
  rcases h with ⟨h1, v, h2, h3, h4⟩ | ⟨h1, v, h2, h3, h4⟩
  · exact .inl ⟨h1, v, (hb.block _ (lt_of_heap h2)).trans h2, own_mut h3 (Mut.of_below (S := fun _ => False) hb) fun _ _ h => h, h4⟩
  · exact .inr ⟨h1, v, (hb.block _ (lt_of_heap h2)).trans h2, own_mut h3 (Mut.of_below (S := fun _ => False) hb) fun _ _ h => h, h4⟩
theorem new_cells {wr W : World} {b : Nat} {bs : List Value} (h : Lib.IsBuilder 148 5 b b bs wr) (vs : Array Value) (hW : Mut (· = b) (wr.alloc (.cells vs 5)) W) (j : Nat) (u : Value) (hu : vs.toList[j]? = some u) : W.cell? ⟨wr.heap.size, j, none⟩ = some u := by
  have hk := heap_alloc_new wr (.cells vs 5)
  have hlt : b < wr.heap.size := by
    rcases h with ⟨_, v, h2, _⟩ | ⟨_, v, h2, _⟩ <;> exact lt_of_heap h2
  have hb := hW.block _ (lt_of_heap hk) (by omega)
  rw [World.cell?_of_block (a := ⟨wr.heap.size, j, none⟩) hb]
  exact cell_of_heap hk (by simpa using hu)
set_option maxHeartbeats 2000000 in
theorem packWide_calls {w : World} {ad : Option Addr} {l : List Int} (C : Nat) (h : RdR w ad l) (hn : l.length ≤ 1000000) :
    Calls Try.prog 100 #[.slice ad l.length C] w fun e w' => ∃ s : ByteArray, e = .returned (.string s) ∧ s.size ≤ 4 * l.length ∧ Below w.heap.size w w' := by
  have H := Lib.hid h
  have HN := Lib.hid hn
  have HB0 := Lib.hid (Lib.fresh_isBuilder 148 5 w)
  have HW0 : Hid (Below w.heap.size w (w.alloc (.cells #[.pointer none, .slice none 0 0] 148))) := Lib.hid ((Below.refl _ _).alloc (Nat.le_refl _) _)
  clear h
  go_enter Try.func100, Try.ntmps100
  go_wp2
  go_loopw [8] (fun p wr => ∃ (j : Nat) (bs : List UInt8), j ≤ l.length ∧ p = .int .i64 j ∧ Hid (bs.length = 4 * j) ∧ Hid (Lib.IsBuilder 148 5 w.heap.size w.heap.size (Lib.byteCells bs) wr ∧ Below w.heap.size w wr)) (fun i _ => l.length - (intOf i).toNat)
  case atStart => exact ⟨0, [], Nat.zero_le _, rfl, Lib.hid rfl, Lib.hid ⟨HB0.out, HW0.out⟩⟩
  case round =>
    obtain ⟨j, bs, hj, rfl, HZ, HR⟩ := hrel
    by_cases hlt : j < l.length
    · obtain ⟨g, hA, hg, c0⟩ := (H.out.below HR.out.2) j hlt
      have q0 : (0 : Int) ≤ (j : Int) := by omega
      have q1 : (j : Int) < (l.length : Int) := by omega
      rw [hA]
      clear hA
      generalize l[j]'hlt = v at *
      obtain ⟨u1, e1⟩ := u8m (v / 16777216)
      obtain ⟨u2, e2⟩ := u8m (v / 65536)
      obtain ⟨u3, e3⟩ := u8m (v / 256)
      obtain ⟨u4, e4⟩ := u8m v
      have HE := Lib.hid (And.intro e1 (And.intro e2 (And.intro e3 e4)))
      have hq2 : l.length ≤ 1000000 := HN.out
      clear e1 e2 e3 e4
      go_wp2_with (go_at_call 114
                   rw [HE.out.1, HE.out.2.1, HE.out.2.2.1, HE.out.2.2.2]
                   have hba : Below wr.heap.size wr (wr.alloc (.cells #[.int .u8 u1.toNat, .int .u8 u2.toNat, .int .u8 u3.toNat, .int .u8 u4.toNat] 5)) := (Below.refl _ _).alloc (Nat.le_refl _) _
                   have hk := heap_alloc_new wr (.cells #[.int .u8 u1.toNat, .int .u8 u2.toNat, .int .u8 u3.toNat, .int .u8 u4.toNat] 5)
                   refine (bld_write w.heap.size w.heap.size (Lib.byteCells bs) _ wr.heap.size 4 4 (Lib.byteCells [u1, u2, u3, u4]) (isb_below HR.out.1 hba) ?c1 ?c2 rfl (by decide) ?c3 ?c4).mono ?_
                   case c1 => have := HZ.out; simp [Lib.byteCells]; omega
                   case c2 => have := HR.out.2.size; simp; omega
                   case c3 => exact fun W hW j u hu => new_cells HR.out.1 _ hW j u (by simpa [Lib.byteCells] using hu)
                   case c4 => intro u hu; simp [Lib.byteCells] at hu; rcases hu with rfl | rfl | rfl | rfl <;> rfl
                   rintro e w5 ⟨rfl, h5, hb5⟩
                   have HR5 : Hid (Lib.IsBuilder 148 5 w.heap.size w.heap.size (Lib.byteCells (bs ++ [u1, u2, u3, u4])) w5 ∧ Below w.heap.size w w5) := Lib.hid ⟨.inr (by simpa [Lib.byteCells] using h5), (HR.out.2.trans (hba.mono HR.out.2.size)).trans hb5⟩
                   clear h5 hb5 hba hk)
      go_roundw
      case rel => exact ⟨j + 1, bs ++ [u1, u2, u3, u4], by omega, by go_num, Lib.hid (by have := HZ.out; simp; omega), HR5⟩
      case measure => simp [intOf]; omega
    · obtain rfl : j = l.length := by omega
      clear hlt hj
      go_wp2_with (go_at_call 102; refine (Try.Builder_String_any _ _ bs _ HR.out.1 HR.out.2.size).mono ?_; rintro e w3 ⟨rfl, hb⟩; have HB3 := Lib.hid hb; clear hb)
      go_ret
      exact ⟨_, rfl, by have := HZ.out; show bs.toArray.size ≤ _; simp; omega, HR.out.2.trans HB3.out⟩
theorem fin2 {w W : World} {B : Nat} (hb : Below B w W) (hB : w.heap.size ≤ B) (a b : Value) : Below w.heap.size w ((W.setCell ⟨w.heap.size, 0, none⟩ a).setCell ⟨w.heap.size, 1, none⟩ b) :=
  (hb.mono hB).trans (((Mut.setCell (S := (· = w.heap.size)) _ _ _ _ rfl).then (Mut.setCell (S := (· = w.heap.size)) _ _ _ _ rfl)).to_below hb.size fun k hk => by omega)
set_option maxHeartbeats 2000000 in
theorem pack_calls {w : World} {ad : Option Addr} {l : List Int} (C : Nat) (h : RdR w ad l) (hn : l.length ≤ 1000000) :
    Calls Try.prog 94 #[.slice ad l.length C] w fun e w' => ∃ (s : ByteArray) (wide : Bool), e = .returned (.agg #[.string s, .bool wide]) ∧ s.size ≤ 4 * l.length ∧ Below w.heap.size w w' := by
  have H := Lib.hid h
  have HN := Lib.hid hn
  have hfb := Lib.fresh_isBuilder 148 5 (w.alloc (.cells #[.string { data := #[] }, .bool false] 61))
  rw [World.size_alloc] at hfb
  have HB0 := Lib.hid hfb
  have HW0 : Hid (Below w.heap.size w ((w.alloc (.cells #[.string { data := #[] }, .bool false] 61)).alloc (.cells #[.pointer none, .slice none 0 0] 148))) := Lib.hid (((Below.refl _ _).alloc (Nat.le_refl _) _).alloc (by simp) _)
  have HK0 := Lib.hid (heap2 w (.cells #[.string { data := #[] }, .bool false] 61) (.cells #[.pointer none, .slice none 0 0] 148)).1
  clear h hfb
  go_enter Try.func94, Try.ntmps94
  go_wp2
  go_loopw [8] (fun p wr => ∃ (j : Nat) (bs : List UInt8), j ≤ l.length ∧ p = .int .i64 j ∧ Hid (bs.length = j) ∧ Hid (Lib.IsBuilder 148 5 (w.heap.size + 1) (w.heap.size + 1) (Lib.byteCells bs) wr ∧ Below (w.heap.size + 1) ((w.alloc (.cells #[.string { data := #[] }, .bool false] 61)).alloc (.cells #[.pointer none, .slice none 0 0] 148)) wr)) (fun i _ => l.length - (intOf i).toNat)
  case atStart => exact ⟨0, [], Nat.zero_le _, rfl, Lib.hid rfl, Lib.hid ⟨HB0.out, Below.refl _ _⟩⟩
  case round =>
    obtain ⟨j, bs, hj, rfl, HZ, HR⟩ := hrel
    have HRB : Hid (Below w.heap.size w wr) := Lib.hid (HW0.out.trans (HR.out.2.mono (Nat.le_succ _)))
    have hk := (HR.out.2.block w.heap.size (Nat.lt_succ_self _)).trans HK0.out
    have HK := Lib.hid hk
    have z0 : w.heap.size < wr.heap.size := lt_of_heap hk
    clear hk
    by_cases hlt : j < l.length
    · obtain ⟨g, hA, hg, c0⟩ := (H.out.below HRB.out) j hlt
      have q0 : (0 : Int) ≤ (j : Int) := by omega
      have q1 : (j : Int) < (l.length : Int) := by omega
      rw [hA]
      generalize hv : l[j]'hlt = v at *
      clear hv
      by_cases hbig : 255 < v
      · have HCALL := Lib.hid (packWide_calls C (H.out.below HRB.out) HN.out)
        rw [hA] at HCALL
        clear hA
        go_wp2_with (go_at_call 100; refine HCALL.out.mono ?_; rintro e w5 ⟨s, rfl, hs, hb5⟩
                     have HS := Lib.hid hs
                     have HB5 := Lib.hid (HRB.out.trans (hb5.mono HRB.out.size))
                     have e0 := keep3 hb5 (cell_of_heap (v := .string { data := #[] }) HK.out (j := 0) rfl)
                     have e1 := keep3 hb5 (cell_of_heap (v := .bool false) HK.out (j := 1) rfl)
                     have f0 := keepf hb5 (cell_of_heap (v := .string { data := #[] }) HK.out (j := 0) rfl) (frozen_of_heap HK.out 0)
                     have f1 := keepf hb5 (cell_of_heap (v := .bool false) HK.out (j := 1) rfl) (frozen_of_heap HK.out 1)
                     clear hs hb5)
        all_goals exact bodyPost_ret (v := .agg #[.string s, .bool true]) (by simp [results, Try.results94, go_sem, e0, e1]) rfl ⟨s, true, rfl, HS.out, fin2 HB5.out (Nat.le_refl _) _ _⟩
      · obtain ⟨u, e1⟩ := u8m v
        have HE := Lib.hid e1
        have hq2 : l.length ≤ 1000000 := HN.out
        clear e1 hA
        go_wp2_with (go_at_call 101
                     rw [HE.out]
                     refine (bld_byte (w.heap.size + 1) (w.heap.size + 1) (Lib.byteCells bs) _ wr HR.out.1 ?c1 ?c2).mono ?_
                     case c1 => have := HZ.out; simp [Lib.byteCells]; omega
                     case c2 => have := HR.out.2.size; simp at this; omega
                     rintro e w5 ⟨rfl, h5, hb5⟩
                     have HR5 : Hid (Lib.IsBuilder 148 5 (w.heap.size + 1) (w.heap.size + 1) (Lib.byteCells (bs ++ [u])) w5 ∧ Below (w.heap.size + 1) ((w.alloc (.cells #[.string { data := #[] }, .bool false] 61)).alloc (.cells #[.pointer none, .slice none 0 0] 148)) w5) := Lib.hid ⟨.inr (by simpa [Lib.byteCells] using h5), HR.out.2.trans hb5⟩
                     clear h5 hb5)
        go_roundw
        case rel => exact ⟨j + 1, bs ++ [u], by omega, by go_num, Lib.hid (by have := HZ.out; simp; omega), HR5⟩
        case measure => simp [intOf]; omega
    · obtain rfl : j = l.length := by omega
      clear hlt hj
      go_wp2_with (go_at_call 102; refine (Try.Builder_String_any _ _ bs _ HR.out.1 (by have := HR.out.2.size; simp at this; omega)).mono ?_; rintro e w5 ⟨rfl, hb5⟩
                   have HB5 := Lib.hid (HRB.out.trans (hb5.mono (Nat.le_succ _)))
                   have hk5 := (hb5.block w.heap.size (Nat.lt_succ_self _)).trans HK.out
                   have e0 := cell_of_heap (v := .string { data := #[] }) hk5 (j := 0) rfl
                   have e1 := cell_of_heap (v := .bool false) hk5 (j := 1) rfl
                   have f0 := frozen_of_heap hk5 0
                   have f1 := frozen_of_heap hk5 1
                   clear hb5 hk5)
      all_goals exact bodyPost_ret (v := .agg #[.string ⟨bs.toArray⟩, .bool false]) (by simp [results, Try.results94, go_sem, e0, e1]) rfl ⟨_, false, rfl, by have := HZ.out; show bs.toArray.size ≤ _; simp; omega, fin2 HB5.out (Nat.le_refl _) _ _⟩
end Go.Proofs.Ytodfpclekihbhaa

/- text.Of. -/
namespace Go.Proofs.Ytodfpclekihbhaa
open Go.RowKit Go.Shelf
set_option maxRecDepth 100000

theorem runes_ints (s : ByteArray) : ∀ (bound i : Nat) (acc : Array Value) (l : List Int), acc.toList = l.map (Value.int .i32) → ∃ l' : List Int, (Conv.runesFrom s bound i acc).toList = l'.map (Value.int .i32)
  | 0, _, acc, l, h => ⟨l, by simpa [Conv.runesFrom] using h⟩
  | bound + 1, i, acc, l, h => by
    unfold Conv.runesFrom
    split
    · exact runes_ints s bound _ _ (l ++ [Int.ofNat (Utf8.decode s i).1]) (by rw [Array.toList_push, h, List.map_append]; rfl)
    · exact ⟨l, h⟩
set_option maxHeartbeats 2000000 in
theorem of_calls (s : ByteArray) (hs : s.size ≤ 1000) (w : World) :
    Calls Try.prog 80 #[.string s] w fun e w' => ∃ (c : ByteArray) (wide : Bool), e = .returned (.tuple #[.agg #[.string c, .bool wide], .int .i64 0]) ∧ c.size ≤ 4000 ∧ Below w.heap.size w w' := by
  have hsz := size_runesFrom s s.size 0 #[]
  obtain ⟨l, hl⟩ := runes_ints s s.size 0 #[] [] rfl
  have hll : (Conv.runesFrom s s.size 0 #[]).size = l.length := by rw [← Array.length_toList, hl, List.length_map]
  have hcv := fun w => run_runes_of_string (P := Try.prog) w 9 139 21 s Try.underlying9 Try.underlying139 Try.underlying21 (by simp at hsz; omega)
  have hn : l.length ≤ 1000 := by simp at hsz; omega
  rw [hll] at hcv
  have hrd : ∀ (W : World) (cap : Nat), RdR (W.alloc (.cells (Conv.runesFrom s s.size 0 #[] ++ Array.replicate cap (.int .i32 0)) 21)) (some ⟨W.heap.size, 0, none⟩) l := fun W cap j hj => by
    refine ⟨W.heap.size, rfl, by simp, cell_of_heap (heap_alloc_new W _) ?_⟩
    rw [Array.getElem?_append_left (by rw [hll]; exact hj), ← Array.getElem?_toList, hl]
    simp [hj]
  have HRD := Lib.hid hrd
  have k1 : ¬ (65536 : Int) < (l.length : Int) := by omega
  have HN := Lib.hid hn
  have k2 : ¬ 65536 < l.length := by omega
  clear hrd hll hl hsz hs hn
  generalize Conv.runesFrom s s.size 0 #[] = R at *
  go_enter Try.func80, Try.ntmps80
  go_wp2_with (go_at_call 94
               go_loud (
                 have hr := HRD.out (w.alloc (.cells #[.string { data := #[] }, .bool false] 61)) (grownCap (w.alloc (.cells #[.string { data := #[] }, .bool false] 61)) l.length 0 21 - l.length)
                 rw [World.size_alloc] at hr
                 refine (pack_calls _ (hr.below (Below.refl _ _).drew) (by have := HN.out; omega)).mono ?_
                 rintro e w5 ⟨c, wide, rfl, hc, hb5⟩
                 have hk := (hb5.block w.heap.size (by first | (simp; done) | (simp; omega))).trans (heap2 w (.cells #[.string { data := #[] }, .bool false] 61) (.cells (R ++ Array.replicate (grownCap (w.alloc (.cells #[.string { data := #[] }, .bool false] 61)) l.length 0 21 - l.length) (Value.int .i32 0)) 21)).1
                 have HB5 : Hid (Below w.heap.size w w5) := Lib.hid (((((Below.refl w.heap.size w).alloc (Nat.le_refl _) _).alloc (by simp) _).drew).trans (hb5.mono (by first | (simp; done) | (simp; omega))))
                 have HC := Lib.hid hc
                 have e0 := cell_of_heap (v := .string { data := #[] }) hk (j := 0) rfl
                 have e1 := cell_of_heap (v := .bool false) hk (j := 1) rfl
                 have f0 := frozen_of_heap hk 0
                 have f1 := frozen_of_heap hk 1
                 clear hr hc hb5 hk))
  all_goals exact bodyPost_ret (v := .tuple #[.agg #[.string c, .bool wide], .int .i64 0]) (by simp [results, Try.results80, go_sem, e0, e1]) rfl ⟨c, wide, rfl, by have := HC.out; have := HN.out; omega, fin2 HB5.out (Nat.le_refl _) _ _⟩
end Go.Proofs.Ytodfpclekihbhaa

