/- Texts on regular expressions, merged: X8, Shelf, X11. -/
import Derived.Test.YtcajnmhbkjngbaaG05
import Derived.Shelf.Strings.Builder1
import Derived.Shelf.Small.Utf8
import Derived.Shelf.Small.Strs
import Derived.Shelf.Small.Wraps
import Derived.Shelf.Strings.BuilderF
import Derived.Shelf.Strings.BuilderK
import Derived.Shelf.Strings.BuilderRune
import Derived.Shelf.Utf8.AppendRune
import Derived.Shelf.Utf8.AppendRunePlain
import Derived.Shelf.Strings.Search1
import Derived.Shelf.Strings.Search2
import Derived.Shelf.Strings.Search3
import Derived.Shelf.Strings.Cut
import Derived.Shelf.LaysM
import Derived.Shelf.Strings.Shaped
import Derived.Shelf.Strings.Runes
import Derived.Shelf.Strings.BuilderCap
import Derived.Ground.Names2Prog
import Derived.Shelf.Slices.SearchI
import Derived.Test.YtcajnmhbkjngbaaProg
import Derived.Laws.RangeAny
import Derived.Laws.RangeString
import Derived.WalkMore
import Derived.Scope
/- The compiler's code implements what was read, in plain Lean. -/
namespace Go.Proofs.Ytcajnmhbkjngbaa

theorem nn_of {c : List CI} {n : Nat} (h : NBd c n) : ∀ z ∈ riL c, z.nn := fun z hz => by
  obtain ⟨x, hx, rfl⟩ := List.mem_map.1 hz
  have := h x hx
  exact ⟨this.1, this.2.2.1⟩
theorem riL_len (c : List CI) : (riL c).length = c.length := List.length_map _
theorem toIn_len (c : List RI) : (toIn c).length = c.length := List.length_map _
/-- What was there is there. -/
structure Ext (c c' : List CI) : Prop where
  le : c.length ≤ c'.length
  get : ∀ k, k < c.length → c'[k]? = c[k]?
theorem Ext.refl (c : List CI) : Ext c c := ⟨Nat.le_refl _, fun _ _ => rfl⟩
theorem Ext.trans {a b c : List CI} (h : Ext a b) (k : Ext b c) : Ext a c := ⟨Nat.le_trans h.le k.le, fun i hi => (k.get i (Nat.lt_of_lt_of_le hi h.le)).trans (h.get i hi)⟩
theorem Ext.snoc (c : List CI) (x : CI) : Ext c (c ++ [x]) := ⟨by simp, fun k hk => List.getElem?_append_left hk⟩
theorem get_toIn (c : List CI) (k : Nat) : (toIn (riL c))[k]? = (c[k]?).map fun x => x.r.to := by simp [toIn, riL, List.getElem?_map, Option.map_map]; rfl
theorem Ext.impl {c c' : List CI} (h : Ext c c') {n : Nd} {f t : Nat} (hi : Impl (toIn (riL c)) n f t) (ht : t ≤ c.length) : Impl (toIn (riL c')) n f t :=
  hi.congr fun k _ hk => by rw [get_toIn, get_toIn, h.get k (by omega)]
theorem cat_implS {c : List In} {x : Nd} {m t : Nat} (hx : Impl c x m t) : ∀ {xs : List Nd} {f : Nat}, Impl c (.cat xs) f m → Impl c (.cat (xs ++ [x])) f t
  | [], f, h => by cases h with | cat0 => exact .catS hx .cat0
  | y :: ys, f, h => by cases h with | catS h1 h2 => exact .catS h1 (cat_implS hx h2)
theorem ext_insC {c : List CI} {f : Nat} {x : CI} (hf : f ≤ c.length) {k : Nat} (hk : k < f) : (insC c f x)[k]? = c[k]? := by
  unfold insC
  rw [List.getElem?_append_left (by rw [List.length_take]; omega), List.getElem?_take_of_lt hk]
theorem get_set_ne {c : List CI} {f k : Nat} {x : CI} (h : k ≠ f) : (c.set f x)[k]? = c[k]? := by rw [List.getElem?_set, if_neg (fun e => h e.symm)]
theorem NBd.set {c : List CI} {n f : Nat} {x : CI} (h : NBd c n) (hx : 0 ≤ x.r.x ∧ x.r.x ≤ n ∧ 0 ≤ x.r.y ∧ x.r.y ≤ n) : NBd (c.set f x) n := fun z hz => by
  rcases List.mem_or_eq_of_mem_set hz with e | rfl
  · exact h z e
  · exact hx
theorem NBd.snoc {c : List CI} {n : Nat} {x : CI} (h : NBd c n) (hx : 0 ≤ x.r.x ∧ x.r.x ≤ n ∧ 0 ≤ x.r.y ∧ x.r.y ≤ n) : NBd (c ++ [x]) n := fun z hz => by
  rcases List.mem_append.1 hz with e | e
  · exact h z e
  · rw [List.mem_singleton] at e; subst e; exact hx
def repN (op : Int) (n : Nd) : Nd := if op = 43 then .plus n else if op = 42 then .star n else .opt n
/-- An operator's code. -/
theorem repC_ok {c : List CI} {n : Nd} {f : Nat} {op : Int} (hop : op = 42 ∨ op = 43 ∨ op = 63) (hf : f ≤ c.length) (hb : NBd c c.length) (hi : Impl (toIn (riL c)) n f c.length) :
    Impl (toIn (riL (repC c f op))) (repN op n) f (repC c f op).length ∧ NBd (repC c f op) (repC c f op).length ∧ c.length ≤ (repC c f op).length ∧ (repC c f op).length ≤ c.length + 2 ∧ ∀ k, k < f → (repC c f op)[k]? = c[k]? := by
  have hx0 : (0 : Int) ≤ (ci 2 0 0).r.x ∧ (ci 2 0 0).r.x ≤ c.length + 1 ∧ 0 ≤ (ci 2 0 0).r.y ∧ (ci 2 0 0).r.y ≤ c.length + 1 := by simp only [ci]; omega
  have hins : Impl (toIn (riL (insC c f (ci 2 0 0)))) n (f + 1) (c.length + 1) := by
    rw [riL_insC]
    exact hi.ins (nn_of hb) (Nat.le_refl _) (by rw [riL_len]; exact hf)
  have hil := len_insC (x := ci 2 0 0) hf
  rcases hop with rfl | rfl | rfl
  · have e : repC c f 42 = (insC c f (ci 2 0 0) ++ [ci 3 f 0]).set f (ci 2 ((f + 1 : Nat) : Int) ((c.length + 2 : Nat) : Int)) := by unfold repC; rw [if_neg (by decide), if_pos rfl]
    have el : (repC c f 42).length = c.length + 2 := by rw [e, List.length_set, List.length_append, hil]; rfl
    have g0 : (repC c f 42)[f]? = some (ci 2 ((f + 1 : Nat) : Int) ((c.length + 2 : Nat) : Int)) := by rw [e, List.getElem?_set, if_pos rfl, if_pos (by rw [List.length_append, hil, List.length_singleton]; omega)]
    have g1 : (repC c f 42)[c.length + 1]? = some (ci 3 f 0) := by
      rw [e, get_set_ne (by omega), List.getElem?_append_right (by omega), hil, Nat.sub_self]; rfl
    have gk : ∀ k, f < k → k < c.length + 1 → (repC c f 42)[k]? = (insC c f (ci 2 0 0))[k]? := fun k h1 h2 => by rw [e, get_set_ne (by omega), List.getElem?_append_left (by omega)]
    refine ⟨?_, ?_, by omega, by omega, fun k hk => ?_⟩
    · rw [el]
      show Impl _ (.star n) f (c.length + 1 + 1)
      refine .star ?_ (hins.congr fun k h1 h2 => by rw [get_toIn, get_toIn, gk k (by omega) h2]) ?_
      · rw [get_toIn, g0]; exact congrArg some to_split
      · rw [get_toIn, g1]; exact congrArg some to_jump
    · rw [el, e]
      refine NBd.set (NBd.snoc ((hb.ins hx0).mono (by omega)) ?_) ?_ <;> (simp only [ci]; omega)
    · rw [e, get_set_ne (by omega), List.getElem?_append_left (by omega), ext_insC hf hk]
  · have e : repC c f 43 = c ++ [ci 2 f ((c.length + 1 : Nat) : Int)] := by unfold repC; rw [if_pos rfl]
    have el : (repC c f 43).length = c.length + 1 := by rw [e, List.length_append]; rfl
    have g1 : (repC c f 43)[c.length]? = some (ci 2 f ((c.length + 1 : Nat) : Int)) := by rw [e, List.getElem?_append_right (Nat.le_refl _), Nat.sub_self]; rfl
    refine ⟨?_, ?_, by omega, by omega, fun k hk => by rw [e, List.getElem?_append_left (by omega)]⟩
    · rw [el]
      show Impl _ (.plus n) f (c.length + 1)
      refine .plus (hi.congr fun k h1 h2 => by rw [get_toIn, get_toIn, e, List.getElem?_append_left h2]) ?_
      rw [get_toIn, g1]; exact congrArg some to_split
    · rw [el, e]
      refine NBd.snoc (hb.mono (by omega)) ?_
      simp only [ci]; omega
  · have e : repC c f 63 = (insC c f (ci 2 0 0)).set f (ci 2 ((f + 1 : Nat) : Int) ((c.length + 1 : Nat) : Int)) := by unfold repC; rw [if_neg (by decide), if_neg (by decide)]
    have el : (repC c f 63).length = c.length + 1 := by rw [e, List.length_set, hil]
    have g0 : (repC c f 63)[f]? = some (ci 2 ((f + 1 : Nat) : Int) ((c.length + 1 : Nat) : Int)) := by rw [e, List.getElem?_set, if_pos rfl, if_pos (by omega)]
    have gk : ∀ k, f < k → (repC c f 63)[k]? = (insC c f (ci 2 0 0))[k]? := fun k h1 => by rw [e, get_set_ne (by omega)]
    refine ⟨?_, ?_, by omega, by omega, fun k hk => by rw [e, get_set_ne (by omega), ext_insC hf hk]⟩
    · rw [el]
      show Impl _ (.opt n) f (c.length + 1)
      refine .opt ?_ (hins.congr fun k h1 h2 => by rw [get_toIn, get_toIn, gk k (by omega)])
      rw [get_toIn, g0]; exact congrArg some to_split
    · rw [el, e]
      refine NBd.set (hb.ins hx0) ?_
      simp only [ci]; omega
theorem spn_fuel {cs : List Int} : ∀ (f i : Nat), cs.length + 1 ≤ f + i → i ≤ cs.length → ∀ p e, pSpn cs f i = .inr (p, e) → e ≠ 0
  | 0, i, h1, h2, p, e, h => by omega
  | f + 1, i, h1, h2, p, e, h => by
    have hcons : ∀ {q : Int × Int} {r : SpR} {p e}, consS q r = .inr (p, e) → r = .inr (p, e) := fun {q r p e} h => by
      match r, h with
      | .inr g, h => exact h
    rw [pSpn] at h
    split at h
    · cases h; decide
    · rename_i c hc
      split at h
      · cases h
      · split at h
        · cases h; decide
        · rename_i a j hs
          have hj := pSng_le hs
          split at h
          · split at h
            · cases h; decide
            · rename_i b m hm
              have hmm := pSng_le hm
              split at h
              · cases h; decide
              · exact spn_fuel f m (by omega) hmm.2 p e (hcons h)
          · exact spn_fuel f j (by omega) hj.2 p e (hcons h)
theorem set2_fuel {cs : List Int} {inv : Bool} {i : Nat} (hi : i ≤ cs.length) {p : Nat} {e : Int} (h : pSet2 cs inv i = .inr (p, e)) : e ≠ 0 := by
  unfold pSet2 at h
  split at h
  · cases h; decide
  · split at h
    · cases h
    · rename_i g hg
      cases h
      exact spn_fuel _ i (by omega) hi p e hg
theorem set_fuel {cs : List Int} {i : Nat} (hi : i ≤ cs.length) {p : Nat} {e : Int} (h : pSet cs i = .inr (p, e)) : e ≠ 0 := by
  unfold pSet at h
  split at h
  · rename_i h1
    exact set2_fuel (List.getElem?_eq_some_iff.1 h1).1 h
  · exact set2_fuel hi h
/-- The place is within the text, and there is fuel enough. -/
theorem parse_fuel (cs : List Int) : ∀ f : Nat,
    (∀ i d s, 3 * (cs.length - i) + 3 ≤ f → i ≤ cs.length → pAlts cs f i d s ≠ .bad 0 0) ∧
    (∀ i d s, 3 * (cs.length - i) + 2 ≤ f → i ≤ cs.length → pBranch cs f i d s ≠ .bad 0 0) ∧
    (∀ i d s, 3 * (cs.length - i) + 1 ≤ f → i < cs.length → pAtom cs f i d s ≠ .bad 0 0)
  | 0 => ⟨fun i d s h => by omega, fun i d s h => by omega, fun i d s h => by omega⟩
  | f + 1 => by
    obtain ⟨h1, h2, h3⟩ := parse_fuel cs f
    obtain ⟨l1, l2, l3⟩ := parse_le cs f
    refine ⟨fun i d s h hi => ?_, fun i d s h hi => ?_, fun i d s h hi => ?_⟩
    · rw [pAlts]
      split
      · rename_i p e hb; have := h2 i d s (by omega) hi; rw [hb] at this; exact this
      · rename_i l j t hb
        have := l2 _ _ _ _ _ _ hi hb
        split
        · rename_i hj
          have hjl := (List.getElem?_eq_some_iff.1 hj).1
          split
          · rename_i p e ha; have := h1 (j + 1) d t (by omega) (by omega); rw [ha] at this; exact this
          · exact fun h => by cases h
        · exact fun h => by cases h
    · rw [pBranch]
      split
      · exact fun h => by cases h
      · rename_i c hc
        have hil := (List.getElem?_eq_some_iff.1 hc).1
        split
        · exact fun h => by cases h
        · split
          · split
            · exact fun h => by cases h
            · exact fun h => by cases h
          · split
            · exact fun h => by cases h
            · split
              · rename_i p e ha; have := h3 i d s (by omega) hil; rw [ha] at this; exact this
              · rename_i l j t ha
                have ha2 := l3 _ _ _ _ _ _ ha
                have hr := pReps_le (cs := cs) (cs.length - j) j (l.headD .beg) ha2.2.1
                split
                · rename_i p e hb; have := h2 _ d t (by omega) hr.2; rw [hb] at this; exact this
                · exact fun h => by cases h
    · rw [pAtom]
      split
      · rename_i hn; rw [List.getElem?_eq_none_iff] at hn; omega
      · rename_i c hc
        split
        · split
          · exact fun h => by cases h
          · split
            · rename_i p e ha; have := h1 (i + 1) (d + 1) s (by omega) (by omega); rw [ha] at this; exact this
            · split
              · exact fun h => by cases h
              · exact fun h => by injection h with _ h2; exact absurd h2 (by decide)
        · unfold pChar
          split
          · exact fun h => by cases h
          · split
            · exact fun h => by cases h
            · split
              · exact fun h => by cases h
              · split
                · split
                  · exact fun h => by cases h
                  · rename_i p e hp
                    intro h
                    injection h with h6 h7
                    exact set_fuel (by omega) hp h7
                · split
                  · split
                    · exact fun h => by injection h with _ h2; exact absurd h2 (by decide)
                    · exact fun h => by cases h
                  · exact fun h => by cases h
end Go.Proofs.Ytcajnmhbkjngbaa

/-
  DERIVED: THE SHELF's CONTRACTS AT THIS DUMP, IN PLAIN WORDS (tools/lay-plain.mjs out of 'TryShelf.lean', which tools/lay-shelf.mjs wrote): THE SAME DECLARATIONS UNDER THE SAME NAMES: 'import', 'namespace', 'open', 'def', 'theorem' AND NOTHING ELSE: no command of the shelf's: FOR A HAND-IN. Each laying: the table of numbers ('.._ren') and one theorem, a field a fact of the dump's own or the kernel's comparison; each contract: ONE APPLICATION.
-/
namespace Go.Proofs
open Go.Shelf
def Try.lays169_ren : Go.Shelf.Ren := ⟨fun | 169 => 61 | n => n, fun | 70 => 110 | 9 => 9 | 0 => 0 | 72 => 112 | 37 => 105 | 127 => 146 | 3 => 3 | 5 => 5 | n => n, fun | n => n⟩
theorem Try.lays169 : Go.Proofs.Lays.n169 Try.prog Try.lays169_ren := {
  mixed := by kernel_rfl
  f169 := Try.func61.trans (congrArg some (by kernel_rfl))
  t0 := Try.underlying0
  a0 := Try.isAgg0
  z0 := Try.sizeOf0
  v0 := Try.zeroValue0
  t3 := Try.underlying3
  a3 := Try.isAgg3
  z3 := Try.sizeOf3
  v3 := Try.zeroValue3
  t9 := Try.underlying9
  a9 := Try.isAgg9
  z9 := Try.sizeOf9
  v9 := Try.zeroValue9
  t37 := Try.underlying105
  a37 := Try.isAgg105
  z37 := Try.sizeOf105
  v37 := Try.zeroValue105
  t70 := Try.underlying110
  a70 := Try.isAgg110
  z70 := Try.sizeOf110
  v70 := Try.zeroValue110
  t72 := Try.underlying112
  a72 := Try.isAgg112
  z72 := Try.sizeOf112
  v72 := Try.zeroValue112
  t127 := Try.underlying146
  a127 := Try.isAgg146
  z127 := Try.sizeOf146
  v127 := Try.zeroValue146 }
theorem Try.Builder_Extra_169 : Builder.Extra Try.prog Try.lays169_ren := {
  sizeBuilder := by kernel_rfl
  liesBuilder := by kernel_rfl
  t5 := Try.underlying5
  a5 := Try.isAgg5
  z5 := Try.sizeOf5
  v5 := Try.zeroValue5
  infoByte := by kernel_rfl
  cellsByte := by kernel_rfl
  sizeByte := by kernel_rfl
  neB5 := by decide }
open Go.RowKit in
/-- (*strings.Builder).String: "String returns the accumulated string.": OF A BUILDER THAT HOLDS AT LEAST ONE BYTE. ✋ THE MODEL FREEZES THOSE BYTES IN THE BUFFER (unsafe.String): a later write INTO them ends the model's run without an answer; a later append BEHIND them goes on. The statement's order of evaluation is drawn: one draw. (LAID: no walk: one application.) -/
theorem Try.Builder_String (B b : Nat) (l : List UInt8) (w : World) (h : Lib.IsBuilder 112 5 B b (Lib.byteCells l) w) (h0 : l ≠ []) :
    Calls Try.prog 61 #[.pointer (some ⟨b, 0, none⟩)] w fun e w' => e = .returned (.string ⟨l.toArray⟩) ∧ Below B w w' := Any.Builder_String Try.lays169 Try.Builder_Extra_169 B b l w h h0
open Go.RowKit in
/-- (*strings.Builder).String OF A BUILDER THAT HOLDS NO BYTE: the empty string. (Its buffer is nil, or a row of which it has taken nothing yet; where that row has NO capacity the model lays one new block for unsafe.SliceData's 'some address'.) One draw. (LAID: no walk: one application.) -/
theorem Try.Builder_String_empty (B b : Nat) (w : World) (h : Lib.IsBuilder 112 5 B b [] w) (hBw : B ≤ w.heap.size) :
    Calls Try.prog 61 #[.pointer (some ⟨b, 0, none⟩)] w fun e w' => e = .returned (.string ⟨#[]⟩) ∧ Below B w w' := Any.Builder_String_empty Try.lays169 Try.Builder_Extra_169 B b w h hBw
open Go.RowKit in
/-- (*strings.Builder).String: "String returns the accumulated string.": WHATEVER THE BUILDER HOLDS. (LAID: no walk: one application.) -/
theorem Try.Builder_String_any (B b : Nat) (l : List UInt8) (w : World) (h : Lib.IsBuilder 112 5 B b (Lib.byteCells l) w) (hBw : B ≤ w.heap.size) :
    Calls Try.prog 61 #[.pointer (some ⟨b, 0, none⟩)] w fun e w' => e = .returned (.string ⟨l.toArray⟩) ∧ Below B w w' := Any.Builder_String_any Try.lays169 Try.Builder_Extra_169 B b l w h hBw
def Try.lays119_ren : Go.Shelf.Ren := ⟨fun | 119 => 104 | n => n, fun | 21 => 21 | 4 => 4 | n => n, fun | n => n⟩
theorem Try.lays119 : Go.Proofs.Lays.n119 Try.prog Try.lays119_ren := {
  mixed := by kernel_rfl
  f119 := Try.func104.trans (congrArg some (by kernel_rfl))
  t4 := Try.underlying4
  a4 := Try.isAgg4
  z4 := Try.sizeOf4
  v4 := Try.zeroValue4
  t21 := Try.underlying21
  a21 := Try.isAgg21
  z21 := Try.sizeOf21
  v21 := Try.zeroValue21 }
/-- utf8.ValidRune: "ValidRune reports whether r can be legally encoded as UTF-8. Code points that are out of range or a surrogate half are illegal.": IT RETURNS 'Lib.validRune r'; the world is as it was. (LAID: no walk: one application.) -/
theorem Try.utf8_ValidRune (r : Int) (w : World) :
    Calls Try.prog 104 #[.int .i32 r] w fun e w' => e = .returned (.bool (Lib.validRune r)) ∧ w' = w := Any.utf8_ValidRune Try.lays119 r w
def Try.lays213_ren : Go.Shelf.Ren := ⟨fun | 213 => 89 | 265 => 108 | n => n, fun | 9 => 9 | 3 => 3 | n => n, fun | n => n⟩
theorem Try.lays213 : Go.Proofs.Lays.n213 Try.prog Try.lays213_ren := {
  mixed := by kernel_rfl
  f213 := Try.func89.trans (congrArg some (by kernel_rfl))
  f265 := Try.func108.trans (congrArg some (by kernel_rfl))
  t3 := Try.underlying3
  a3 := Try.isAgg3
  z3 := Try.sizeOf3
  v3 := Try.zeroValue3
  t9 := Try.underlying9
  a9 := Try.isAgg9
  z9 := Try.sizeOf9
  v9 := Try.zeroValue9 }
open Go.RowKit in
/-- internal/bytealg.CompareString (what strings.Compare calls): IT RETURNS 'Lib.compareBytes a b'; the world is as it was. (LAID: no walk: one application.) -/
theorem Try.bytealg_CompareString (a b : ByteArray) (w : World) :
    Calls Try.prog 89 #[.string a, .string b] w fun e w' => e = .returned (.int .i64 (Lib.compareBytes a.data.toList b.data.toList)) ∧ w' = w := Any.bytealg_CompareString Try.lays213 a b w
def Try.lays106_ren : Go.Shelf.Ren := ⟨fun | 106 => 62 | 213 => 89 | 265 => 108 | n => n, fun | 9 => 9 | 3 => 3 | n => n, fun | n => n⟩
theorem Try.lays106 : Go.Proofs.Lays.n106 Try.prog Try.lays106_ren := {
  mixed := by kernel_rfl
  f106 := Try.func62.trans (congrArg some (by kernel_rfl))
  f213 := Try.func89.trans (congrArg some (by kernel_rfl))
  f265 := Try.func108.trans (congrArg some (by kernel_rfl))
  t3 := Try.underlying3
  a3 := Try.isAgg3
  z3 := Try.sizeOf3
  v3 := Try.zeroValue3
  t9 := Try.underlying9
  a9 := Try.isAgg9
  z9 := Try.sizeOf9
  v9 := Try.zeroValue9 }
open Go.RowKit in
/-- strings.Compare: "Compare returns an integer comparing two strings lexicographically. The result will be 0 if a == b, -1 if a < b, and +1 if a > b.": IT RETURNS 'Lib.compareBytes a b'; the world is as it was. (LAID: no walk: one application.) -/
theorem Try.strings_Compare (a b : ByteArray) (w : World) :
    Calls Try.prog 62 #[.string a, .string b] w fun e w' => e = .returned (.int .i64 (Lib.compareBytes a.data.toList b.data.toList)) ∧ w' = w := Any.strings_Compare Try.lays106 a b w
def Try.lays137_ren : Go.Shelf.Ren := ⟨fun | 137 => 103 | 217 => 109 | 266 => 119 | n => n, fun | 9 => 9 | 5 => 5 | 3 => 3 | n => n, fun | n => n⟩
theorem Try.lays137 : Go.Proofs.Lays.n137 Try.prog Try.lays137_ren := {
  mixed := by kernel_rfl
  f137 := Try.func103.trans (congrArg some (by kernel_rfl))
  f217 := Try.func109.trans (congrArg some (by kernel_rfl))
  f266 := Try.func119.trans (congrArg some (by kernel_rfl))
  t3 := Try.underlying3
  a3 := Try.isAgg3
  z3 := Try.sizeOf3
  v3 := Try.zeroValue3
  t5 := Try.underlying5
  a5 := Try.isAgg5
  z5 := Try.sizeOf5
  v5 := Try.zeroValue5
  t9 := Try.underlying9
  a9 := Try.isAgg9
  z9 := Try.sizeOf9
  v9 := Try.zeroValue9 }
open Go.RowKit in
/-- strings.IndexByte: "IndexByte returns the index of the first instance of c in s, or -1 if c is not present in s.": IT RETURNS 'Lib.indexByte s c'; the world is as it was. (LAID: no walk: one application.) -/
theorem Try.strings_IndexByte (s : ByteArray) (c : Int) (w : World) :
    Calls Try.prog 103 #[.string s, .int .u8 c] w fun e w' => e = .returned (.int .i64 (Lib.indexByte s.data.toList c.toNat.toUInt8)) ∧ w' = w := Any.strings_IndexByte Try.lays137 s c w
def Try.lays215_ren : Go.Shelf.Ren := ⟨fun | 215 => 91 | n => n, fun | 3 => 3 | 4 => 4 | n => n, fun | n => n⟩
theorem Try.lays215 : Go.Proofs.Lays.n215 Try.prog Try.lays215_ren := {
  mixed := by kernel_rfl
  f215 := Try.func91.trans (congrArg some (by kernel_rfl))
  t3 := Try.underlying3
  a3 := Try.isAgg3
  z3 := Try.sizeOf3
  v3 := Try.zeroValue3
  t4 := Try.underlying4
  a4 := Try.isAgg4
  z4 := Try.sizeOf4
  v4 := Try.zeroValue4 }
open Go.RowKit in
/-- cmp.isNaN at int: 'x != x': false. (LAID: no walk: one application.) -/
theorem Try.cmp_isNaN_int (x : Int) (w : World) :
    Calls Try.prog 91 #[.int .i64 x] w fun e w' => e = .returned (.bool false) ∧ w' = w := Any.cmp_isNaN_int Try.lays215 x w
def Try.lays122_ren : Go.Shelf.Ren := ⟨fun | 122 => 65 | 215 => 91 | n => n, fun | 3 => 3 | 4 => 4 | n => n, fun | n => n⟩
theorem Try.lays122 : Go.Proofs.Lays.n122 Try.prog Try.lays122_ren := {
  mixed := by kernel_rfl
  f122 := Try.func65.trans (congrArg some (by kernel_rfl))
  f215 := Try.func91.trans (congrArg some (by kernel_rfl))
  t3 := Try.underlying3
  a3 := Try.isAgg3
  z3 := Try.sizeOf3
  v3 := Try.zeroValue3
  t4 := Try.underlying4
  a4 := Try.isAgg4
  z4 := Try.sizeOf4
  v4 := Try.zeroValue4 }
open Go.RowKit in
/-- cmp.Compare at int: "Compare returns -1 if x is less than y, 0 if x equals y, +1 if x is greater than y.": IT RETURNS 'Lib.compareInt x y'; the world is as it was. (LAID: no walk: one application.) -/
theorem Try.cmp_Compare_int (x y : Int) (w : World) :
    Calls Try.prog 65 #[.int .i64 x, .int .i64 y] w fun e w' => e = .returned (.int .i64 (Lib.compareInt x y)) ∧ w' = w := Any.cmp_Compare_int Try.lays122 x y w
open Go.RowKit in
/-- (*strings.Builder).String: "String returns the accumulated string.": OF A BUILDER THAT HOLDS AT LEAST ONE BYTE. ✋ THE MODEL FREEZES THOSE BYTES IN THE BUFFER (unsafe.String): a later write INTO them ends the model's run without an answer; a later append BEHIND them goes on. The statement's order of evaluation is drawn: one draw. THE FORM '_f': IT SAYS BESIDES THAT THE BUILDER IS A BUILDER STILL ('Lib.IsBuilderF', the same bytes): SO IT CAN BE WRITTEN ON: 'b.WriteString(b.String()[:k])'. (LAID: no walk: one application.) -/
theorem Try.Builder_String_f (B b : Nat) (l : List UInt8) (w : World) (h : Lib.IsBuilderF 112 5 B b (Lib.byteCells l) w) (h0 : l ≠ []) :
    Calls Try.prog 61 #[.pointer (some ⟨b, 0, none⟩)] w fun e w' => e = .returned (.string ⟨l.toArray⟩) ∧ (Lib.IsBuilderF 112 5 B b (Lib.byteCells l) w' ∧ Below B w w') := Any.Builder_String_f Try.lays169 Try.Builder_Extra_169 B b l w h h0
open Go.RowKit in
/-- (*strings.Builder).String OF A BUILDER THAT HOLDS NO BYTE: the empty string; THE FORM '_f': a builder still. (LAID: no walk: one application.) -/
theorem Try.Builder_String_empty_f (B b : Nat) (w : World) (h : Lib.IsBuilderF 112 5 B b [] w) (hBw : B ≤ w.heap.size) :
    Calls Try.prog 61 #[.pointer (some ⟨b, 0, none⟩)] w fun e w' => e = .returned (.string ⟨#[]⟩) ∧ (Lib.IsBuilderF 112 5 B b [] w' ∧ Below B w w') := Any.Builder_String_empty_f Try.lays169 Try.Builder_Extra_169 B b w h hBw
open Go.RowKit in
/-- (*strings.Builder).String: "String returns the accumulated string.": WHATEVER THE BUILDER HOLDS; THE FORM '_f': OF A BUILDER THAT MAY HAVE BEEN READ BEFORE; AND IT IS A BUILDER STILL, holding the same bytes: it can be written on. (LAID: no walk: one application.) -/
theorem Try.Builder_String_any_f (B b : Nat) (l : List UInt8) (w : World) (h : Lib.IsBuilderF 112 5 B b (Lib.byteCells l) w) (hBw : B ≤ w.heap.size) :
    Calls Try.prog 61 #[.pointer (some ⟨b, 0, none⟩)] w fun e w' => e = .returned (.string ⟨l.toArray⟩) ∧ (Lib.IsBuilderF 112 5 B b (Lib.byteCells l) w' ∧ Below B w w') := Any.Builder_String_any_f Try.lays169 Try.Builder_Extra_169 B b l w h hBw
open Go.RowKit in
/-- (*strings.Builder).String: "String returns the accumulated string.": OF A BUILDER THAT HOLDS AT LEAST ONE BYTE. ✋ THE MODEL FREEZES THOSE BYTES IN THE BUFFER (unsafe.String): a later write INTO them ends the model's run without an answer; a later append BEHIND them goes on. The statement's order of evaluation is drawn: one draw. THE FORM '_k': OVER 'Lib.IsBuilderF' (a builder that 'String()' may have read), AND WITH THE FRAME THAT REACHES ABOVE THE BUILDER: 'Lib.OthersKept': every block that is not b and is no row of uint8's stands as it stood: the iterator of a range among them. (LAID: no walk: one application.) -/
theorem Try.Builder_String_k (B b : Nat) (l : List UInt8) (w : World) (h : Lib.IsBuilderF 112 5 B b (Lib.byteCells l) w) (h0 : l ≠ []) :
    Calls Try.prog 61 #[.pointer (some ⟨b, 0, none⟩)] w fun e w' => e = .returned (.string ⟨l.toArray⟩) ∧ (Lib.IsBuilderF 112 5 B b (Lib.byteCells l) w' ∧ Below B w w' ∧ Lib.OthersKept 5 (some b) w w') := Any.Builder_String_k Try.lays169 Try.Builder_Extra_169 B b l w h h0
open Go.RowKit in
/-- (*strings.Builder).String OF A BUILDER THAT HOLDS NO BYTE: the empty string; THE FORM '_k': OVER 'Lib.IsBuilderF' (a builder that 'String()' may have read), AND WITH THE FRAME THAT REACHES ABOVE THE BUILDER: 'Lib.OthersKept': every block that is not b and is no row of uint8's stands as it stood: the iterator of a range among them. (LAID: no walk: one application.) -/
theorem Try.Builder_String_empty_k (B b : Nat) (w : World) (h : Lib.IsBuilderF 112 5 B b [] w) (hBw : B ≤ w.heap.size) :
    Calls Try.prog 61 #[.pointer (some ⟨b, 0, none⟩)] w fun e w' => e = .returned (.string ⟨#[]⟩) ∧ (Lib.IsBuilderF 112 5 B b [] w' ∧ Below B w w' ∧ Lib.OthersKept 5 (some b) w w') := Any.Builder_String_empty_k Try.lays169 Try.Builder_Extra_169 B b w h hBw
open Go.RowKit in
/-- (*strings.Builder).String: "String returns the accumulated string.": WHATEVER THE BUILDER HOLDS; THE FORM '_k': OVER 'Lib.IsBuilderF' (a builder that 'String()' may have read), AND WITH THE FRAME THAT REACHES ABOVE THE BUILDER: 'Lib.OthersKept': every block that is not b and is no row of uint8's stands as it stood: the iterator of a range among them. (LAID: no walk: one application.) -/
theorem Try.Builder_String_any_k (B b : Nat) (l : List UInt8) (w : World) (h : Lib.IsBuilderF 112 5 B b (Lib.byteCells l) w) (hBw : B ≤ w.heap.size) :
    Calls Try.prog 61 #[.pointer (some ⟨b, 0, none⟩)] w fun e w' => e = .returned (.string ⟨l.toArray⟩) ∧ (Lib.IsBuilderF 112 5 B b (Lib.byteCells l) w' ∧ Below B w w' ∧ Lib.OthersKept 5 (some b) w w') := Any.Builder_String_any_k Try.lays169 Try.Builder_Extra_169 B b l w h hBw
def Try.lays278_ren : Go.Shelf.Ren := ⟨fun | 278 => 107 | n => n, fun | 37 => 105 | 21 => 21 | 51 => 162 | 4 => 4 | 46 => 147 | 5 => 5 | n => n, fun | n => n⟩
theorem Try.lays278 : Go.Proofs.Lays.n278 Try.prog Try.lays278_ren := {
  mixed := by kernel_rfl
  f278 := Try.func107.trans (congrArg some (by kernel_rfl))
  t4 := Try.underlying4
  a4 := Try.isAgg4
  z4 := Try.sizeOf4
  v4 := Try.zeroValue4
  t5 := Try.underlying5
  a5 := Try.isAgg5
  z5 := Try.sizeOf5
  v5 := Try.zeroValue5
  t21 := Try.underlying21
  a21 := Try.isAgg21
  z21 := Try.sizeOf21
  v21 := Try.zeroValue21
  t37 := Try.underlying105
  a37 := Try.isAgg105
  z37 := Try.sizeOf105
  v37 := Try.zeroValue105
  t46 := Try.underlying147
  a46 := Try.isAgg147
  z46 := Try.sizeOf147
  v46 := Try.zeroValue147
  t51 := Try.underlying162
  a51 := Try.isAgg162
  z51 := Try.sizeOf162
  v51 := Try.zeroValue162 }
open Go.RowKit in
/-- unicode/utf8.appendRuneNonASCII (what AppendRune calls for all but ASCII), ONTO A ROW OF BYTES THAT THE CALL OWNS: every int32 that is no ASCII rune: 'Lib.runeCells r' goes in behind what the row holds. (LAID: no walk: one application.) -/
theorem Try.utf8_appendRuneNonASCII_row (B : Nat) (v : Value) (n : Nat) (xs : List Value) (r : Int) (hr0 : -2147483648 ≤ r) (hr1 : r ≤ 2147483647) (hna : r < 0 ∨ 128 ≤ r) (w : World) (hown : w.ownsRowF B 5 1 v n xs) (hlen : n + 4 ≤ 140737488355328) (hBw : B ≤ w.heap.size) :
    Calls Try.prog 107 #[v, .int .i32 r] w fun e w' => ∃ v', e = .returned v' ∧ w'.ownsRowF B 5 1 v' (n + (Lib.runeCells r).length) (xs ++ Lib.runeCells r) ∧ ∃ o, (w.alloc o).grownBy w' v.ownBlock := Any.utf8_appendRuneNonASCII_row Try.lays278 (by kernel_rfl) B v n xs r hr0 hr1 hna w hown hlen hBw
def Try.lays242_ren : Go.Shelf.Ren := ⟨fun | 242 => 88 | 278 => 107 | n => n, fun | 37 => 105 | 21 => 21 | 51 => 162 | 4 => 4 | 5 => 5 | 46 => 147 | n => n, fun | n => n⟩
theorem Try.lays242 : Go.Proofs.Lays.n242 Try.prog Try.lays242_ren := {
  mixed := by kernel_rfl
  f242 := Try.func88.trans (congrArg some (by kernel_rfl))
  f278 := Try.func107.trans (congrArg some (by kernel_rfl))
  t4 := Try.underlying4
  a4 := Try.isAgg4
  z4 := Try.sizeOf4
  v4 := Try.zeroValue4
  t5 := Try.underlying5
  a5 := Try.isAgg5
  z5 := Try.sizeOf5
  v5 := Try.zeroValue5
  t21 := Try.underlying21
  a21 := Try.isAgg21
  z21 := Try.sizeOf21
  v21 := Try.zeroValue21
  t37 := Try.underlying105
  a37 := Try.isAgg105
  z37 := Try.sizeOf105
  v37 := Try.zeroValue105
  t46 := Try.underlying147
  a46 := Try.isAgg147
  z46 := Try.sizeOf147
  v46 := Try.zeroValue147
  t51 := Try.underlying162
  a51 := Try.isAgg162
  z51 := Try.sizeOf162
  v51 := Try.zeroValue162 }
open Go.RowKit in
/-- unicode/utf8.AppendRune: "AppendRune appends the UTF-8 encoding of r to the end of p and returns the extended buffer. If the rune is out of range, it appends the encoding of RuneError.": ONTO A ROW OF BYTES THAT THE CALL OWNS (its head frozen or not): EVERY int32: 'Lib.runeCells r' goes in behind what the row holds; the world: one new block (the bytes as the call's variadic argument), then what 'append' does to the row. (LAID: no walk: one application.) -/
theorem Try.utf8_AppendRune_row (B : Nat) (v : Value) (n : Nat) (xs : List Value) (r : Int) (hr0 : -2147483648 ≤ r) (hr1 : r ≤ 2147483647) (w : World) (hown : w.ownsRowF B 5 1 v n xs) (hlen : n + 4 ≤ 140737488355328) (hBw : B ≤ w.heap.size) :
    Calls Try.prog 88 #[v, .int .i32 r] w fun e w' => ∃ v', e = .returned v' ∧ w'.ownsRowF B 5 1 v' (n + (Lib.runeCells r).length) (xs ++ Lib.runeCells r) ∧ ∃ o, (w.alloc o).grownBy w' v.ownBlock := Any.utf8_AppendRune_row Try.lays242 (by kernel_rfl) B v n xs r hr0 hr1 w hown hlen hBw
open Go.RowKit in
/-- unicode/utf8.appendRuneNonASCII (what AppendRune calls for all but ASCII), ONTO A ROW OF BYTES THAT THE CALL OWNS: every int32 that is no ASCII rune: 'Lib.runeCells r' goes in behind what the row holds. (LAID: no walk: one application.) -/
theorem Try.utf8_appendRuneNonASCII_plain (B : Nat) (v : Value) (n : Nat) (xs : List Value) (r : Int) (hr0 : -2147483648 ≤ r) (hr1 : r ≤ 2147483647) (hna : r < 0 ∨ 128 ≤ r) (w : World) (hown : w.ownsRow B 5 1 v n xs) (hlen : n + 4 ≤ 140737488355328) (hBw : B ≤ w.heap.size) :
    Calls Try.prog 107 #[v, .int .i32 r] w fun e w' => ∃ v', e = .returned v' ∧ w'.ownsRow B 5 1 v' (n + (Lib.runeCells r).length) (xs ++ Lib.runeCells r) ∧ ∃ o, (w.alloc o).grownBy w' v.ownBlock := Any.utf8_appendRuneNonASCII_plain Try.lays278 (by kernel_rfl) B v n xs r hr0 hr1 hna w hown hlen hBw
open Go.RowKit in
/-- unicode/utf8.AppendRune: "AppendRune appends the UTF-8 encoding of r to the end of p and returns the extended buffer. If the rune is out of range, it appends the encoding of RuneError.": ONTO A ROW OF BYTES THAT THE CALL OWNS (its head frozen or not): EVERY int32: 'Lib.runeCells r' goes in behind what the row holds; the world: one new block (the bytes as the call's variadic argument), then what 'append' does to the row. (LAID: no walk: one application.) -/
theorem Try.utf8_AppendRune_plain (B : Nat) (v : Value) (n : Nat) (xs : List Value) (r : Int) (hr0 : -2147483648 ≤ r) (hr1 : r ≤ 2147483647) (w : World) (hown : w.ownsRow B 5 1 v n xs) (hlen : n + 4 ≤ 140737488355328) (hBw : B ≤ w.heap.size) :
    Calls Try.prog 88 #[v, .int .i32 r] w fun e w' => ∃ v', e = .returned v' ∧ w'.ownsRow B 5 1 v' (n + (Lib.runeCells r).length) (xs ++ Lib.runeCells r) ∧ ∃ o, (w.alloc o).grownBy w' v.ownBlock := Any.utf8_AppendRune_plain Try.lays242 (by kernel_rfl) B v n xs r hr0 hr1 w hown hlen hBw
def Try.lays217_ren : Go.Shelf.Ren := ⟨fun | 217 => 109 | 266 => 119 | n => n, fun | 9 => 9 | 5 => 5 | 3 => 3 | n => n, fun | n => n⟩
theorem Try.lays217 : Go.Proofs.Lays.n217 Try.prog Try.lays217_ren := {
  mixed := by kernel_rfl
  f217 := Try.func109.trans (congrArg some (by kernel_rfl))
  f266 := Try.func119.trans (congrArg some (by kernel_rfl))
  t3 := Try.underlying3
  a3 := Try.isAgg3
  z3 := Try.sizeOf3
  v3 := Try.zeroValue3
  t5 := Try.underlying5
  a5 := Try.isAgg5
  z5 := Try.sizeOf5
  v5 := Try.zeroValue5
  t9 := Try.underlying9
  a9 := Try.isAgg9
  z9 := Try.sizeOf9
  v9 := Try.zeroValue9 }
open Go.RowKit Go.Lib in
/-- internal/stringslite.IndexByte (what strings.IndexByte calls): IT RETURNS 'Lib.indexByte s c'; the world is as it was. (LAID: no walk: one application.) -/
theorem Try.stringslite_IndexByte (s : ByteArray) (c : Int) (w : World) :
    Calls Try.prog 109 #[.string s, .int .u8 c] w fun e w' => e = .returned (.int .i64 (Lib.indexByte s.data.toList c.toNat.toUInt8)) ∧ w' = w := Any.stringslite_IndexByte Try.lays217 s c w
def Try.lays224_ren : Go.Shelf.Ren := ⟨fun | 224 => 105 | n => n, fun | 3 => 3 | n => n, fun | n => n⟩
theorem Try.lays224 : Go.Proofs.Lays.n224 Try.prog Try.lays224_ren := {
  mixed := by kernel_rfl
  f224 := Try.func105.trans (congrArg some (by kernel_rfl))
  t3 := Try.underlying3
  a3 := Try.isAgg3
  z3 := Try.sizeOf3
  v3 := Try.zeroValue3 }
open Go.RowKit Go.Lib in
/-- internal/bytealg.Cutover: "Cutover reports the number of failures of IndexByte we should tolerate before switching over to Index. n is the number of bytes processed so far.": on amd64: (n + 16) / 8. (LAID: no walk: one application.) -/
theorem Try.bytealg_Cutover (n : Int) (h0 : 0 ≤ n) (h1 : n < 4611686018427387904) (w : World) :
    Calls Try.prog 105 #[.int .i64 n] w fun e w' => e = .returned (.int .i64 ((n + 16) / 8)) ∧ w' = w := Any.bytealg_Cutover Try.lays224 n h0 h1 w
def Try.lays314_ren : Go.Shelf.Ren := ⟨fun | 314 => 120 | n => n, fun | 9 => 9 | 51 => 162 | 3 => 3 | 4 => 4 | 5 => 5 | 46 => 147 | n => n, fun | n => n⟩
theorem Try.lays314 : Go.Proofs.Lays.n314 Try.prog Try.lays314_ren := {
  mixed := by kernel_rfl
  f314 := Try.func120.trans (congrArg some (by kernel_rfl))
  t3 := Try.underlying3
  a3 := Try.isAgg3
  z3 := Try.sizeOf3
  v3 := Try.zeroValue3
  t4 := Try.underlying4
  a4 := Try.isAgg4
  z4 := Try.sizeOf4
  v4 := Try.zeroValue4
  t5 := Try.underlying5
  a5 := Try.isAgg5
  z5 := Try.sizeOf5
  v5 := Try.zeroValue5
  t9 := Try.underlying9
  a9 := Try.isAgg9
  z9 := Try.sizeOf9
  v9 := Try.zeroValue9
  t46 := Try.underlying147
  a46 := Try.isAgg147
  z46 := Try.sizeOf147
  v46 := Try.zeroValue147
  t51 := Try.underlying162
  a51 := Try.isAgg162
  z51 := Try.sizeOf162
  v51 := Try.zeroValue162 }
open Go.RowKit Go.Lib in
/-- hashStr: "returns the hash and the appropriate multiplicative factor for use in Rabin-Karp algorithm": THE HASH OF ALL OF sep, AND 16777619 ^ len(sep), both in uint32. (LAID: no walk: one application.) -/
theorem Try.bytealg_hashStr (sep : ByteArray) (hs : sep.size < 4294967281) (w : World) :
    Calls Try.prog 120 #[.string sep] w fun e w' => e = .returned (.tuple #[.int .u32 (RK.H sep.data.toList % 4294967296), .int .u32 (16777619 ^ sep.size % 4294967296)]) ∧ w' = w := Any.bytealg_hashStr Try.lays314 sep hs w
def Try.lays267_ren : Go.Shelf.Ren := ⟨fun | 267 => 110 | 314 => 120 | n => n, fun | 9 => 9 | 3 => 3 | 146 => 168 | 51 => 162 | 4 => 4 | 5 => 5 | 46 => 147 | n => n, fun | n => n⟩
theorem Try.lays267 : Go.Proofs.Lays.n267 Try.prog Try.lays267_ren := {
  mixed := by kernel_rfl
  f267 := Try.func110.trans (congrArg some (by kernel_rfl))
  f314 := Try.func120.trans (congrArg some (by kernel_rfl))
  t3 := Try.underlying3
  a3 := Try.isAgg3
  z3 := Try.sizeOf3
  v3 := Try.zeroValue3
  t4 := Try.underlying4
  a4 := Try.isAgg4
  z4 := Try.sizeOf4
  v4 := Try.zeroValue4
  t5 := Try.underlying5
  a5 := Try.isAgg5
  z5 := Try.sizeOf5
  v5 := Try.zeroValue5
  t9 := Try.underlying9
  a9 := Try.isAgg9
  z9 := Try.sizeOf9
  v9 := Try.zeroValue9
  t46 := Try.underlying147
  a46 := Try.isAgg147
  z46 := Try.sizeOf147
  v46 := Try.zeroValue147
  t51 := Try.underlying162
  a51 := Try.isAgg162
  z51 := Try.sizeOf162
  v51 := Try.zeroValue162
  t146 := Try.underlying168
  a146 := Try.isAgg168
  z146 := Try.sizeOf168
  v146 := Try.zeroValue168 }
open Go.RowKit Go.Lib in
theorem Try.bytealg_IndexRabinKarp (s sep : ByteArray) (h1 : 1 ≤ sep.size) (h2 : sep.size ≤ s.size) (hs : s.size < 4294967281) (w : World) :
    Calls Try.prog 110 #[.string s, .string sep] w fun e w' => e = .returned (.int .i64 (Lib.index s.data.toList sep.data.toList)) ∧ w' = w := Any.bytealg_IndexRabinKarp Try.lays267 s sep h1 h2 hs w
def Try.lays219_ren : Go.Shelf.Ren := ⟨fun | 219 => 92 | 217 => 109 | 225 => 106 | 224 => 105 | 267 => 110 | 266 => 119 | 314 => 120 | n => n, fun | 9 => 9 | 3 => 3 | 4 => 4 | 5 => 5 | 46 => 147 | 146 => 168 | 51 => 162 | n => n, fun | 1 => 0 | n => n⟩
theorem Try.lays219 : Go.Proofs.Lays.n219 Try.prog Try.lays219_ren := {
  mixed := by kernel_rfl
  f217 := Try.func109.trans (congrArg some (by kernel_rfl))
  f219 := Try.func92.trans (congrArg some (by kernel_rfl))
  f224 := Try.func105.trans (congrArg some (by kernel_rfl))
  f225 := Try.func106.trans (congrArg some (by kernel_rfl))
  f266 := Try.func119.trans (congrArg some (by kernel_rfl))
  f267 := Try.func110.trans (congrArg some (by kernel_rfl))
  f314 := Try.func120.trans (congrArg some (by kernel_rfl))
  t3 := Try.underlying3
  a3 := Try.isAgg3
  z3 := Try.sizeOf3
  v3 := Try.zeroValue3
  t4 := Try.underlying4
  a4 := Try.isAgg4
  z4 := Try.sizeOf4
  v4 := Try.zeroValue4
  t5 := Try.underlying5
  a5 := Try.isAgg5
  z5 := Try.sizeOf5
  v5 := Try.zeroValue5
  t9 := Try.underlying9
  a9 := Try.isAgg9
  z9 := Try.sizeOf9
  v9 := Try.zeroValue9
  t46 := Try.underlying147
  a46 := Try.isAgg147
  z46 := Try.sizeOf147
  v46 := Try.zeroValue147
  t51 := Try.underlying162
  a51 := Try.isAgg162
  z51 := Try.sizeOf162
  v51 := Try.zeroValue162
  t146 := Try.underlying168
  a146 := Try.isAgg168
  z146 := Try.sizeOf168
  v146 := Try.zeroValue168
  g1 := by kernel_rfl }
open Go.RowKit Go.Lib in
/-- internal/stringslite.Index (what strings.Index calls) AT A substr OF ONE BYTE c: IT RETURNS 'Lib.indexByte s c'; the world is as it was. (LAID: no walk: one application.) -/
theorem Try.stringslite_Index_one (s : ByteArray) (c : UInt8) (w : World) :
    Calls Try.prog 92 #[.string s, .string ⟨#[c]⟩] w fun e w' => e = .returned (.int .i64 (Lib.indexByte s.data.toList c)) ∧ w' = w := Any.stringslite_Index_one Try.lays219 s c w
open Go.RowKit Go.Lib in
/-- internal/stringslite.Index (what strings.Index calls) AT A substr OF WHATEVER LENGTH: IT RETURNS 'Lib.index s substr'; the world is as it was. 'm': what internal/bytealg.MaxLen holds: whatever. (LAID: no walk: one application.) -/
theorem Try.stringslite_Index (s sub : ByteArray) (m : Int) (w : World) (hs : s.size < 4294967281) (hm : w.cell? ⟨0, 0, none⟩ = some (.int .i64 m)) :
    Calls Try.prog 92 #[.string s, .string sub] w fun e w' => e = .returned (.int .i64 (Lib.index s.data.toList sub.data.toList)) ∧ w' = w := Any.stringslite_Index Try.lays219 s sub m w hs hm
def Try.lays143_ren : Go.Shelf.Ren := ⟨fun | 143 => 66 | 219 => 92 | 217 => 109 | 225 => 106 | 224 => 105 | 267 => 110 | 266 => 119 | 314 => 120 | n => n, fun | 9 => 9 | 3 => 3 | 4 => 4 | 5 => 5 | 46 => 147 | 146 => 168 | 51 => 162 | n => n, fun | 1 => 0 | n => n⟩
theorem Try.lays143 : Go.Proofs.Lays.n143 Try.prog Try.lays143_ren := {
  mixed := by kernel_rfl
  f143 := Try.func66.trans (congrArg some (by kernel_rfl))
  f217 := Try.func109.trans (congrArg some (by kernel_rfl))
  f219 := Try.func92.trans (congrArg some (by kernel_rfl))
  f224 := Try.func105.trans (congrArg some (by kernel_rfl))
  f225 := Try.func106.trans (congrArg some (by kernel_rfl))
  f266 := Try.func119.trans (congrArg some (by kernel_rfl))
  f267 := Try.func110.trans (congrArg some (by kernel_rfl))
  f314 := Try.func120.trans (congrArg some (by kernel_rfl))
  t3 := Try.underlying3
  a3 := Try.isAgg3
  z3 := Try.sizeOf3
  v3 := Try.zeroValue3
  t4 := Try.underlying4
  a4 := Try.isAgg4
  z4 := Try.sizeOf4
  v4 := Try.zeroValue4
  t5 := Try.underlying5
  a5 := Try.isAgg5
  z5 := Try.sizeOf5
  v5 := Try.zeroValue5
  t9 := Try.underlying9
  a9 := Try.isAgg9
  z9 := Try.sizeOf9
  v9 := Try.zeroValue9
  t46 := Try.underlying147
  a46 := Try.isAgg147
  z46 := Try.sizeOf147
  v46 := Try.zeroValue147
  t51 := Try.underlying162
  a51 := Try.isAgg162
  z51 := Try.sizeOf162
  v51 := Try.zeroValue162
  t146 := Try.underlying168
  a146 := Try.isAgg168
  z146 := Try.sizeOf168
  v146 := Try.zeroValue168
  g1 := by kernel_rfl }
open Go.RowKit Go.Lib in
/-- strings.Index: "Index returns the index of the first instance of substr in s, or -1 if substr is not present in s.": AT A substr OF ONE BYTE c: IT RETURNS 'Lib.indexByte s c'; the world is as it was. (LAID: no walk: one application.) -/
theorem Try.strings_Index_one (s : ByteArray) (c : UInt8) (w : World) :
    Calls Try.prog 66 #[.string s, .string ⟨#[c]⟩] w fun e w' => e = .returned (.int .i64 (Lib.indexByte s.data.toList c)) ∧ w' = w := Any.strings_Index_one Try.lays143 s c w
open Go.RowKit Go.Lib in
/-- strings.Index: "Index returns the index of the first instance of substr in s, or -1 if substr is not present in s.": IT RETURNS 'Lib.index s substr'; the world is as it was. (LAID: no walk: one application.) -/
theorem Try.strings_Index (s sub : ByteArray) (m : Int) (w : World) (hs : s.size < 4294967281) (hm : w.cell? ⟨0, 0, none⟩ = some (.int .i64 m)) :
    Calls Try.prog 66 #[.string s, .string sub] w fun e w' => e = .returned (.int .i64 (Lib.index s.data.toList sub.data.toList)) ∧ w' = w := Any.strings_Index Try.lays143 s sub m w hs hm
def Try.lays144_ren : Go.Shelf.Ren := ⟨fun | 144 => 56 | 143 => 66 | 219 => 92 | 217 => 109 | 225 => 106 | 224 => 105 | 267 => 110 | 266 => 119 | 314 => 120 | n => n, fun | 9 => 9 | 4 => 4 | 3 => 3 | 5 => 5 | 46 => 147 | 146 => 168 | 51 => 162 | n => n, fun | 1 => 0 | n => n⟩
theorem Try.lays144 : Go.Proofs.Lays.n144 Try.prog Try.lays144_ren := {
  mixed := by kernel_rfl
  f143 := Try.func66.trans (congrArg some (by kernel_rfl))
  f144 := Try.func56.trans (congrArg some (by kernel_rfl))
  f217 := Try.func109.trans (congrArg some (by kernel_rfl))
  f219 := Try.func92.trans (congrArg some (by kernel_rfl))
  f224 := Try.func105.trans (congrArg some (by kernel_rfl))
  f225 := Try.func106.trans (congrArg some (by kernel_rfl))
  f266 := Try.func119.trans (congrArg some (by kernel_rfl))
  f267 := Try.func110.trans (congrArg some (by kernel_rfl))
  f314 := Try.func120.trans (congrArg some (by kernel_rfl))
  t3 := Try.underlying3
  a3 := Try.isAgg3
  z3 := Try.sizeOf3
  v3 := Try.zeroValue3
  t4 := Try.underlying4
  a4 := Try.isAgg4
  z4 := Try.sizeOf4
  v4 := Try.zeroValue4
  t5 := Try.underlying5
  a5 := Try.isAgg5
  z5 := Try.sizeOf5
  v5 := Try.zeroValue5
  t9 := Try.underlying9
  a9 := Try.isAgg9
  z9 := Try.sizeOf9
  v9 := Try.zeroValue9
  t46 := Try.underlying147
  a46 := Try.isAgg147
  z46 := Try.sizeOf147
  v46 := Try.zeroValue147
  t51 := Try.underlying162
  a51 := Try.isAgg162
  z51 := Try.sizeOf162
  v51 := Try.zeroValue162
  t146 := Try.underlying168
  a146 := Try.isAgg168
  z146 := Try.sizeOf168
  v146 := Try.zeroValue168
  g1 := by kernel_rfl }
open Go.RowKit Go.Lib in
/-- strings.Contains: "Contains reports whether substr is within s.": AT A substr OF ONE BYTE c: IT RETURNS 'decide (0 ≤ Lib.indexByte s c)'; the world is as it was. (LAID: no walk: one application.) -/
theorem Try.strings_Contains_one (s : ByteArray) (c : UInt8) (w : World) :
    Calls Try.prog 56 #[.string s, .string ⟨#[c]⟩] w fun e w' => e = .returned (.bool (decide (0 ≤ Lib.indexByte s.data.toList c))) ∧ w' = w := Any.strings_Contains_one Try.lays144 s c w
open Go.RowKit Go.Lib in
/-- strings.Contains: "Contains reports whether substr is within s.": IT RETURNS 'Lib.contains s substr'; the world is as it was. (LAID: no walk: one application.) -/
theorem Try.strings_Contains (s sub : ByteArray) (m : Int) (w : World) (hs : s.size < 4294967281) (hm : w.cell? ⟨0, 0, none⟩ = some (.int .i64 m)) :
    Calls Try.prog 56 #[.string s, .string sub] w fun e w' => e = .returned (.bool (Lib.contains s.data.toList sub.data.toList)) ∧ w' = w := Any.strings_Contains Try.lays144 s sub m w hs hm
def Try.lays220_ren : Go.Shelf.Ren := ⟨fun | 220 => 84 | 219 => 92 | 217 => 109 | 225 => 106 | 224 => 105 | 267 => 110 | 266 => 119 | 314 => 120 | n => n, fun | 9 => 9 | 4 => 4 | 3 => 3 | 5 => 5 | 46 => 147 | 146 => 168 | 51 => 162 | n => n, fun | 1 => 0 | n => n⟩
theorem Try.lays220 : Go.Proofs.Lays.n220 Try.prog Try.lays220_ren := {
  mixed := by kernel_rfl
  f217 := Try.func109.trans (congrArg some (by kernel_rfl))
  f219 := Try.func92.trans (congrArg some (by kernel_rfl))
  f220 := Try.func84.trans (congrArg some (by kernel_rfl))
  f224 := Try.func105.trans (congrArg some (by kernel_rfl))
  f225 := Try.func106.trans (congrArg some (by kernel_rfl))
  f266 := Try.func119.trans (congrArg some (by kernel_rfl))
  f267 := Try.func110.trans (congrArg some (by kernel_rfl))
  f314 := Try.func120.trans (congrArg some (by kernel_rfl))
  t3 := Try.underlying3
  a3 := Try.isAgg3
  z3 := Try.sizeOf3
  v3 := Try.zeroValue3
  t4 := Try.underlying4
  a4 := Try.isAgg4
  z4 := Try.sizeOf4
  v4 := Try.zeroValue4
  t5 := Try.underlying5
  a5 := Try.isAgg5
  z5 := Try.sizeOf5
  v5 := Try.zeroValue5
  t9 := Try.underlying9
  a9 := Try.isAgg9
  z9 := Try.sizeOf9
  v9 := Try.zeroValue9
  t46 := Try.underlying147
  a46 := Try.isAgg147
  z46 := Try.sizeOf147
  v46 := Try.zeroValue147
  t51 := Try.underlying162
  a51 := Try.isAgg162
  z51 := Try.sizeOf162
  v51 := Try.zeroValue162
  t146 := Try.underlying168
  a146 := Try.isAgg168
  z146 := Try.sizeOf168
  v146 := Try.zeroValue168
  g1 := by kernel_rfl }
open Go.RowKit Go.Lib in
/-- internal/stringslite.Cut (what strings.Cut calls): IT RETURNS 'Lib.cut s sep'; the world is as it was but for the count of draws. (LAID: no walk: one application.) -/
theorem Try.stringslite_Cut (s sep : ByteArray) (m : Int) (w : World) (hs : s.size < 4294967281) (hm : w.cell? ⟨0, 0, none⟩ = some (.int .i64 m)) :
    Calls Try.prog 84 #[.string s, .string sep] w fun e w' => e = .returned (.tuple #[.string ⟨(Lib.cut s.data.toList sep.data.toList).1.toArray⟩, .string ⟨(Lib.cut s.data.toList sep.data.toList).2.1.toArray⟩, .bool (Lib.cut s.data.toList sep.data.toList).2.2]) ∧ ∃ n, w' = w.drewN n := Any.stringslite_Cut Try.lays220 s sep m w hs hm
def Try.lays145_ren : Go.Shelf.Ren := ⟨fun | 145 => 55 | 220 => 84 | 219 => 92 | 217 => 109 | 225 => 106 | 224 => 105 | 267 => 110 | 266 => 119 | 314 => 120 | n => n, fun | 9 => 9 | 4 => 4 | 59 => 107 | 3 => 3 | 5 => 5 | 46 => 147 | 146 => 168 | 51 => 162 | n => n, fun | 1 => 0 | n => n⟩
theorem Try.lays145 : Go.Proofs.Lays.n145 Try.prog Try.lays145_ren := {
  mixed := by kernel_rfl
  f145 := Try.func55.trans (congrArg some (by kernel_rfl))
  f217 := Try.func109.trans (congrArg some (by kernel_rfl))
  f219 := Try.func92.trans (congrArg some (by kernel_rfl))
  f220 := Try.func84.trans (congrArg some (by kernel_rfl))
  f224 := Try.func105.trans (congrArg some (by kernel_rfl))
  f225 := Try.func106.trans (congrArg some (by kernel_rfl))
  f266 := Try.func119.trans (congrArg some (by kernel_rfl))
  f267 := Try.func110.trans (congrArg some (by kernel_rfl))
  f314 := Try.func120.trans (congrArg some (by kernel_rfl))
  t3 := Try.underlying3
  a3 := Try.isAgg3
  z3 := Try.sizeOf3
  v3 := Try.zeroValue3
  t4 := Try.underlying4
  a4 := Try.isAgg4
  z4 := Try.sizeOf4
  v4 := Try.zeroValue4
  t5 := Try.underlying5
  a5 := Try.isAgg5
  z5 := Try.sizeOf5
  v5 := Try.zeroValue5
  t9 := Try.underlying9
  a9 := Try.isAgg9
  z9 := Try.sizeOf9
  v9 := Try.zeroValue9
  t46 := Try.underlying147
  a46 := Try.isAgg147
  z46 := Try.sizeOf147
  v46 := Try.zeroValue147
  t51 := Try.underlying162
  a51 := Try.isAgg162
  z51 := Try.sizeOf162
  v51 := Try.zeroValue162
  t59 := Try.underlying107
  a59 := Try.isAgg107
  z59 := Try.sizeOf107
  v59 := Try.zeroValue107
  t146 := Try.underlying168
  a146 := Try.isAgg168
  z146 := Try.sizeOf168
  v146 := Try.zeroValue168
  g1 := by kernel_rfl }
open Go.RowKit Go.Lib in
/-- strings.Cut: "Cut slices s around the first instance of sep, returning the text before and after sep. The found result reports whether sep appears in s. If sep does not appear in s, cut returns s, "", false.": IT RETURNS 'Lib.cut s sep'; the world is as it was but for the count of draws. (LAID: no walk: one application.) -/
theorem Try.strings_Cut (s sep : ByteArray) (m : Int) (w : World) (hs : s.size < 4294967281) (hm : w.cell? ⟨0, 0, none⟩ = some (.int .i64 m)) :
    Calls Try.prog 55 #[.string s, .string sep] w fun e w' => e = .returned (.tuple #[.string ⟨(Lib.cut s.data.toList sep.data.toList).1.toArray⟩, .string ⟨(Lib.cut s.data.toList sep.data.toList).2.1.toArray⟩, .bool (Lib.cut s.data.toList sep.data.toList).2.2]) ∧ ∃ n, w' = w.drewN n := Any.strings_Cut Try.lays145 s sep m w hs hm
def Try.laysM219_ren : Go.Shelf.Ren := ⟨fun | 219 => 92 | 217 => 109 | 225 => 106 | 224 => 105 | 267 => 110 | 266 => 119 | 314 => 120 | n => n, fun | 9 => 9 | 3 => 3 | 4 => 4 | 5 => 5 | 46 => 147 | 146 => 168 | 51 => 162 | n => n, fun | 1 => 0 | n => n⟩
theorem Try.laysM219 : Go.Proofs.LaysM.n219 Try.prog Try.laysM219_ren := {
  mixed := by kernel_rfl
  f217 := Try.func109.trans (congrArg some (by kernel_rfl))
  f219 := Try.func92.trans (congrArg some (by kernel_rfl))
  f224 := Try.func105.trans (congrArg some (by kernel_rfl))
  f225 := Try.func106.trans (congrArg some (by kernel_rfl))
  f266 := Try.func119.trans (congrArg some (by kernel_rfl))
  f267 := Try.func110.trans (congrArg some (by kernel_rfl))
  f314 := Try.func120.trans (congrArg some (by kernel_rfl))
  t3 := Try.underlying3
  a3 := Try.isAgg3
  z3 := Try.sizeOf3
  v3 := Try.zeroValue3
  t4 := Try.underlying4
  a4 := Try.isAgg4
  z4 := Try.sizeOf4
  v4 := Try.zeroValue4
  t5 := Try.underlying5
  a5 := Try.isAgg5
  z5 := Try.sizeOf5
  v5 := Try.zeroValue5
  t9 := Try.underlying9
  a9 := Try.isAgg9
  z9 := Try.sizeOf9
  v9 := Try.zeroValue9
  t46 := Try.underlying147
  a46 := Try.isAgg147
  z46 := Try.sizeOf147
  v46 := Try.zeroValue147
  t51 := Try.underlying162
  a51 := Try.isAgg162
  z51 := Try.sizeOf162
  v51 := Try.zeroValue162
  t146 := Try.underlying168
  a146 := Try.isAgg168
  z146 := Try.sizeOf168
  v146 := Try.zeroValue168
  g1 := by kernel_rfl
  i3 := by kernel_rfl
  i4 := by kernel_rfl
  i5 := by kernel_rfl
  i9 := by kernel_rfl
  i46 := by kernel_rfl
  i51 := by kernel_rfl
  i146 := by kernel_rfl
  m1 := by kernel_rfl
  s1_3 := fun w h => Go.Proofs.cell_of_shapedOpen_int (zero := #[.int .i64 0]) (t := 3) h (of_decide_eq_true (by kernel_rfl)) (by kernel_rfl) rfl (by kernel_rfl) (by kernel_rfl) Try.underlying3 }
open Go.RowKit Go.Lib in
theorem Try.stringslite_Index_shaped (s sub : ByteArray) (w : World) (h : w.ShapedOpen Try.prog) (hs : s.size < 4294967281) :
    Calls Try.prog 92 #[.string s, .string sub] w fun e w' => e = .returned (.int .i64 (Lib.index s.data.toList sub.data.toList)) ∧ w' = w := Any.stringslite_Index_shaped Try.laysM219 s sub w h hs
def Try.laysM143_ren : Go.Shelf.Ren := ⟨fun | 143 => 66 | 219 => 92 | 217 => 109 | 225 => 106 | 224 => 105 | 267 => 110 | 266 => 119 | 314 => 120 | n => n, fun | 9 => 9 | 3 => 3 | 4 => 4 | 5 => 5 | 46 => 147 | 146 => 168 | 51 => 162 | n => n, fun | 1 => 0 | n => n⟩
theorem Try.laysM143 : Go.Proofs.LaysM.n143 Try.prog Try.laysM143_ren := {
  mixed := by kernel_rfl
  f143 := Try.func66.trans (congrArg some (by kernel_rfl))
  f217 := Try.func109.trans (congrArg some (by kernel_rfl))
  f219 := Try.func92.trans (congrArg some (by kernel_rfl))
  f224 := Try.func105.trans (congrArg some (by kernel_rfl))
  f225 := Try.func106.trans (congrArg some (by kernel_rfl))
  f266 := Try.func119.trans (congrArg some (by kernel_rfl))
  f267 := Try.func110.trans (congrArg some (by kernel_rfl))
  f314 := Try.func120.trans (congrArg some (by kernel_rfl))
  t3 := Try.underlying3
  a3 := Try.isAgg3
  z3 := Try.sizeOf3
  v3 := Try.zeroValue3
  t4 := Try.underlying4
  a4 := Try.isAgg4
  z4 := Try.sizeOf4
  v4 := Try.zeroValue4
  t5 := Try.underlying5
  a5 := Try.isAgg5
  z5 := Try.sizeOf5
  v5 := Try.zeroValue5
  t9 := Try.underlying9
  a9 := Try.isAgg9
  z9 := Try.sizeOf9
  v9 := Try.zeroValue9
  t46 := Try.underlying147
  a46 := Try.isAgg147
  z46 := Try.sizeOf147
  v46 := Try.zeroValue147
  t51 := Try.underlying162
  a51 := Try.isAgg162
  z51 := Try.sizeOf162
  v51 := Try.zeroValue162
  t146 := Try.underlying168
  a146 := Try.isAgg168
  z146 := Try.sizeOf168
  v146 := Try.zeroValue168
  g1 := by kernel_rfl
  i3 := by kernel_rfl
  i4 := by kernel_rfl
  i5 := by kernel_rfl
  i9 := by kernel_rfl
  i46 := by kernel_rfl
  i51 := by kernel_rfl
  i146 := by kernel_rfl
  m1 := by kernel_rfl
  s1_3 := fun w h => Go.Proofs.cell_of_shapedOpen_int (zero := #[.int .i64 0]) (t := 3) h (of_decide_eq_true (by kernel_rfl)) (by kernel_rfl) rfl (by kernel_rfl) (by kernel_rfl) Try.underlying3 }
open Go.RowKit Go.Lib in
theorem Try.strings_Index_shaped (s sub : ByteArray) (w : World) (h : w.ShapedOpen Try.prog) (hs : s.size < 4294967281) :
    Calls Try.prog 66 #[.string s, .string sub] w fun e w' => e = .returned (.int .i64 (Lib.index s.data.toList sub.data.toList)) ∧ w' = w := Any.strings_Index_shaped Try.laysM143 s sub w h hs
def Try.laysM144_ren : Go.Shelf.Ren := ⟨fun | 144 => 56 | 143 => 66 | 219 => 92 | 217 => 109 | 225 => 106 | 224 => 105 | 267 => 110 | 266 => 119 | 314 => 120 | n => n, fun | 9 => 9 | 4 => 4 | 3 => 3 | 5 => 5 | 46 => 147 | 146 => 168 | 51 => 162 | n => n, fun | 1 => 0 | n => n⟩
theorem Try.laysM144 : Go.Proofs.LaysM.n144 Try.prog Try.laysM144_ren := {
  mixed := by kernel_rfl
  f143 := Try.func66.trans (congrArg some (by kernel_rfl))
  f144 := Try.func56.trans (congrArg some (by kernel_rfl))
  f217 := Try.func109.trans (congrArg some (by kernel_rfl))
  f219 := Try.func92.trans (congrArg some (by kernel_rfl))
  f224 := Try.func105.trans (congrArg some (by kernel_rfl))
  f225 := Try.func106.trans (congrArg some (by kernel_rfl))
  f266 := Try.func119.trans (congrArg some (by kernel_rfl))
  f267 := Try.func110.trans (congrArg some (by kernel_rfl))
  f314 := Try.func120.trans (congrArg some (by kernel_rfl))
  t3 := Try.underlying3
  a3 := Try.isAgg3
  z3 := Try.sizeOf3
  v3 := Try.zeroValue3
  t4 := Try.underlying4
  a4 := Try.isAgg4
  z4 := Try.sizeOf4
  v4 := Try.zeroValue4
  t5 := Try.underlying5
  a5 := Try.isAgg5
  z5 := Try.sizeOf5
  v5 := Try.zeroValue5
  t9 := Try.underlying9
  a9 := Try.isAgg9
  z9 := Try.sizeOf9
  v9 := Try.zeroValue9
  t46 := Try.underlying147
  a46 := Try.isAgg147
  z46 := Try.sizeOf147
  v46 := Try.zeroValue147
  t51 := Try.underlying162
  a51 := Try.isAgg162
  z51 := Try.sizeOf162
  v51 := Try.zeroValue162
  t146 := Try.underlying168
  a146 := Try.isAgg168
  z146 := Try.sizeOf168
  v146 := Try.zeroValue168
  g1 := by kernel_rfl
  i3 := by kernel_rfl
  i4 := by kernel_rfl
  i5 := by kernel_rfl
  i9 := by kernel_rfl
  i46 := by kernel_rfl
  i51 := by kernel_rfl
  i146 := by kernel_rfl
  m1 := by kernel_rfl
  s1_3 := fun w h => Go.Proofs.cell_of_shapedOpen_int (zero := #[.int .i64 0]) (t := 3) h (of_decide_eq_true (by kernel_rfl)) (by kernel_rfl) rfl (by kernel_rfl) (by kernel_rfl) Try.underlying3 }
open Go.RowKit Go.Lib in
theorem Try.strings_Contains_shaped (s sub : ByteArray) (w : World) (h : w.ShapedOpen Try.prog) (hs : s.size < 4294967281) :
    Calls Try.prog 56 #[.string s, .string sub] w fun e w' => e = .returned (.bool (Lib.contains s.data.toList sub.data.toList)) ∧ w' = w := Any.strings_Contains_shaped Try.laysM144 s sub w h hs
def Try.laysM220_ren : Go.Shelf.Ren := ⟨fun | 220 => 84 | 219 => 92 | 217 => 109 | 225 => 106 | 224 => 105 | 267 => 110 | 266 => 119 | 314 => 120 | n => n, fun | 9 => 9 | 4 => 4 | 3 => 3 | 5 => 5 | 46 => 147 | 146 => 168 | 51 => 162 | n => n, fun | 1 => 0 | n => n⟩
theorem Try.laysM220 : Go.Proofs.LaysM.n220 Try.prog Try.laysM220_ren := {
  mixed := by kernel_rfl
  f217 := Try.func109.trans (congrArg some (by kernel_rfl))
  f219 := Try.func92.trans (congrArg some (by kernel_rfl))
  f220 := Try.func84.trans (congrArg some (by kernel_rfl))
  f224 := Try.func105.trans (congrArg some (by kernel_rfl))
  f225 := Try.func106.trans (congrArg some (by kernel_rfl))
  f266 := Try.func119.trans (congrArg some (by kernel_rfl))
  f267 := Try.func110.trans (congrArg some (by kernel_rfl))
  f314 := Try.func120.trans (congrArg some (by kernel_rfl))
  t3 := Try.underlying3
  a3 := Try.isAgg3
  z3 := Try.sizeOf3
  v3 := Try.zeroValue3
  t4 := Try.underlying4
  a4 := Try.isAgg4
  z4 := Try.sizeOf4
  v4 := Try.zeroValue4
  t5 := Try.underlying5
  a5 := Try.isAgg5
  z5 := Try.sizeOf5
  v5 := Try.zeroValue5
  t9 := Try.underlying9
  a9 := Try.isAgg9
  z9 := Try.sizeOf9
  v9 := Try.zeroValue9
  t46 := Try.underlying147
  a46 := Try.isAgg147
  z46 := Try.sizeOf147
  v46 := Try.zeroValue147
  t51 := Try.underlying162
  a51 := Try.isAgg162
  z51 := Try.sizeOf162
  v51 := Try.zeroValue162
  t146 := Try.underlying168
  a146 := Try.isAgg168
  z146 := Try.sizeOf168
  v146 := Try.zeroValue168
  g1 := by kernel_rfl
  i3 := by kernel_rfl
  i4 := by kernel_rfl
  i5 := by kernel_rfl
  i9 := by kernel_rfl
  i46 := by kernel_rfl
  i51 := by kernel_rfl
  i146 := by kernel_rfl
  m1 := by kernel_rfl
  s1_3 := fun w h => Go.Proofs.cell_of_shapedOpen_int (zero := #[.int .i64 0]) (t := 3) h (of_decide_eq_true (by kernel_rfl)) (by kernel_rfl) rfl (by kernel_rfl) (by kernel_rfl) Try.underlying3 }
open Go.RowKit Go.Lib in
theorem Try.stringslite_Cut_shaped (s sep : ByteArray) (w : World) (h : w.ShapedOpen Try.prog) (hs : s.size < 4294967281) :
    Calls Try.prog 84 #[.string s, .string sep] w fun e w' => e = .returned (.tuple #[.string ⟨(Lib.cut s.data.toList sep.data.toList).1.toArray⟩, .string ⟨(Lib.cut s.data.toList sep.data.toList).2.1.toArray⟩, .bool (Lib.cut s.data.toList sep.data.toList).2.2]) ∧ ∃ n, w' = w.drewN n := Any.stringslite_Cut_shaped Try.laysM220 s sep w h hs
def Try.laysM145_ren : Go.Shelf.Ren := ⟨fun | 145 => 55 | 220 => 84 | 219 => 92 | 217 => 109 | 225 => 106 | 224 => 105 | 267 => 110 | 266 => 119 | 314 => 120 | n => n, fun | 9 => 9 | 4 => 4 | 59 => 107 | 3 => 3 | 5 => 5 | 46 => 147 | 146 => 168 | 51 => 162 | n => n, fun | 1 => 0 | n => n⟩
theorem Try.laysM145 : Go.Proofs.LaysM.n145 Try.prog Try.laysM145_ren := {
  mixed := by kernel_rfl
  f145 := Try.func55.trans (congrArg some (by kernel_rfl))
  f217 := Try.func109.trans (congrArg some (by kernel_rfl))
  f219 := Try.func92.trans (congrArg some (by kernel_rfl))
  f220 := Try.func84.trans (congrArg some (by kernel_rfl))
  f224 := Try.func105.trans (congrArg some (by kernel_rfl))
  f225 := Try.func106.trans (congrArg some (by kernel_rfl))
  f266 := Try.func119.trans (congrArg some (by kernel_rfl))
  f267 := Try.func110.trans (congrArg some (by kernel_rfl))
  f314 := Try.func120.trans (congrArg some (by kernel_rfl))
  t3 := Try.underlying3
  a3 := Try.isAgg3
  z3 := Try.sizeOf3
  v3 := Try.zeroValue3
  t4 := Try.underlying4
  a4 := Try.isAgg4
  z4 := Try.sizeOf4
  v4 := Try.zeroValue4
  t5 := Try.underlying5
  a5 := Try.isAgg5
  z5 := Try.sizeOf5
  v5 := Try.zeroValue5
  t9 := Try.underlying9
  a9 := Try.isAgg9
  z9 := Try.sizeOf9
  v9 := Try.zeroValue9
  t46 := Try.underlying147
  a46 := Try.isAgg147
  z46 := Try.sizeOf147
  v46 := Try.zeroValue147
  t51 := Try.underlying162
  a51 := Try.isAgg162
  z51 := Try.sizeOf162
  v51 := Try.zeroValue162
  t59 := Try.underlying107
  a59 := Try.isAgg107
  z59 := Try.sizeOf107
  v59 := Try.zeroValue107
  t146 := Try.underlying168
  a146 := Try.isAgg168
  z146 := Try.sizeOf168
  v146 := Try.zeroValue168
  g1 := by kernel_rfl
  i3 := by kernel_rfl
  i4 := by kernel_rfl
  i5 := by kernel_rfl
  i9 := by kernel_rfl
  i46 := by kernel_rfl
  i51 := by kernel_rfl
  i59 := by kernel_rfl
  i146 := by kernel_rfl
  m1 := by kernel_rfl
  s1_3 := fun w h => Go.Proofs.cell_of_shapedOpen_int (zero := #[.int .i64 0]) (t := 3) h (of_decide_eq_true (by kernel_rfl)) (by kernel_rfl) rfl (by kernel_rfl) (by kernel_rfl) Try.underlying3 }
open Go.RowKit Go.Lib in
theorem Try.strings_Cut_shaped (s sep : ByteArray) (w : World) (h : w.ShapedOpen Try.prog) (hs : s.size < 4294967281) :
    Calls Try.prog 55 #[.string s, .string sep] w fun e w' => e = .returned (.tuple #[.string ⟨(Lib.cut s.data.toList sep.data.toList).1.toArray⟩, .string ⟨(Lib.cut s.data.toList sep.data.toList).2.1.toArray⟩, .bool (Lib.cut s.data.toList sep.data.toList).2.2]) ∧ ∃ n, w' = w.drewN n := Any.strings_Cut_shaped Try.laysM145 s sep w h hs
def Try.lays152_ren : Go.Shelf.Ren := ⟨fun | 152 => 87 | 137 => 103 | 119 => 104 | 224 => 105 | 225 => 106 | 217 => 109 | 266 => 119 | n => n, fun | 9 => 9 | 21 => 21 | 3 => 3 | 4 => 4 | 5 => 5 | 0 => 0 | 46 => 147 | n => n, fun | n => n⟩
theorem Try.lays152 : Go.Proofs.Lays.n152 Try.prog Try.lays152_ren := {
  mixed := by kernel_rfl
  f119 := Try.func104.trans (congrArg some (by kernel_rfl))
  f137 := Try.func103.trans (congrArg some (by kernel_rfl))
  f152 := Try.func87.trans (congrArg some (by kernel_rfl))
  f217 := Try.func109.trans (congrArg some (by kernel_rfl))
  f224 := Try.func105.trans (congrArg some (by kernel_rfl))
  f225 := Try.func106.trans (congrArg some (by kernel_rfl))
  f266 := Try.func119.trans (congrArg some (by kernel_rfl))
  t0 := Try.underlying0
  a0 := Try.isAgg0
  z0 := Try.sizeOf0
  v0 := Try.zeroValue0
  t3 := Try.underlying3
  a3 := Try.isAgg3
  z3 := Try.sizeOf3
  v3 := Try.zeroValue3
  t4 := Try.underlying4
  a4 := Try.isAgg4
  z4 := Try.sizeOf4
  v4 := Try.zeroValue4
  t5 := Try.underlying5
  a5 := Try.isAgg5
  z5 := Try.sizeOf5
  v5 := Try.zeroValue5
  t9 := Try.underlying9
  a9 := Try.isAgg9
  z9 := Try.sizeOf9
  v9 := Try.zeroValue9
  t21 := Try.underlying21
  a21 := Try.isAgg21
  z21 := Try.sizeOf21
  v21 := Try.zeroValue21
  t46 := Try.underlying147
  a46 := Try.isAgg147
  z46 := Try.sizeOf147
  v46 := Try.zeroValue147 }
open Go.RowKit Go.Lib in
theorem Try.strings_IndexRune_ascii (s : ByteArray) (r : Int) (w : World) (h0 : 0 ≤ r) (h1 : r < 128) :
    Calls Try.prog 87 #[.string s, .int .i32 r] w fun e w' => e = .returned (.int .i64 (Lib.indexByte s.data.toList r.toNat.toUInt8)) ∧ w' = w := Any.strings_IndexRune_ascii Try.lays152 s r w h0 h1
def Try.lays151_ren : Go.Shelf.Ren := ⟨fun | 151 => 59 | 152 => 87 | 137 => 103 | 119 => 104 | 224 => 105 | 225 => 106 | 217 => 109 | 266 => 119 | n => n, fun | 9 => 9 | 21 => 21 | 4 => 4 | 3 => 3 | 5 => 5 | 0 => 0 | 46 => 147 | n => n, fun | n => n⟩
theorem Try.lays151 : Go.Proofs.Lays.n151 Try.prog Try.lays151_ren := {
  mixed := by kernel_rfl
  f119 := Try.func104.trans (congrArg some (by kernel_rfl))
  f137 := Try.func103.trans (congrArg some (by kernel_rfl))
  f151 := Try.func59.trans (congrArg some (by kernel_rfl))
  f152 := Try.func87.trans (congrArg some (by kernel_rfl))
  f217 := Try.func109.trans (congrArg some (by kernel_rfl))
  f224 := Try.func105.trans (congrArg some (by kernel_rfl))
  f225 := Try.func106.trans (congrArg some (by kernel_rfl))
  f266 := Try.func119.trans (congrArg some (by kernel_rfl))
  t0 := Try.underlying0
  a0 := Try.isAgg0
  z0 := Try.sizeOf0
  v0 := Try.zeroValue0
  t3 := Try.underlying3
  a3 := Try.isAgg3
  z3 := Try.sizeOf3
  v3 := Try.zeroValue3
  t4 := Try.underlying4
  a4 := Try.isAgg4
  z4 := Try.sizeOf4
  v4 := Try.zeroValue4
  t5 := Try.underlying5
  a5 := Try.isAgg5
  z5 := Try.sizeOf5
  v5 := Try.zeroValue5
  t9 := Try.underlying9
  a9 := Try.isAgg9
  z9 := Try.sizeOf9
  v9 := Try.zeroValue9
  t21 := Try.underlying21
  a21 := Try.isAgg21
  z21 := Try.sizeOf21
  v21 := Try.zeroValue21
  t46 := Try.underlying147
  a46 := Try.isAgg147
  z46 := Try.sizeOf147
  v46 := Try.zeroValue147 }
open Go.RowKit Go.Lib in
theorem Try.strings_ContainsRune_ascii (s : ByteArray) (r : Int) (w : World) (h0 : 0 ≤ r) (h1 : r < 128) :
    Calls Try.prog 59 #[.string s, .int .i32 r] w fun e w' => e = .returned (.bool (decide (0 ≤ Lib.indexByte s.data.toList r.toNat.toUInt8))) ∧ w' = w := Any.strings_ContainsRune_ascii Try.lays151 s r w h0 h1
def Try.laysNm237_ren : Go.Shelf.Ren := ⟨fun | 37 => 91 | n => n, fun | 3 => 3 | 4 => 4 | n => n, fun | n => n⟩
theorem Try.laysNm237 : Go.Proofs.Lays2.n37 Try.prog Try.laysNm237_ren := {
  mixed := by kernel_rfl
  f37 := Try.func91.trans (congrArg some (by kernel_rfl))
  t3 := Try.underlying3
  a3 := Try.isAgg3
  z3 := Try.sizeOf3
  v3 := Try.zeroValue3
  t4 := Try.underlying4
  a4 := Try.isAgg4
  z4 := Try.sizeOf4
  v4 := Try.zeroValue4 }
open Go.RowKit Go.Lib in
/-- cmp.isNaN[int]: 'x != x': false. (LAID: no walk: one application.) -/
theorem Try.cmp_isNaN_int2 (x : Int) (w : World) :
    Calls Try.prog 91 #[.int .i64 x] w fun e w' => e = .returned (.bool false) ∧ w' = w := Any.cmp_isNaN_int2 Try.laysNm237 x w
end Go.Proofs

/- strings.ContainsRune of any character, in a string of ASCII alone. -/
namespace Go.Proofs.Ytcajnmhbkjngbaa
open Go.RowKit Go.Shelf
variable {w w' : World}

def Asc (s : ByteArray) : Prop := ∀ b ∈ s.data.toList, b < 128
theorem asc_get {s : ByteArray} (h : Asc s) (k : Nat) (hk : k < s.size) : (s[k]).toNat < 128 := by
  have := h s[k] (by simp [ByteArray.getElem_eq_getElem_data])
  simpa [UInt8.lt_iff_toNat_lt] using this
theorem indexByte_none : ∀ {l : List UInt8} {c : UInt8}, (∀ b ∈ l, b ≠ c) → Lib.indexByte l c = -1
  | [], _, _ => rfl
  | b :: l, c, h => by
    have h1 : (b == c) = false := by simpa using h b List.mem_cons_self
    have ih := indexByte_none (l := l) (c := c) fun x hx => h x (List.mem_cons_of_mem _ hx)
    unfold Lib.indexByte
    rw [h1, ih]
    rfl
theorem decode_asc {s : ByteArray} (h : Asc s) (k : Nat) (hk : k < s.size) : Utf8.decode s k = ((s[k]).toNat, 1) := by
  have h1 := asc_get h k hk
  have h2 : s.get! (k + 0) = s[k] := by
    rw [Nat.add_zero]
    simp [ByteArray.get!, ByteArray.getElem_eq_getElem_data, hk]
  unfold Utf8.decode
  simp only [h2]
  rw [if_pos h1]
set_option maxRecDepth 100000 in
set_option maxHeartbeats 2000000 in
theorem indexRune_bad (s : ByteArray) (hs : s.size ≤ 100) (ha : Asc s) (w : World) : Calls Try.prog 87 #[.string s, .int .i32 65533] w fun e w' => e = .returned (.int .i64 (-1)) ∧ Below w.heap.size w w' := by
  have HA := Lib.hid ha
  go_enter Try.func87, Try.ntmps87
  go_wp2
  go_loopw [] (fun wr => ∃ pos : Nat, pos ≤ s.size ∧ wr = w.iter s pos) (fun wr => s.size - wr.iterPos w.heap.size)
  case atStart => exact ⟨0, Nat.zero_le _, rfl⟩
  case round =>
    obtain ⟨pos, hp, rfl⟩ := hrel
    by_cases hlt : pos < s.size
    · have hn := fun ty => run_next_any (P := Try.prog) w s pos ty hlt
      rw [decode_asc HA.out pos hlt] at hn
      have hb := asc_get HA.out pos hlt
      generalize (s[pos]).toNat = q at *
      have hq : ((q : Int) == 65533) = false := by simp; omega
      have hq2 : (q == 65533) = false := by simp; omega
      go_wp2
      go_roundw
      case rel => exact ⟨pos + 1, by omega, rfl⟩
      case measure => simp; omega
    · obtain rfl : pos = s.size := by omega
      have hn := fun ty => run_next_end (P := Try.prog) w s s.size ty hlt
      clear hlt hp
      go_wp2
      go_ret
      exact ⟨rfl, (Below.refl _ _).alloc (Nat.le_refl _) _⟩
theorem encode_far {c : Int} (h0 : 128 ≤ c) : ∃ m, (Utf8.encode c).size = m + 1 ∧ 1 ≤ m ∧ m ≤ 3 ∧ ∀ h : m < (Utf8.encode c).size, 128 ≤ ((Utf8.encode c)[m]).toNat := by
  have key : ∀ n : Nat, (UInt8.ofNat (0x80 + n % 64)).toNat = 128 + n % 64 := fun n => by rw [UInt8.toNat_ofNat']; omega
  have gen : ∀ (k : Nat) (rs : ByteArray), 128 ≤ k → rs = (if k < 0x80 then ⟨#[UInt8.ofNat k]⟩ else if k < 0x800 then ⟨#[UInt8.ofNat (0xC0 + k / 64), UInt8.ofNat (0x80 + k % 64)]⟩ else if k < 0x10000 then ⟨#[UInt8.ofNat (0xE0 + k / 4096), UInt8.ofNat (0x80 + k / 64 % 64), UInt8.ofNat (0x80 + k % 64)]⟩ else ⟨#[UInt8.ofNat (0xF0 + k / 262144), UInt8.ofNat (0x80 + k / 4096 % 64), UInt8.ofNat (0x80 + k / 64 % 64), UInt8.ofNat (0x80 + k % 64)]⟩) → ∃ m, rs.size = m + 1 ∧ 1 ≤ m ∧ m ≤ 3 ∧ ∀ h : m < rs.size, 128 ≤ (rs[m]).toNat := fun k rs hk hrs => by
    rw [if_neg (by omega)] at hrs
    by_cases h2 : k < 0x800
    · rw [if_pos h2] at hrs
      subst hrs
      refine ⟨1, rfl, by omega, by omega, fun h => ?_⟩
      show 128 ≤ (UInt8.ofNat (0x80 + k % 64)).toNat
      rw [key]; omega
    · rw [if_neg h2] at hrs
      by_cases h3 : k < 0x10000
      · rw [if_pos h3] at hrs
        subst hrs
        refine ⟨2, rfl, by omega, by omega, fun h => ?_⟩
        show 128 ≤ (UInt8.ofNat (0x80 + k % 64)).toNat
        rw [key]; omega
      · rw [if_neg h3] at hrs
        subst hrs
        refine ⟨3, rfl, by omega, by omega, fun h => ?_⟩
        show 128 ≤ (UInt8.ofNat (0x80 + k % 64)).toNat
        rw [key]; omega
  refine gen (if Utf8.valid c = true then c.toNat else Utf8.runeError) _ ?_ rfl
  split
  · omega
  · decide
set_option maxRecDepth 100000 in
set_option maxHeartbeats 2000000 in
theorem indexRune_far (s : ByteArray) (hs : s.size ≤ 100) (ha : Asc s) (c : Int) (h0 : 128 ≤ c) (h1 : c ≠ 65533) (h2 : c ≤ 2147483647) (w : World) : Calls Try.prog 87 #[.string s, .int .i32 c] w fun e w' => e = .returned (.int .i64 (-1)) ∧ ∃ n, w' = w.drewN n := by
  have HV := Lib.hid (Try.utf8_ValidRune c)
  have hb : (c == 65533) = false := by simpa using h1
  have hlt : ¬ c < 128 := by omega
  by_cases hv : Lib.validRune c = true
  · rw [hv] at HV
    obtain ⟨m, hm, m1, m3, hl⟩ := encode_far h0
    have HA := Lib.hid ha
    have HL := Lib.hid hl
    clear ha hl
    go_enter Try.func87, Try.ntmps87
    go_wp2_with (go_at_call 104; refine (HV.out _).mono ?_; rintro e w1 ⟨rfl, rfl⟩)
    go_step3
    go_wp2
    go_loop [9] (fun i => i = .int .i64 (m : Int)) (fun _ => 0)
    case atStart => rfl
    case round =>
      subst hrel
      have hA := HA.out
      by_cases hlt2 : m < s.size
      · have hrl : m < (Utf8.encode c).size := by omega
        have h8 := HL.out hrl
        have h9 := asc_get hA m hlt2
        have hne : ¬ (s[m] = (Utf8.encode c)[m]) := fun e => by rw [e] at h9; omega
        have HIX : Hid (Lib.indexByte (s.data.toList.drop (m + 1)) (Utf8.encode c)[m] = -1) := Lib.hid (indexByte_none fun b hb e => by
          have h1 := hA b (List.mem_of_mem_drop hb)
          rw [e, UInt8.lt_iff_toNat_lt] at h1
          have : (128 : UInt8).toNat = 128 := rfl
          omega)
        clear hA hm
        generalize Utf8.encode c = rs at *
        go_wp2
        go_step3
        go_wp2
        go_quiet (fail)
        go_wp2
        have hnb : (((s[m]).toNat : Int) != ((rs[m]).toNat : Int)) = true := by
          simp only [bne_iff_ne, ne_eq]
          exact fun e => hne (UInt8.toNat_inj.1 (by omega))
        have q0 : m ≤ 3 := m3
        have HC : Hid (∀ W, Calls Try.prog 103 #[.string (s.extract (m + 1) s.size), .int .u8 ((rs[m]).toNat : Int)] W fun e w' => e = .returned (.int .i64 (-1)) ∧ ∃ k, w' = W.drewN k) := Lib.hid fun W => (Try.strings_IndexByte _ _ W).mono fun e w' ⟨h1, h2⟩ => ⟨by
          rw [h1]
          have e1 : (s.extract (m + 1) s.size).data.toList = s.data.toList.drop (m + 1) := by
            simp [ByteArray.data_extract]
            exact List.take_of_length_le (by simp)
          have e2 : ((rs[m]).toNat : Int).toNat.toUInt8 = rs[m] := by
            rw [Int.toNat_natCast]; exact UInt8.ofNat_toNat
          rw [e1, e2, HIX.out], 0, h2⟩
        go_quiet ((go_at_call 103; exact quiet_add (HC.out _)))
        go_wp2
        simp (config := { zetaDelta := true }) only [Exit.inBlock, Exit.then, Exit.noGoto_ret]
        go_ret
        exact ⟨rfl, _, rfl⟩
      · clear hA
        go_wp2
        go_ret
        exact ⟨rfl, 0, rfl⟩
  · have hv : Lib.validRune c = false := by simpa using hv
    rw [hv] at HV
    go_enter Try.func87, Try.ntmps87
    go_wp2_with (go_at_call 104; refine (HV.out _).mono ?_; rintro e w1 ⟨rfl, rfl⟩)
    go_ret
    exact ⟨rfl, 0, rfl⟩
/-- Whether a string of ASCII alone contains a character. -/
def hasR (s : ByteArray) (c : Int) : Bool := decide (0 ≤ c) && decide (c < 128) && decide (0 ≤ Lib.indexByte s.data.toList c.toNat.toUInt8)
theorem containsRune_q (s : ByteArray) (hs : s.size ≤ 100) (ha : Asc s) (c : Int) (h0 : 0 ≤ c) (h1 : c ≠ 65533) (h2 : c ≤ 2147483647) (w : World) : Calls Try.prog 59 #[.string s, .int .i32 c] w fun e w' => e = .returned (.bool (hasR s c)) ∧ ∃ n, w' = w.drewN n := by
  by_cases h3 : c < 128
  · refine (Try.strings_ContainsRune_ascii s c w h0 h3).mono fun e w' ⟨h4, h5⟩ => ⟨?_, 0, h5⟩
    rw [h4]
    unfold hasR
    simp [h0, h3]
  · have HR : Hid (hasR s c = false) := Lib.hid (by unfold hasR; simp [h3])
    have H := Lib.hid (indexRune_far s hs ha c (by omega) h1 h2)
    clear hs ha h0 h1 h2 h3
    go_enter Try.func59, Try.ntmps59
    go_wp2_with (go_at_call 87; refine (H.out _).mono ?_; rintro e w1 ⟨rfl, n, rfl⟩)
    go_ret
    exact ⟨by rw [HR.out]; rfl, n, rfl⟩
theorem containsRune_bad (s : ByteArray) (hs : s.size ≤ 100) (ha : Asc s) (w : World) : Calls Try.prog 59 #[.string s, .int .i32 65533] w fun e w' => e = .returned (.bool false) ∧ Below w.heap.size w w' := by
  have H := Lib.hid (indexRune_bad s hs ha)
  clear hs ha
  go_enter Try.func59, Try.ntmps59
  go_wp2_with (go_at_call 87; refine (H.out _).mono ?_; rintro e w1 ⟨rfl, hb⟩; have HB := Lib.hid hb; clear hb)
  go_ret
  exact ⟨rfl, HB.out⟩
end Go.Proofs.Ytcajnmhbkjngbaa

