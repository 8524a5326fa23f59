/- Contracts of the closures of inst.Raises, and of inst.Raises. -/
import Derived.Test.YtadkbcdopcehhaaDoorC3
import Derived.Deep.AppendLies
import Derived.Maps.AppendAt
namespace Go.Proofs.YtadkbcdopcehhaaDoor
open Go.RowKit Mp

def vals (zs : List Int) : Array Value := (zs.map (Value.int .i64)).toArray
/-- is: does the list have the instruction? -/
theorem is_calls (b c B : Nat) (zs : List Int) (op : Int) (w : World) (hbig : zs.length ≤ 9223372036854775807) (hr : w.heap[b]? = some (.cells (vals zs) 3 (0, 0))) (hx : w.cell? ⟨B, 0, none⟩ = some (.int .i64 op)) :
    Calls Tryd.prog 41 #[.slice (some ⟨b, 0, none⟩) zs.length c, .pointer (some ⟨B, 0, none⟩)] w fun e w' => e = .returned (.bool (zs.contains op)) ∧ w = w' := by
  have HC : Hid (Calls Tryd.prog 42 #[.slice (some ⟨b, 0, none⟩) zs.length c, .int .i64 op] w fun e w' => e = .returned (.bool (zs.contains op)) ∧ w = w') :=
    (Tryd.slices_Contains_int b 0 zs.length c zs op w (Nat.le_refl _) hbig (fun j hj => by
      rw [Nat.zero_add]
      exact cell_of_heap hr (by simp [vals, List.getD, List.getElem?_eq_getElem hj]))).mono fun e w' ⟨h1, h2⟩ => ⟨by rw [h1, List.take_length], h2.symm⟩
  clear hbig hr
  go_enter Tryd.func41, Tryd.ntmps41
  go_wp2_with (go_at_call 42; refine HC.out.mono ?_; rintro e w' ⟨rfl, rfl⟩)
  go_ret
  exact ⟨ret_bool (by simp), rfl⟩

def strs (xs : List ByteArray) : List Value := xs.map Value.string
/-- A variable in block bl that holds a slice of the call's own, with these strings. -/
structure SL (B bl : Nat) (W w : World) (xs : List ByteArray) : Prop where
  ex : ∃ v, w.heap[bl]? = some (.cells #[v] 46 (0, 0)) ∧ w.ownsRow (bl + 1) 9 1 v xs.length (strs xs)
  below : Below B W w
  le : B ≤ bl
theorem info9 : (Tryd.prog.info? 9).map (fun i => (i.zero, i.size, i.bytes)) = some (some (.string ⟨#[]⟩), 1, 16) := by kernel_rfl
theorem info_parts {t : TypeId} {z : Option Value} {s b : Nat} (h : (Tryd.prog.info? t).map (fun i => (i.zero, i.size, i.bytes)) = some (z, s, b)) : ∃ i, Tryd.prog.info? t = some i ∧ i.zero = z ∧ i.size = s ∧ i.bytes = b := by
  obtain ⟨i, hi, he⟩ := Option.map_eq_some_iff.1 h
  simp only [Prod.mk.injEq] at he
  exact ⟨i, hi, he.1, he.2.1, he.2.2⟩

theorem own_slice {w : World} {base n : Nat} {e : TypeId} {size : Nat} {v : Value} {xs : List Value} (h : w.ownsRow base e size v n xs) : ∃ A c, v = .slice A n c := by
  rcases h.2 with ⟨rfl, rfl⟩ | ⟨g, cap, cur, rfl, _⟩
  · exact ⟨none, 0, rfl⟩
  · exact ⟨_, cap, rfl⟩
theorem add_no (s : ByteArray) (bl : Nat) (w : World) : Calls Tryd.prog 43 #[.bool false, .string s, .pointer (some ⟨bl, 0, none⟩)] w fun e w' => e = .returned (.tuple #[]) ∧ w = w' := by
  go_enter Tryd.func43, Tryd.ntmps43
  go_wp2
  go_end0
  exact ⟨rfl, rfl⟩

set_option maxHeartbeats 1000000 in
theorem add_yes (s : ByteArray) (B bl : Nat) (W w : World) (xs : List ByteArray) (h : SL B bl W w xs) (hn : xs.length < 1000) :
    Calls Tryd.prog 43 #[.bool true, .string s, .pointer (some ⟨bl, 0, none⟩)] w fun e w' => e = .returned (.tuple #[]) ∧ SL B bl W w' (xs ++ [s]) ∧ ∀ b, b < bl → w'.heap[b]? = w.heap[b]? := by
  obtain ⟨⟨v, hv, hown⟩, hb, hle⟩ := h
  obtain ⟨i0, hi, hz0, hz1, hz2⟩ := info_parts info9
  have hlt : bl < w.heap.size := (Array.getElem?_eq_some_iff.1 hv).1
  have hcell : w.cell? ⟨bl, 0, none⟩ = some v := cell_of_heap hv rfl
  have HV := Lib.hid hv
  have HO := Lib.hid hown
  have HB := Lib.hid hb
  clear hv hown hb
  go_enter Tryd.func43, Tryd.ntmps43
  go_wp2_with (at_builtin; refine wpList_append_own _ rfl _ _ 46 rfl (bl + 1) 9 i0 (.string ⟨#[]⟩) 1 16 Tryd.underlying46 hi hz0 hz1 hz2 rfl (by decide) v xs.length (strs xs) rfl (HO.out.alloc _) ⟨w.heap.size, 0, none⟩ 1 1 [.string s] rfl rfl ?c1 ?c2 ?c3 ?c4 ?c5 ?_)
  case c1 => exact World.news_of_block (cs := #[.string s]) (t := 9) (fr := (0, 0)) (heap_alloc_new w _)
  case c2 => intro u hu; simp at hu; subst hu; rfl
  case c3 => simp only [maxLen]; omega
  case c4 => omega
  case c5 => simp; omega
  intro v1 w1 hown1 hgrow _
  obtain ⟨A1, C1, rfl⟩ := own_slice hown1
  have hlow : ∀ k, v.ownBlock = some k → bl + 1 ≤ k := fun k hk => (HO.out.lt k hk).1
  have hold : ∀ b, b ≤ bl → w1.heap[b]? = w.heap[b]? := fun b hb => by
    rw [hgrow.block b (by simp; omega) (fun e => by have := hlow b e.symm; omega)]
    exact Below.heap_alloc w _ b (by omega)
  have hv1 := (hold bl (Nat.le_refl _)).trans HV.out
  have hcell1 : w1.cell? ⟨bl, 0, none⟩ = some v := cell_of_heap hv1 rfl
  have hfr1 : w1.frozen? ⟨bl, 0, none⟩ = false := by unfold World.frozen?; rw [hv1]; simp
  have HB1 := Lib.hid ((HB.out.alloc (by omega) (.cells #[.string s] 9)).grown hgrow (by simp; omega) (fun k hk => by have := hlow k hk; omega))
  have HOLD := Lib.hid hold
  have HV1 := Lib.hid hv1
  have HOWN1 := Lib.hid hown1
  clear hgrow hold hv1 hown1 hlow hcell hi hz0 hz1 hz2
  go_wp2
  go_end0
  have hkeep : ∀ b, b ≠ bl → (w1.setCell ⟨bl, 0, none⟩ (.slice A1 (xs.length + 1) C1)).heap[b]? = w1.heap[b]? := fun b hb => Below.heap_setCell _ _ _ _ hb
  refine ⟨rfl, ⟨⟨.slice A1 (xs.length + 1) C1, one_setCell HV1.out, ?_⟩, HB1.out.setCell hle _, hle⟩, fun b hb => (hkeep b (by omega)).trans (HOLD.out b (by omega))⟩
  have h2 : (w1.setCell ⟨bl, 0, none⟩ (.slice A1 (xs.length + 1) C1)).ownsRow (bl + 1) 9 1 (.slice A1 (xs.length + 1) C1) (xs.length + 1) (strs xs ++ [.string s]) :=
    HOWN1.out.kept (row := some bl) ⟨rfl, rfl, rfl, by simp [World.setCell], fun k _ hk => hkeep k (fun e => hk (by rw [e]))⟩ (by
      cases hA : Value.ownBlock (.slice A1 (xs.length + 1) C1) with
      | none => exact .inl rfl
      | some k => exact .inr (fun e => by have := (HOWN1.out.lt k hA).1; simp at e; omega))
  simpa [strs] using h2
end Go.Proofs.YtadkbcdopcehhaaDoor
