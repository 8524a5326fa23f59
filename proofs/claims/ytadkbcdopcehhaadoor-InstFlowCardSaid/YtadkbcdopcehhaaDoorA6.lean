/- The contract of inst.Find. -/
import Derived.Test.YtadkbcdopcehhaaDoorA4
import Derived.Test.YtadkbcdopcehhaaDoorMp
namespace Go.Proofs.YtadkbcdopcehhaaDoor
open Go.RowKit Mp

def KS (s : ByteArray) : Value := .string s
def VI (n : Int) : Value := .int .i64 n
def nmsUpto (k : Nat) : List (ByteArray × Int) := (List.range k).map fun i => (nm i, (i : Int))
theorem KS_key (x : ByteArray) : MapKept.IsKey .string (KS x) := trivial
theorem KS_inj (x y : ByteArray) (h : KS x = KS y) : x = y := by injection h
theorem nm_inj : ∀ i j : Fin 111, nm i.val = nm j.val → i = j := by
  have h : ∀ i j : Fin 111, (namesL.getD i.val [] == namesL.getD j.val []) = true → i = j := by decide +kernel
  intro i j e
  apply h i j
  have : (nm i.val).data.toList = (nm j.val).data.toList := by rw [e]
  simpa [nm] using this
theorem get_upto (k : Nat) (hk : k ≤ 111) (j : Nat) (hj : j < 111) : get (nmsUpto k) (nm j) = if j < k then some (j : Int) else none := by
  by_cases h : j < k
  · rw [if_pos h]
    refine get_of_mem ?_ (List.mem_map.2 ⟨j, List.mem_range.2 h, rfl⟩)
    unfold nmsUpto
    rw [List.map_map, List.Nodup, List.pairwise_map]
    refine List.Pairwise.imp_of_mem ?_ (List.nodup_range (n := k))
    intro a b ha hb hne e
    have ha := List.mem_range.1 ha
    have hb := List.mem_range.1 hb
    have := nm_inj ⟨a, by omega⟩ ⟨b, by omega⟩ e
    exact hne (by simpa using this)
  · rw [if_neg h, get_none_iff]
    intro p hp
    obtain ⟨i, hi, rfl⟩ := List.mem_map.1 hp
    have hi := List.mem_range.1 hi
    intro e
    have := nm_inj ⟨i, by omega⟩ ⟨j, hj⟩ e
    simp at this
    omega
theorem put_upto (k : Nat) (hk : k < 111) : put (nmsUpto k) (nm k) (k : Int) = nmsUpto (k + 1) := by
  have : get (nmsUpto k) (nm k) = none := by rw [get_upto k (by omega) k hk]; simp
  rw [put, this]
  simp [nmsUpto, List.range_succ]

/-- inst.Find's answer. -/
def findI (s : ByteArray) : Option Int := get (nmsUpto 111) s

theorem zero3 (w : World) : (zeroValue 3).run Tryd.prog w = .ok (.int .i64 0) w := by kernel_rfl
theorem spTab_of_blocks {w w' : World} (h : SpTab w) (hb : Below w.heap.size w w') : SpTab w' := by
  have hg : Tryd.prog.globalNamed "strings.asciiSpace" = some 0 := by kernel_rfl
  unfold SpTab Lib.TabIs World.var? at h ⊢
  rw [hg] at h ⊢
  simp only [Option.bind_some] at h ⊢
  have hlt : 0 < w.heap.size := by
    rcases Nat.lt_or_ge 0 w.heap.size with h' | h'
    · exact h'
    · rw [Array.getElem?_eq_none h'] at h; cases h
  rw [hb.block 0 hlt]
  exact h
theorem cell_of_heap {w : World} {b j : Nat} {cs : Array Value} {t : TypeId} {fr : Nat × Nat} {v : Value} (h : w.heap[b]? = some (.cells cs t fr)) (hv : cs[j]? = some v) : w.cell? ⟨b, j, none⟩ = some v := by
  unfold World.cell?
  rw [h]
  simpa using hv
theorem Below.setB {B : Nat} {a w : World} (h : Below B a w) {p : Nat} (hp : B ≤ p) (o : Obj) : Below B a (setB w p o) :=
  h.trans ⟨rfl, rfl, rfl, by simp [Mp.setB], fun k hk => heap_setB_ne _ _ _ _ (by omega)⟩
set_option maxRecDepth 100000 in
set_option maxHeartbeats 1000000 in
theorem find_calls (s : ByteArray) (w : World) (ht : SpTab w) :
    Calls Tryd.prog 14 #[.string s] w fun e w' => e = .returned (.tuple #[.int .i64 ((findI s).getD 0), .bool (findI s).isSome]) ∧ Below w.heap.size w w' := by
  have HT := Lib.hid (spTab_of_blocks ht ((Below.refl _ w).alloc (Nat.le_refl _) (.map #[] 0)))
  clear ht
  have hmm := @run_makeMap Tryd.prog
  go_enter Tryd.func14, Tryd.ntmps14
  go_wp2_with (go_at_call 33; refine (fields_calls _ HT.out).mono ?_; rintro e w' ⟨rfl, rfl⟩)
  go_loopw [5, 6, 10] (fun _ _ i wr => ∃ k : Nat, k ≤ 111 ∧ i = .int .i64 k ∧ Hid (MapIs wr w.heap.size KS VI (nmsUpto k)) ∧ Hid (wr.heap[w.heap.size + 1]? = some (.cells namesC 9 (0, 0))) ∧ Hid (Below w.heap.size w wr)) (fun _ _ i _ => 111 - (intOf i).toNat)
  case atStart =>
    refine ⟨0, by omega, rfl, ?_, ?_, ((Below.refl _ _).alloc (Nat.le_refl _) _).alloc (by simp) _⟩
    · exact (MapIs.made w KS VI).of_block (Below.heap_alloc _ _ _ (by simp))
    · have h2 := heap_alloc_new (w.alloc (.map #[] 0)) (.cells namesC 9)
      rw [show (w.alloc (.map #[] 0)).heap.size = w.heap.size + 1 by simp] at h2
      exact h2
  case round =>
    obtain ⟨k, hk, rfl, hm, hrow, hB⟩ := hrel
    by_cases hlt : k < 111
    · have hc := cell_of_heap hrow.out (namesC_at k hlt)
      obtain ⟨o, hrun, hm'⟩ := hm.out.update (P := Tryd.prog) Tryd.underlying68 Tryd.underlying9 KS_key KS_inj (nm k) (k : Int)
      rw [put_upto k hlt] at hm'
      have HM := Lib.hid hm'
      clear hm' hm
      unfold KS VI at hrun
      generalize nm k = n at *
      go_wp2
      go_roundw
      case rel => exact ⟨k + 1, by omega, by go_num, HM, (heap_setB_ne _ _ _ _ (by omega)).trans hrow.out, Below.setB hB.out (Nat.le_refl _) _⟩
      case measure => simp [intOf]; omega
    · obtain rfl : k = 111 := by omega
      have hrun := hm.out.lookup_ok (P := Tryd.prog) Tryd.underlying68 Tryd.underlying9 KS_key KS_inj (zero3 wr) s
      change (Instr.lookup 68 (.map (some w.heap.size)) (.string s) true).run Tryd.prog wr = .ok (.tuple #[((findI s).map VI).getD (.int .i64 0), .bool (findI s).isSome]) wr at hrun
      rw [show ((findI s).map VI).getD (.int .i64 0) = .int .i64 ((findI s).getD 0) by cases findI s <;> rfl] at hrun
      go_wp2
      go_ret2
      exact ⟨rfl, hB.out⟩
end Go.Proofs.YtadkbcdopcehhaaDoor
