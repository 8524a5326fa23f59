/- Ranging over the map of processes: a step, and the count of those that have not ended. -/
import Derived.Test.YtnbjknjnpfmklaaP8
import Derived.Maps.RangeRun
namespace Go.Proofs.Ytnbjknjnpfmklaa
open Go.RowKit

theorem next_step (wr : World) (r mb clk : Nat) (seen : Array Nat) (es : Array MapEntry) (hr : wr.heap[r]? = some (.mapIter (some mb) clk seen clk)) (hb : wr.heap[mb]? = some (.map es clk)) (hst : MapKept.Stamped es clk) (hne : mb ≠ r) :
    ((leftOf es seen).size = 0 ∧ ∀ ty, (Instr.next (.pointer (some ⟨r, 0, none⟩)) false ty).run Try.prog wr = .ok (.tuple #[.bool false]) wr) ∨
    ∃ e ∈ es.toList, seen.contains e.born = false ∧ (leftOf es (seen.push e.born)).size < (leftOf es seen).size ∧ ∃ w1, (∀ ty, (Instr.next (.pointer (some ⟨r, 0, none⟩)) false ty).run Try.prog wr = .ok (.tuple #[.bool true, e.key, e.val]) w1) ∧
      (Instr.entry (.pointer (some ⟨r, 0, none⟩))).run Try.prog w1 = .ok (.tuple #[e.key, e.val]) w1 ∧ w1.heap[r]? = some (.mapIter (some mb) clk (seen.push e.born) clk) ∧ (∀ B, B ≤ r → Below B wr w1) := by
  have h3 := (MapKept.stamped_iff _ _).1 hst
  rcases run_next_at (P := Try.prog) wr 0 r mb clk clk seen es clk hr hb h3.1 (Nat.le_refl _) with ⟨h0, h1⟩ | ⟨e, he, w1, hal, h1⟩
  · exact .inl ⟨h0, fun _ => h1⟩
  · obtain ⟨hm, hs⟩ := mem_left he
    have hrlt : r < wr.heap.size := (Array.getElem?_eq_some_iff.1 hr).1
    have hw1 : w1.heap = wr.heap := by rcases hal with rfl | rfl <;> rfl
    have hBw : ∀ B, Below B wr w1 := fun B => by
      rcases hal with rfl | rfl
      · exact Below.refl _ _
      · exact (Below.refl _ _).drew
    have hr2 : (ChangeMaps.setBlock w1 r (.mapIter (some mb) clk (seen.push e.born) clk)).heap[r]? = some (.mapIter (some mb) clk (seen.push e.born) clk) := by
      simp [ChangeMaps.setBlock, hw1, hrlt]
    have hb2 : (ChangeMaps.setBlock w1 r (.mapIter (some mb) clk (seen.push e.born) clk)).heap[mb]? = some (.map es clk) := by
      have : (ChangeMaps.setBlock w1 r (.mapIter (some mb) clk (seen.push e.born) clk)).heap[mb]? = w1.heap[mb]? := by simp [ChangeMaps.setBlock, Ne.symm hne]
      rw [this, hw1, hb]
    refine .inr ⟨e, hm, hs, left_shrinks es seen e he, _, fun _ => h1, run_entry_at _ r mb clk seen es clk e hr2 hb2 hm h3.2.1, hr2, fun B hB => (hBw B).trans ⟨rfl, rfl, rfl, by simp [ChangeMaps.setBlock], fun k hk => ?_⟩⟩
    have hkr : r ≠ k := by omega
    simp [ChangeMaps.setBlock, hkr]
def alP (p : Pr) : Int := if p.state = 6 then 0 else 1
def alV : Value → Int
  | .agg cs => match cs[2]? with
    | some (Value.int _ s) => if s = 6 then 0 else 1
    | _ => 1
  | _ => 1
def mark (x : MapEntry) : MapEntry := { x with val := .int .i64 (alV x.val) }
def cnt (es : Array MapEntry) (seen : Array Nat) : Int := seenSum (es.toList.map mark) seen
theorem alV_prV (p : Pr) : alV (prV p) = alP p := rfl
theorem cnt_none (es : Array MapEntry) : cnt es #[] = 0 := seenSum_none _
theorem cnt_push (es : Array MapEntry) (seen : Array Nat) (e : MapEntry) (clk : Nat) (hst : MapKept.Stamped es clk) (he : e ∈ es.toList) (hs : seen.contains e.born = false) : cnt es (seen.push e.born) = cnt es seen + alV e.val := by
  have h3 := (MapKept.stamped_iff _ _).1 hst
  exact seenSum_push seen (mark e) hs (es.toList.map mark) (by rw [List.map_map]; exact h3.2.1) (List.mem_map.2 ⟨e, he, rfl⟩)
theorem sum_alive (P : List Pr) : (P.map alP).sum = (aliveP P : Int) := by
  unfold aliveP
  induction P with
  | nil => rfl
  | cons p ps ih =>
    simp only [List.map_cons, List.sum_cons, ih, List.filter_cons, alP]
    by_cases h : p.state = 6
    · simp [h]
    · simp [h]; omega
theorem snd_prsFrom (P : List Pr) (k : Int) : (prsFrom k P).map (·.2) = P := by
  induction P generalizing k with
  | nil => rfl
  | cons p ps ih => simp [prsFrom, ih]
theorem cnt_all (es : Array MapEntry) (seen : Array Nat) (P : List Pr) (hm : es.toList.map (fun x => (x.key, x.val)) = (prs P).map (fun p => (kV p.1, prV p.2))) (h0 : (leftOf es seen).size = 0) : cnt es seen = (aliveP P : Int) := by
  have hall := all_seen es seen h0
  unfold cnt
  rw [seenSum_full seen _ (fun x hx => by obtain ⟨y, hy, rfl⟩ := List.mem_map.1 hx; exact hall y hy), ← sum_alive]
  congr 1
  rw [List.map_map]
  have e1 : (fun e => valOf e.val) ∘ mark = fun (x : MapEntry) => alV x.val := rfl
  rw [e1]
  have h2 : es.toList.map (fun x => alV x.val) = (es.toList.map (fun x => (x.key, x.val))).map (fun y => alV y.2) := by rw [List.map_map]; rfl
  rw [h2, hm, List.map_map]
  have h4 : (fun y : Value × Value => alV y.2) ∘ (fun p : Int × Pr => (kV p.1, prV p.2)) = alP ∘ (fun p : Int × Pr => p.2) := rfl
  rw [h4, ← List.map_map]
  unfold prs
  rw [snd_prsFrom]
theorem cnt_bound (es : Array MapEntry) (seen : Array Nat) : 0 ≤ cnt es seen ∧ cnt es seen ≤ es.toList.length := by
  unfold cnt
  generalize es.toList = l
  induction l with
  | nil => simp [seenSum]
  | cons x l ih =>
    simp only [List.map_cons, seenSum, List.length_cons]
    have h1 : 0 ≤ valOf (mark x).val ∧ valOf (mark x).val ≤ 1 := by
      show 0 ≤ alV x.val ∧ alV x.val ≤ 1
      unfold alV
      repeat' split
      all_goals omega
    split <;> omega
end Go.Proofs.Ytnbjknjnpfmklaa
