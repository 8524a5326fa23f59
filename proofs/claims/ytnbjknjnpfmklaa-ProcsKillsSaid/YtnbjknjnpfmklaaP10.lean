/- Contract: Make. -/
import Derived.Test.YtnbjknjnpfmklaaP9
namespace Go.Proofs.Ytnbjknjnpfmklaa
open Go.RowKit

theorem push_mutM {w w1 w2 : World} {tb : Nat} {p : TA} {n : Nat} {x : Int} {v : Value} (hM : Mut (p.fp tb) w w1) (hg : (w1.drew.alloc (.cells #[.int .i64 x] 3)).grownBy w2 (Value.slice p.rA n p.rC).ownBlock) : Mut (p.fp tb) w (w2.setCell ⟨tb, 5, none⟩ v) :=
  ((hM.then (Mut.of_below ((Below.refl _ w1).drew.alloc (by simp) _))).then (mut1 hg)).then (Mut.setCell _ _ _ _ (.inl rfl))
theorem push_fpM {w w1 : World} {tb : Nat} {p : TA} {n g cap : Nat} {x : Int} (hB : w.heap.size ≤ w1.heap.size) (hl : (Value.slice p.rA n p.rC).ownBlock = some g ∨ g = (w1.drew.alloc (.cells #[.int .i64 x] 3)).heap.size) (k : Nat) (hk : TA.fp tb { p with rA := some ⟨g, 0, none⟩, rC := cap } k) : p.fp tb k ∨ w.heap.size ≤ k := by
  rcases fp1 hl k hk with h | h
  · exact .inl h
  · simp at h
    exact .inr (by omega)
theorem TabAt.look2 {w : World} {tb : Nat} {p : TA} {T : Tb} (h : TabAt w tb p T) (x : Int) : (Instr.lookup 61 (.map (some p.mb)) (.int .i64 x) true).run Try.prog w = .ok (.tuple #[.agg #[.int .i64 (prD T.P x).pid, .int .i64 (prD T.P x).group, .int .i64 (prD T.P x).state, .string (prD T.P x).why, .int .i64 (prD T.P x).ticks], .bool (prAt T.P x).isSome]) w := by
  have := h.map.lookup_ok (P := Try.prog) Try.underlying61 Try.underlying3 kV_key kV_inj (zero45 w) x
  rw [get_prs] at this
  rw [show (Value.int IntKind.i64 x) = kV x from rfl, this]
  unfold prD
  cases prAt T.P x <;> rfl

/-- The parent does not exist. -/
theorem make_none (T : Tb) (tb : Nat) (p : TA) (parent : Int) (w : World) (h : TabAt w tb p T) (h0 : parent ≠ 0) (h1 : prAt T.P parent = none) (b1 : 0 ≤ T.last) (b2 : T.last ≤ 100000) :
    Calls Try.prog 27 #[.pointer (some ⟨tb, 0, none⟩), .int .i64 parent] w fun e w' => e = .returned (.tuple #[.int .i64 (makeI T parent), .int .i64 (makeE T parent)]) ∧ Nx w tb p (makeT T parent) w' := by
  have e1 : makeE T parent = 4 := if_pos ⟨h0, h1⟩
  have e2 : makeI T parent = 0 := by unfold makeI; rw [e1]; rfl
  have e3 : makeT T parent = T := by unfold makeT; rw [e1]; rfl
  rw [e1, e2, e3]
  have HT := Lib.hid h
  have hl := h.look2 parent
  rw [h1] at hl
  simp only [Option.isSome_none] at hl
  have h2 : (parent != 0) = true := by simpa using h0
  obtain ⟨c0, c1, c2, c3, c4, c5, c6, c7, c8, hf⟩ := h.cells
  generalize prD T.P parent = q at *
  obtain ⟨q0, q1, q2, q3, q4⟩ := q
  simp only at hl
  clear h e1 e2 e3 h1
  go_enter Try.func27, Try.ntmps27
  go_wp2
  all_goals go_ret2
  all_goals exact ⟨rfl, Nx.same (HT.out.below ((Below.refl _ _).alloc (Nat.le_refl _) _)) ((Mut.refl _ _).alloc _)⟩

set_option maxRecDepth 100000 in
set_option maxHeartbeats 8000000 in
theorem make_zero (T : Tb) (tb : Nat) (p : TA) (w : World) (h : TabAt w tb p T) (hlast : T.last = (T.P.length : Int)) (hn : T.P.length ≤ 100000) (hr : T.ready.length ≤ 100000) :
    Calls Try.prog 27 #[.pointer (some ⟨tb, 0, none⟩), .int .i64 0] w fun e w' => e = .returned (.tuple #[.int .i64 (makeI T 0), .int .i64 (makeE T 0)]) ∧ Nx w tb p (makeT T 0) w' := by
  have HE : Hid (makeE T 0 = if 64 ≤ aliveP T.P then 24 else 0) := Lib.hid (if_neg (fun h => h.1 rfl))
  have HG : Hid (groupI T 0 = (T.P.length : Int) + 1) := Lib.hid (by unfold groupI; split <;> simp)
  have HTx := Lib.hid h
  have HBx := Lib.hid (Below.refl w.heap.size w)
  obtain ⟨c0, c1, c2, c3, c4, c5, c6, c7, c8, hf⟩ := h.cells
  rw [hlast] at c8
  have hlt0 := h.lt
  have HLT := Lib.hid HTx.out.lt
  obtain ⟨es, clk, hb, hst, hm⟩ := HTx.out.map
  have HB0 := Lib.hid hb
  have HST := Lib.hid hst
  have HM := Lib.hid hm
  have HMB := Lib.hid HTx.out.map.lt
  have HLAST := Lib.hid hlast
  have hrg := run_range_map (P := Try.prog) w 61 3 45 p.mb es clk Try.underlying61 hb
  have hB1 : Below w.heap.size w (w.alloc (.mapIter (some p.mb) clk #[] clk)) := (Below.refl _ _).alloc (Nat.le_refl _) _
  have hI1 := heap_alloc_new w (.mapIter (some p.mb) clk #[] clk)
  have HB1 := Lib.hid hB1
  have HI1 := Lib.hid hI1
  have hesl : es.toList.length = T.P.length := by have := congrArg List.length hm; simpa [prs, len_prsFrom] using this
  clear h hb hst hm hB1 hI1 hlast
  go_enter Try.func27, Try.ntmps27
  go_wp2
  go_loopw [9] (fun n wr => ∃ seen, Hid (wr.heap[w.heap.size]? = some (.mapIter (some p.mb) clk seen clk)) ∧ n = .int .i64 (cnt es seen) ∧ Hid (Below w.heap.size w wr)) (fun _ wr => (leftOf es (wr.iterSeen (w.heap.size))).size)
  case atStart => exact ⟨#[], HI1, by rw [cnt_none], HB1⟩
  case round =>
    obtain ⟨seen, hri, rfl, hB⟩ := hrel
    have hbr : wr.heap[p.mb]? = some (.map es clk) := (hB.out.block p.mb HMB.out).trans HB0.out
    have hsd : wr.iterSeen (w.heap.size) = seen := by unfold World.iterSeen; rw [hri.out]
    have HTr := Lib.hid (HTx.out.below hB.out)
    rcases next_step wr (w.heap.size) p.mb clk seen es hri.out hbr HST.out (by have := HMB.out; omega) with ⟨h0, hnx⟩ | ⟨e, he, hs, hlt, w1, hnx, hen, hr1, hBn⟩
    · rw [cnt_all es seen T.P HM.out h0]
      clear hsd hbr h0 hri c0 c1 c2 c3 c4 c5 c6 c7 c8 hf hrg hesl
      obtain ⟨c0, c1, c2, c3, c4, c5, c6, c7, c8, hf⟩ := HTr.out.cells
      rw [HLAST.out] at c8
      by_cases h64 : 64 ≤ aliveP T.P
      · have e1 : makeE T 0 = 24 := HE.out.trans (if_pos h64)
        have e2 : makeI T 0 = 0 := by unfold makeI; rw [e1]; rfl
        have e3 : makeT T 0 = T := by unfold makeT; rw [e1]; rfl
        have E1 := Lib.hid e1
        have E2 := Lib.hid e2
        have E3 := Lib.hid e3
        have h65 : (64 : Int) ≤ (aliveP T.P : Int) := by omega
        clear e1 e2 e3
        go_wp2
        go_ret2
        rw [E1.out, E2.out, E3.out]
        exact ⟨rfl, Nx.same HTr.out (Mut.of_below (HBx.out.step2 hB.out))⟩
      · have e1 : makeE T 0 = 0 := HE.out.trans (if_neg h64)
        have e2 : makeI T 0 = (T.P.length : Int) + 1 := by unfold makeI; rw [if_pos e1]
        have e3 : makeT T 0 = { T with P := T.P ++ [⟨(T.P.length : Int) + 1, ((T.P.length : Int) + 1), 0, ⟨#[]⟩, 0⟩], ready := T.ready ++ [(T.P.length : Int) + 1], last := (T.P.length : Int) + 1 } := by unfold makeT; rw [if_pos e1, HG.out]
        have E1 := Lib.hid e1
        have E2 := Lib.hid e2
        have E3 := Lib.hid e3
        have h65 : ¬ (64 : Int) ≤ (aliveP T.P : Int) := by omega
        clear e1 e2 e3
        have HT2 := Lib.hid ((HTr.out.upd 8 (.int .i64 ((T.P.length : Int) + 1)) { T with last := (T.P.length : Int) + 1 } (by unfold tabC; simp) rfl rfl rfl).below (Below.refl _ _).drew)
        obtain ⟨w3, hrun, hm3, hg3⟩ := upd_run HT2.out.map ((T.P.length : Int) + 1) ⟨(T.P.length : Int) + 1, ((T.P.length : Int) + 1), 0, ⟨#[]⟩, 0⟩
        rw [put_prs_new] at hm3
        simp only [prV] at hrun
        have HT3 := Lib.hid (HT2.out.store _ hm3 (mut_map hg3))
        have HG3 := Lib.hid hg3
        obtain ⟨d0, d1, d2, d3, d4, d5, d6, d7, d8, df⟩ := HT3.out.cells
        simp only at d0 d1 d2 d3 d4 d5 d6 d7 d8
        have hlt3 := HT3.out.lt
        clear hm3 hg3
        go_wp2
        go_region
        all_goals go_wp2
        all_goals have HT4 : Hid (TabAt (w3.drew.alloc (.cells #[.int .i64 ((T.P.length : Int) + 1)] 3)) tb p _) := Lib.hid (HT3.out.below ((Below.refl _ w3).drew.alloc (by simp) _))
        all_goals go_region_law (refine step_app rfl _ _ rfl p.rA p.rC T.ready ((T.P.length : Int) + 1) rfl HT4.out.rdy _ rfl (by simp) hr ?_; intro g cap w4 ho hg hloc; have HO := Lib.hid ho.out; have HG4 := Lib.hid hg.out; have HL := Lib.hid hloc.out; clear ho hg hloc; obtain ⟨d0, d1, d2, d3, d4, d5, d6, d7, d8, df⟩ := HT4.out.grown HG4.out; simp only at d0 d1 d2 d3 d4 d5 d6 d7 d8)
        all_goals go_wp2
        all_goals go_ret2
        all_goals rw [E1.out, E2.out, E3.out]
        all_goals exact ⟨rfl, _, HT4.out.push1 g cap HO.out HG4.out HL.out, push_mutM (((Mut.of_below (HBx.out.step2 hB.out)).then (Mut.setCell wr tb 8 (.int .i64 ((T.P.length : Int) + 1)) (.inl rfl))).then ((Mut.of_below (Below.refl _ _).drew).then ((mut_map HG3.out).mono fun k hk => .inl (.inr (.inl hk))))) HG4.out, push_fpM (Nat.le_trans (HBx.out.step2 hB.out).size (by have := HG3.out.size; simpa using this)) HL.out, rfl⟩
    · obtain ⟨q', hq'⟩ : ∃ q' : Pr, e.val = prV q' := by
        have h1 : (e.key, e.val) ∈ es.toList.map (fun x => (x.key, x.val)) := List.mem_map.2 ⟨e, he, rfl⟩
        rw [HM.out] at h1
        obtain ⟨y, _, h2⟩ := List.mem_map.1 h1
        exact ⟨y.2, (Prod.mk.inj h2).2.symm⟩
      have hcp := cnt_push es seen e clk HST.out he hs
      rw [hq', alV_prV] at hcp
      have HCP := Lib.hid hcp
      have hcb := cnt_bound es seen
      rw [hesl] at hcb
      rw [hq'] at hnx hen
      obtain ⟨a0, a1, a2, a3, a4⟩ := q'
      simp only [prV] at hnx hen
      have HB2 := Lib.hid (hB.out.trans (hBn w.heap.size (by simp)))
      have hsz2 : w.heap.size < w1.heap.size := (Array.getElem?_eq_some_iff.1 hr1).1
      have HR2 : Hid (∀ o, (w1.alloc o).heap[w.heap.size]? = some (.mapIter (some p.mb) clk (seen.push e.born) clk)) := Lib.hid (fun o => (heap_alloc_old w1 o hsz2).trans hr1)
      have hms : ∀ o, (w1.alloc o).iterSeen (w.heap.size) = seen.push e.born := fun o => by unfold World.iterSeen; rw [HR2.out]
      generalize e.key = ky at *
      generalize e.born = bn at *
      clear hri hbr he hq' hcp c0 c1 c2 c3 c4 c5 c6 c7 c8 hf hrg hr1 hBn
      generalize hcn : cnt es seen = n0 at *
      have HCN := Lib.hid hcn
      clear hcn
      by_cases h6 : a2 = 6
      · subst h6
        go_wp2
        go_roundw
        case rel => exact ⟨seen.push bn, HR2.out _, by rw [HCP.out]; simp [alP], Lib.hid (HB2.out.alloc (Nat.le_trans (by simp) HB2.out.size) _)⟩
        case measure => rw [hms, hsd]; exact hlt
      · have h7 : (a2 != 6) = true := by simpa using h6
        go_wp2
        go_roundw
        case rel => exact ⟨seen.push bn, HR2.out _, by rw [HCP.out]; simp [alP, h6], Lib.hid (HB2.out.alloc (Nat.le_trans (by simp) HB2.out.size) _)⟩
        case measure => rw [hms, hsd]; exact hlt

set_option maxRecDepth 100000 in
set_option maxHeartbeats 8000000 in
theorem make_sub (T : Tb) (tb : Nat) (p : TA) (parent : Int) (w : World) (h : TabAt w tb p T) (hne : parent ≠ 0) (q : Pr) (hq : prAt T.P parent = some q) (hlast : T.last = (T.P.length : Int)) (hn : T.P.length ≤ 100000) (hr : T.ready.length ≤ 100000) :
    Calls Try.prog 27 #[.pointer (some ⟨tb, 0, none⟩), .int .i64 parent] w fun e w' => e = .returned (.tuple #[.int .i64 (makeI T parent), .int .i64 (makeE T parent)]) ∧ Nx w tb p (makeT T parent) w' := by
  have HE : Hid (makeE T parent = if 64 ≤ aliveP T.P then 24 else 0) := Lib.hid (if_neg (fun h => by rw [hq] at h; cases h.2))
  have HG : Hid (groupI T parent = q.group) := Lib.hid (by unfold groupI; rw [hq]; simp [hne])
  have hl := h.look2 parent
  have hqd : prD T.P parent = q := by unfold prD; rw [hq]; rfl
  rw [hqd, hq] at hl
  simp only [Option.isSome_some] at hl
  have hne2 : (parent != 0) = true := by simpa using hne
  obtain ⟨q0, q1, q2, q3, q4⟩ := q
  simp only at hl HG
  have HBx := Lib.hid ((Below.refl w.heap.size w).alloc (Nat.le_refl _) (.cells #[.int .i64 q0, .int .i64 q1, .int .i64 q2, .string q3, .int .i64 q4] 45))
  have HTx := Lib.hid (h.below HBx.out)
  clear hq hqd hne
  obtain ⟨c0, c1, c2, c3, c4, c5, c6, c7, c8, hf⟩ := h.cells
  rw [hlast] at c8
  have hlt0 := h.lt
  have HLT := Lib.hid HTx.out.lt
  obtain ⟨es, clk, hb, hst, hm⟩ := HTx.out.map
  have HB0 := Lib.hid hb
  have HST := Lib.hid hst
  have HM := Lib.hid hm
  have HMB := Lib.hid HTx.out.map.lt
  have HLAST := Lib.hid hlast
  have hrg := run_range_map (P := Try.prog) (w.alloc (.cells #[.int .i64 q0, .int .i64 q1, .int .i64 q2, .string q3, .int .i64 q4] 45)) 61 3 45 p.mb es clk Try.underlying61 hb
  have hB1 : Below (w.alloc (.cells #[.int .i64 q0, .int .i64 q1, .int .i64 q2, .string q3, .int .i64 q4] 45)).heap.size (w.alloc (.cells #[.int .i64 q0, .int .i64 q1, .int .i64 q2, .string q3, .int .i64 q4] 45)) ((w.alloc (.cells #[.int .i64 q0, .int .i64 q1, .int .i64 q2, .string q3, .int .i64 q4] 45)).alloc (.mapIter (some p.mb) clk #[] clk)) := (Below.refl _ _).alloc (Nat.le_refl _) _
  have hI1 := heap_alloc_new (w.alloc (.cells #[.int .i64 q0, .int .i64 q1, .int .i64 q2, .string q3, .int .i64 q4] 45)) (.mapIter (some p.mb) clk #[] clk)
  have HB1 := Lib.hid hB1
  have HI1 := Lib.hid hI1
  have hrsz : (w.alloc (.cells #[.int .i64 q0, .int .i64 q1, .int .i64 q2, .string q3, .int .i64 q4] 45)).heap.size = w.heap.size + 1 := by simp
  rw [hrsz] at hrg HI1
  have hesl : es.toList.length = T.P.length := by have := congrArg List.length hm; simpa [prs, len_prsFrom] using this
  clear h hb hst hm hB1 hI1 hlast
  go_enter Try.func27, Try.ntmps27
  go_wp2
  go_loopw [9] (fun n wr => ∃ seen, Hid (wr.heap[w.heap.size + 1]? = some (.mapIter (some p.mb) clk seen clk)) ∧ n = .int .i64 (cnt es seen) ∧ Hid (Below (w.alloc (.cells #[.int .i64 q0, .int .i64 q1, .int .i64 q2, .string q3, .int .i64 q4] 45)).heap.size (w.alloc (.cells #[.int .i64 q0, .int .i64 q1, .int .i64 q2, .string q3, .int .i64 q4] 45)) wr)) (fun _ wr => (leftOf es (wr.iterSeen (w.heap.size + 1))).size)
  case atStart => exact ⟨#[], HI1, by rw [cnt_none], HB1⟩
  case round =>
    obtain ⟨seen, hri, rfl, hB⟩ := hrel
    have hbr : wr.heap[p.mb]? = some (.map es clk) := (hB.out.block p.mb HMB.out).trans HB0.out
    have hsd : wr.iterSeen (w.heap.size + 1) = seen := by unfold World.iterSeen; rw [hri.out]
    have HTr := Lib.hid (HTx.out.below hB.out)
    rcases next_step wr (w.heap.size + 1) p.mb clk seen es hri.out hbr HST.out (by have := HMB.out; rw [← hrsz]; omega) with ⟨h0, hnx⟩ | ⟨e, he, hs, hlt, w1, hnx, hen, hr1, hBn⟩
    · rw [cnt_all es seen T.P HM.out h0]
      clear hsd hbr h0 hri c0 c1 c2 c3 c4 c5 c6 c7 c8 hf hrg hrsz hesl
      obtain ⟨c0, c1, c2, c3, c4, c5, c6, c7, c8, hf⟩ := HTr.out.cells
      rw [HLAST.out] at c8
      by_cases h64 : 64 ≤ aliveP T.P
      · have e1 : makeE T parent = 24 := HE.out.trans (if_pos h64)
        have e2 : makeI T parent = 0 := by unfold makeI; rw [e1]; rfl
        have e3 : makeT T parent = T := by unfold makeT; rw [e1]; rfl
        have E1 := Lib.hid e1
        have E2 := Lib.hid e2
        have E3 := Lib.hid e3
        have h65 : (64 : Int) ≤ (aliveP T.P : Int) := by omega
        clear e1 e2 e3
        go_wp2
        go_ret2
        rw [E1.out, E2.out, E3.out]
        exact ⟨rfl, Nx.same HTr.out (Mut.of_below (HBx.out.step2 hB.out))⟩
      · have e1 : makeE T parent = 0 := HE.out.trans (if_neg h64)
        have e2 : makeI T parent = (T.P.length : Int) + 1 := by unfold makeI; rw [if_pos e1]
        have e3 : makeT T parent = { T with P := T.P ++ [⟨(T.P.length : Int) + 1, q1, 0, ⟨#[]⟩, 0⟩], ready := T.ready ++ [(T.P.length : Int) + 1], last := (T.P.length : Int) + 1 } := by unfold makeT; rw [if_pos e1, HG.out]
        have E1 := Lib.hid e1
        have E2 := Lib.hid e2
        have E3 := Lib.hid e3
        have h65 : ¬ (64 : Int) ≤ (aliveP T.P : Int) := by omega
        clear e1 e2 e3
        have HT2 := Lib.hid ((HTr.out.upd 8 (.int .i64 ((T.P.length : Int) + 1)) { T with last := (T.P.length : Int) + 1 } (by unfold tabC; simp) rfl rfl rfl).below (Below.refl _ _).drew)
        obtain ⟨w3, hrun, hm3, hg3⟩ := upd_run HT2.out.map ((T.P.length : Int) + 1) ⟨(T.P.length : Int) + 1, q1, 0, ⟨#[]⟩, 0⟩
        rw [put_prs_new] at hm3
        simp only [prV] at hrun
        have HT3 := Lib.hid (HT2.out.store _ hm3 (mut_map hg3))
        have HG3 := Lib.hid hg3
        obtain ⟨d0, d1, d2, d3, d4, d5, d6, d7, d8, df⟩ := HT3.out.cells
        simp only at d0 d1 d2 d3 d4 d5 d6 d7 d8
        have hlt3 := HT3.out.lt
        clear hm3 hg3
        go_wp2
        go_region
        all_goals go_wp2
        all_goals have HT4 : Hid (TabAt (w3.drew.alloc (.cells #[.int .i64 ((T.P.length : Int) + 1)] 3)) tb p _) := Lib.hid (HT3.out.below ((Below.refl _ w3).drew.alloc (by simp) _))
        all_goals go_region_law (refine step_app rfl _ _ rfl p.rA p.rC T.ready ((T.P.length : Int) + 1) rfl HT4.out.rdy _ rfl (by simp) hr ?_; intro g cap w4 ho hg hloc; have HO := Lib.hid ho.out; have HG4 := Lib.hid hg.out; have HL := Lib.hid hloc.out; clear ho hg hloc; obtain ⟨d0, d1, d2, d3, d4, d5, d6, d7, d8, df⟩ := HT4.out.grown HG4.out; simp only at d0 d1 d2 d3 d4 d5 d6 d7 d8)
        all_goals go_wp2
        all_goals go_ret2
        all_goals rw [E1.out, E2.out, E3.out]
        all_goals exact ⟨rfl, _, HT4.out.push1 g cap HO.out HG4.out HL.out, push_mutM (((Mut.of_below (HBx.out.step2 hB.out)).then (Mut.setCell wr tb 8 (.int .i64 ((T.P.length : Int) + 1)) (.inl rfl))).then ((Mut.of_below (Below.refl _ _).drew).then ((mut_map HG3.out).mono fun k hk => .inl (.inr (.inl hk))))) HG4.out, push_fpM (Nat.le_trans (HBx.out.step2 hB.out).size (by have := HG3.out.size; simpa using this)) HL.out, rfl⟩
    · obtain ⟨q', hq'⟩ : ∃ q' : Pr, e.val = prV q' := by
        have h1 : (e.key, e.val) ∈ es.toList.map (fun x => (x.key, x.val)) := List.mem_map.2 ⟨e, he, rfl⟩
        rw [HM.out] at h1
        obtain ⟨y, _, h2⟩ := List.mem_map.1 h1
        exact ⟨y.2, (Prod.mk.inj h2).2.symm⟩
      have hcp := cnt_push es seen e clk HST.out he hs
      rw [hq', alV_prV] at hcp
      have HCP := Lib.hid hcp
      have hcb := cnt_bound es seen
      rw [hesl] at hcb
      rw [hq'] at hnx hen
      obtain ⟨a0, a1, a2, a3, a4⟩ := q'
      simp only [prV] at hnx hen
      have HB2 := Lib.hid (hB.out.trans (hBn (w.alloc (.cells #[.int .i64 q0, .int .i64 q1, .int .i64 q2, .string q3, .int .i64 q4] 45)).heap.size (by simp)))
      have hsz2 : w.heap.size + 1 < w1.heap.size := (Array.getElem?_eq_some_iff.1 hr1).1
      have HR2 : Hid (∀ o, (w1.alloc o).heap[w.heap.size + 1]? = some (.mapIter (some p.mb) clk (seen.push e.born) clk)) := Lib.hid (fun o => (heap_alloc_old w1 o hsz2).trans hr1)
      have hms : ∀ o, (w1.alloc o).iterSeen (w.heap.size + 1) = seen.push e.born := fun o => by unfold World.iterSeen; rw [HR2.out]
      generalize e.key = ky at *
      generalize e.born = bn at *
      clear hri hbr he hq' hcp c0 c1 c2 c3 c4 c5 c6 c7 c8 hf hrg hrsz hr1 hBn
      generalize hcn : cnt es seen = n0 at *
      have HCN := Lib.hid hcn
      clear hcn
      by_cases h6 : a2 = 6
      · subst h6
        go_wp2
        go_roundw
        case rel => exact ⟨seen.push bn, HR2.out _, by rw [HCP.out]; simp [alP], Lib.hid (HB2.out.alloc (Nat.le_trans (by simp) HB2.out.size) _)⟩
        case measure => rw [hms, hsd]; exact hlt
      · have h7 : (a2 != 6) = true := by simpa using h6
        go_wp2
        go_roundw
        case rel => exact ⟨seen.push bn, HR2.out _, by rw [HCP.out]; simp [alP, h6], Lib.hid (HB2.out.alloc (Nat.le_trans (by simp) HB2.out.size) _)⟩
        case measure => rw [hms, hsd]; exact hlt

theorem make_calls (T : Tb) (tb : Nat) (p : TA) (parent : Int) (w : World) (h : TabAt w tb p T) (hlast : T.last = (T.P.length : Int)) (hn : T.P.length ≤ 100000) (hr : T.ready.length ≤ 100000) :
    Calls Try.prog 27 #[.pointer (some ⟨tb, 0, none⟩), .int .i64 parent] w fun e w' => e = .returned (.tuple #[.int .i64 (makeI T parent), .int .i64 (makeE T parent)]) ∧ Nx w tb p (makeT T parent) w' := by
  by_cases h0 : parent = 0
  · subst h0; exact make_zero T tb p w h hlast hn hr
  · cases hq : prAt T.P parent with
    | none => exact make_none T tb p parent w h h0 hq (by omega) (by omega)
    | some q => exact make_sub T tb p parent w h h0 q hq hlast hn hr
end Go.Proofs.Ytnbjknjnpfmklaa
