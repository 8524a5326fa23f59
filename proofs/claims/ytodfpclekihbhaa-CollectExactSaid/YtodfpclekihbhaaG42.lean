/- law18: reached. -/
import Derived.Test.YtodfpclekihbhaaG41
import Derived.Test.YtodfpclekihbhaaG33
namespace Go.Proofs.Ytodfpclekihbhaa
open Go.RowKit Go.Shelf

/-- A list of the call's own is sorted. -/
theorem sort_row {w : World} {B : Nat} {A : Option Addr} {C : Nat} {xs : List Int} (h : w.ownsRow B 26 1 (.slice A xs.length C) xs.length (ints xs)) (hn : xs.length ≤ 100000000) :
    Calls Try.prog 88 #[.slice A xs.length C] w fun e w' => e = .returned (.tuple #[]) ∧ w'.ownsRow B 26 1 (.slice A xs.length C) xs.length (ints (xs.mergeSort fun x y => decide (x ≤ y))) ∧ Mut (fun k => ∃ a, A = some a ∧ a.block = k) w w' := by
  rcases h.2 with ⟨h1, h2⟩ | ⟨g, cap, cur, h1, h2, h3, h4, h5, h6, h7⟩
  · obtain rfl : xs = [] := List.eq_nil_of_length_eq_zero h2
    refine (AnyM.slices_Sort_int_none Try.sortA A C w).mono ?_
    rintro e w' ⟨rfl, rfl⟩
    exact ⟨rfl, by simpa using h, Mut.refl _ _⟩
  · injection h1 with e1 e2 e3
    subst e1 e3
    refine (AnyM.slices_Sort_int Try.sortA g 0 C xs w (holds_of_block_i h3 (by simpa [ints] using h7)) (lt_of_heap h3) (by omega)).mono ?_
    rintro e w' ⟨rfl, n, os, rfl⟩
    exact ⟨rfl, ownsRow_sorted_i (by simp) h2 h3 h4 h5 h6, Mut.of_grown (grownBy_sorted_i _) fun k hk => by injection hk with hk; exact .inl ⟨_, rfl, hk⟩⟩
theorem QAt.of_row {w : World} {B : Nat} {A : Option Addr} {C : Nat} {q : List Int} (h : w.ownsRow B 26 1 (.slice A q.length C) q.length (ints q)) : QAt w B A C q := by
  rcases h.2 with ⟨h1, h2⟩ | ⟨g, cap, cur, h1, h2, h3, h4, h5, h6, h7⟩
  · obtain rfl : q = [] := List.eq_nil_of_length_eq_zero h2
    injection h1 with e1 _ e3
    subst e1 e3
    exact QAt.empty w B
  · injection h1 with e1 e2 e3
    subst e1 e3
    refine ⟨h4, (fun e => by cases e), fun a ha _ => ⟨g, 0, by injection ha with ha; exact ha.symm, h2, lt_of_heap h3, fun j hj => ?_, fun j hj => ⟨?_, frozen_of_heap h3 _⟩⟩⟩
    · have h8 := h.cellAt j (by simpa using hj)
      rw [Nat.zero_add, h8]
      unfold ints
      rw [List.getElem?_map, List.getElem?_eq_getElem hj]
      rfl
    · rw [cell_of_heap (v := (cur[0 + q.length + j]'(by omega))) h3 (Array.getElem?_eq_getElem _)]
      rfl
/-- What is known while the objects that can be reached are sought. -/
structure Bfs (H : Hp) (out q : List Int) (P : Int → Prop) : Prop where
  nd : out.Nodup
  snd : ∀ x ∈ out, Reach H x
  held : ∀ r, 0 < holdsH H r → r ∈ out
  cl : ∀ x ∈ out, x ∈ q ∨ P x ∨ ∀ y ∈ refsH H x, y ∈ out
  sub : ∀ x ∈ q, x ∈ out
  len : q.length ≤ out.length
theorem Bfs.le {H : Hp} {N : Nat} (ok : Ok H N) {out q : List Int} {P : Int → Prop} (h : Bfs H out q P) : out.length ≤ H.objs.length := by
  have h2 := nodup_length_le (m := H.objs.map (·.1)) h.nd fun x hx => by
    cases hg : Mp.get H.objs x with
    | none => exact absurd hg ((h.snd x hx).ex ok)
    | some o => exact List.mem_map.2 ⟨(x, o), Mp.mem_of_get hg, rfl⟩
  simpa using h2
theorem Bfs.pop {H : Hp} {out q : List Int} {r : Int} (h : Bfs H out (r :: q) fun _ => False) : Bfs H out q (· = r) where
  nd := h.nd
  snd := h.snd
  held := h.held
  cl := fun x hx => by
    rcases h.cl x hx with h1 | h1 | h1
    · rcases List.mem_cons.1 h1 with h1 | h1
      · exact .inr (.inl h1)
      · exact .inl h1
    · exact h1.elim
    · exact .inr (.inr h1)
  sub := fun x hx => h.sub x (List.mem_cons_of_mem _ hx)
  len := by have := h.len; simp only [List.length_cons] at this; omega
theorem Bfs.add {H : Hp} {out q : List Int} {r x : Int} (h : Bfs H out q (· = r)) (hr : Reach H r) (hx : x ∈ refsH H r) (hn : x ∉ out) : Bfs H (out ++ [x]) (q ++ [x]) (· = r) where
  nd := by
    rw [List.nodup_append]
    exact ⟨h.nd, by simp, fun a ha b hb e => by rw [List.mem_singleton] at hb; subst hb; subst e; exact hn ha⟩
  snd := fun y hy => (List.mem_append.1 hy).elim (h.snd y) fun h1 => by rw [List.mem_singleton.1 h1]; exact hr.step hx
  held := fun y hy => List.mem_append_left _ (h.held y hy)
  cl := fun y hy => by
    rcases List.mem_append.1 hy with hy | hy
    · rcases h.cl y hy with h1 | h1 | h1
      · exact .inl (List.mem_append_left _ h1)
      · exact .inr (.inl h1)
      · exact .inr (.inr fun z hz => List.mem_append_left _ (h1 z hz))
    · exact .inl (List.mem_append_right _ hy)
  sub := fun y hy => (List.mem_append.1 hy).elim (fun h1 => List.mem_append_left _ (h.sub y h1)) fun h1 => List.mem_append_right _ h1
  len := by have := h.len; simp only [List.length_append]; omega
theorem Bfs.done {H : Hp} {out q : List Int} {r : Int} (h : Bfs H out q (· = r)) (hr : ∀ y ∈ refsH H r, y ∈ out) : Bfs H out q fun _ => False :=
  ⟨h.nd, h.snd, h.held, fun x hx => by
    rcases h.cl x hx with h1 | h1 | h1
    · exact .inl h1
    · subst h1; exact .inr (.inr hr)
    · exact .inr (.inr h1), h.sub, h.len⟩
theorem Bfs.all {H : Hp} {out : List Int} (h : Bfs H out [] fun _ => False) (x : Int) : x ∈ out ↔ Reach H x := by
  refine ⟨h.snd x, fun hx => ?_⟩
  induction hx with
  | held h0 => exact h.held _ h0
  | step _ hm ih =>
    rcases h.cl _ ih with h1 | h1 | h1
    · cases h1
    · exact h1.elim
    · exact h1 _ hm
theorem Bfs.start {H : Hp} {N : Nat} (ok : Ok H N) : Bfs H ((allH H).filter fun r => decide (0 < holdsH H r)) ((allH H).filter fun r => decide (0 < holdsH H r)) fun _ => False where
  nd := (all_nodup ok.inv).filter _
  snd := fun x hx => Reach.held (of_decide_eq_true (List.mem_filter.1 hx).2)
  held := fun r hr => List.mem_filter.2 ⟨(mem_all H r).2 (holds_some hr), decide_eq_true hr⟩
  cl := fun x hx => .inl hx
  sub := fun x hx => hx
  len := Nat.le_refl _
theorem Bfs.sorted {H : Hp} {N : Nat} (ok : Ok H N) {out : List Int} (h : Bfs H out [] fun _ => False) : out.mergeSort (fun x y => decide (x ≤ y)) = reachL H := by
  have hp := List.mergeSort_perm out fun x y => decide (x ≤ y)
  have hs := List.pairwise_mergeSort (le := fun x y : Int => decide (x ≤ y)) (fun a b c h1 h2 => by simp at h1 h2 ⊢; omega) (fun a b => by simp; omega) out
  refine sorted_unique (hs.imp fun h => by simpa using h) (reachL_sorted H) (hp.nodup_iff.2 h.nd) (reachL_nodup ok) fun x => ?_
  rw [hp.mem_iff, h.all, mem_reachL ok]
/-- A queue, a list and a set of the call's own. -/
structure Bw (w wr : World) (B mb : Nat) (A : Option Addr) (C : Nat) (q : List Int) (OA : Option Addr) (OC : Nat) (out : List Int) (M : List (Int × Bool)) : Prop where
  q : QAt wr B A C q
  own : wr.ownsRow B 26 1 (.slice OA out.length OC) out.length (ints out)
  map : Mp.MapIs wr mb kV Value.bool M
  nq : ∀ a, A = some a → 0 < C → a.block ≠ mb
  no : ∀ a, OA = some a → a.block ≠ mb
  ap : ∀ a, A = some a → 0 < C → ∀ a1, OA = some a1 → a.block ≠ a1.block
  bel : Below w.heap.size w wr
  lB : w.heap.size ≤ B
  Bl : B ≤ wr.heap.size
  lm : w.heap.size ≤ mb
variable {w wr w' : World} {B mb : Nat} {A OA : Option Addr} {C OC : Nat} {q out : List Int} {M : List (Int × Bool)}
theorem Bw.below (h : Bw w wr B mb A C q OA OC out M) (hb : Below wr.heap.size wr w') : Bw w w' B mb A C q OA OC out M :=
  { h with q := h.q.below hb, own := own_mut2 h.own (Mut.of_below hb) (S := fun _ => False) fun _ _ h => h, map := h.map.of_block (hb.block _ h.map.lt), bel := h.bel.trans (hb.mono h.bel.size), Bl := Nat.le_trans h.Bl hb.size }
theorem Bw.upd (h : Bw w wr B mb A C q OA OC out M) {M' : List (Int × Bool)} (hm : Mp.MapIs w' mb kV Value.bool M') (hu : Mut (· = mb) wr w') : Bw w w' B mb A C q OA OC out M' :=
  { h with q := h.q.mut hu h.nq, own := own_mut2 h.own hu h.no, map := hm, bel := h.bel.trans (hu.to_below h.bel.size fun k hk => by rw [hk]; exact h.lm), Bl := Nat.le_trans h.Bl hu.size }
theorem Bw.blkq (h : Bw w wr B mb A C q OA OC out M) {k : Nat} (hk : ∃ a, A = some a ∧ 0 < C ∧ a.block = k) : B ≤ k ∧ k < wr.heap.size := by
  obtain ⟨a, ha, hC, rfl⟩ := hk
  obtain ⟨g, o, rfl, h1, h2, _⟩ := h.q.at_ a ha hC
  exact ⟨h1, h2⟩
theorem Bw.appq (h : Bw w wr B mb A C q OA OC out M) {A1 : Option Addr} {C1 : Nat} {q1 : List Int} (hq : QAt w' B A1 C1 q1) (hu : Mut (fun k => ∃ a, A = some a ∧ 0 < C ∧ a.block = k) wr w') (ha : ∀ a1, A1 = some a1 → (∃ a, A = some a ∧ 0 < C ∧ a.block = a1.block) ∨ wr.heap.size ≤ a1.block) : Bw w w' B mb A1 C1 q1 OA OC out M :=
  { h with
    q := hq
    own := own_mut2 h.own hu fun a1 h1 ⟨a, k1, k2, k3⟩ => h.ap a k1 k2 a1 h1 k3
    map := h.map.of_block (hu.block _ h.map.lt fun ⟨a, k1, k2, k3⟩ => h.nq a k1 k2 k3)
    nq := fun a1 h1 _ e => by
      rcases ha a1 h1 with ⟨a, k1, k2, k3⟩ | k1
      · exact h.nq a k1 k2 (k3.trans e)
      · have := h.map.lt; omega
    ap := fun a1 h1 _ a2 h2 e => by
      rcases ha a1 h1 with ⟨a, k1, k2, k3⟩ | k1
      · exact h.ap a k1 k2 a2 h2 (k3.trans e)
      · have := (own_blk h.own a2 h2).2; omega
    bel := h.bel.trans (hu.to_below h.bel.size fun k hk => by have := (h.blkq hk).1; have := h.lB; omega)
    Bl := Nat.le_trans h.Bl hu.size }
theorem Bw.appo (h : Bw w wr B mb A C q OA OC out M) {A1 : Option Addr} {C1 : Nat} {ys : List Int} (ho : w'.ownsRow B 26 1 (.slice A1 ys.length C1) ys.length (ints ys)) (hu : Mut (fun k => ∃ a, OA = some a ∧ a.block = k) wr w') (ha : ∀ a1, A1 = some a1 → (∃ a, OA = some a ∧ a.block = a1.block) ∨ wr.heap.size ≤ a1.block) : Bw w w' B mb A C q A1 C1 ys M :=
  { h with
    q := h.q.mut hu fun a h1 h2 ⟨a1, k1, k2⟩ => h.ap a h1 h2 a1 k1 k2.symm
    own := ho
    map := h.map.of_block (hu.block _ h.map.lt fun ⟨a, k1, k2⟩ => h.no a k1 k2)
    no := fun a1 h1 e => by
      rcases ha a1 h1 with ⟨a, k1, k2⟩ | k1
      · exact h.no a k1 (k2.trans e)
      · have := h.map.lt; omega
    ap := fun a2 h2 h3 a1 h1 e => by
      rcases ha a1 h1 with ⟨a, k1, k2⟩ | k1
      · exact h.ap a2 h2 h3 a k1 (e.trans k2.symm)
      · have := (h.blkq ⟨a2, h2, h3, rfl⟩).2; omega
    bel := h.bel.trans (hu.to_below h.bel.size fun k ⟨a, k1, k2⟩ => by have := (own_blk h.own a k1).1; have := h.lB; omega)
    Bl := Nat.le_trans h.Bl hu.size }
set_option maxRecDepth 100000 in
set_option maxHeartbeats 8000000 in
theorem reached18_calls {w0 w : World} {hb : Nat} {K : Nat → Prop} {H : Hp} {N : Nat} (c : Car w0 hb K H w) (ok : Ok H N) (hN : N ≤ 60) :
    Calls Try.prog 54 #[.pointer (some ⟨hb, 0, none⟩)] w (RfPost w (reachL H)) := by
  have hbm : Below w.heap.size w (w.alloc (.map #[] 0)) := (Below.refl _ _).alloc (Nat.le_refl _) _
  have HBM := Lib.hid hbm
  have HMP := Lib.hid (Mp.MapIs.made w kV Value.bool)
  obtain ⟨L, hL⟩ : ∃ L, L = allH H := ⟨_, rfl⟩
  have hq := (c.below hbm).all ok (by omega)
  rw [← hL] at hq
  have HQ := Lib.hid hq
  have hL9 : L.length ≤ 60 := by have := all_len ok; rw [← hL] at this; omega
  have HLE := Lib.hid hL
  have HC := Lib.hid c
  have HOK := Lib.hid ok
  have HON : Hid (H.objs.length ≤ 60) := Lib.hid (by have := ok.objs_le; omega)
  clear hq hL hbm c ok
  have hmm := @run_makeMap Try.prog
  go_enter Try.func54, Try.ntmps54
  go_wp2_with (go_at_call 40; refine HQ.out.mono ?_; rintro e w4 ⟨LA, LC, rfl, ho, hb1⟩
               have HS : Hid (RcM w w4 w4.heap.size w.heap.size none 0 [] []) := Lib.hid ⟨⟨rfl, .inl ⟨rfl, rfl⟩⟩, HMP.out.of_block (hb1.block _ (by simp)), (fun a ha => by cases ha), HBM.out.step2 hb1, (HBM.out.step2 hb1).size, Nat.le_refl _, Nat.le_refl _⟩
               have HR4 : Hid (RdI w4 LA L ∧ ∀ a, LA = some a → w.heap.size < a.block ∧ a.block < w4.heap.size) := Lib.hid ⟨RdI.of_own ho, fun a ha => by have := own_blk ho a ha; simp at this; omega⟩
               clear ho hb1)
  have HW4 : Hid (w.heap.size < w4.heap.size) := Lib.hid HS.out.map.lt
  go_loopw [4, 15] (fun v p wr => ∃ (j : Nat) (qA : Option Addr) (qC : Nat) (q : List Int) (M : List (Int × Bool)), j ≤ L.length ∧ p = .int .i64 j ∧ v = .slice qA q.length qC ∧ Hid (RcM w wr w4.heap.size w.heap.size qA qC q M) ∧ Hid (Mut (fun k => k = w.heap.size ∨ w4.heap.size ≤ k) w4 wr) ∧ Hid (q = (L.take j).filter (fun r => decide (0 < holdsH H r)) ∧ ∀ x, inB M x = true ↔ x ∈ q)) (fun _ i _ => L.length - (intOf i).toNat)
  case atStart => exact ⟨0, none, 0, [], [], Nat.zero_le _, rfl, rfl, HS, Lib.hid (Mut.refl _ _), Lib.hid ⟨rfl, fun x => by simp [inB, Mp.get]⟩⟩
  case round =>
    obtain ⟨j, qA, qC, q, M, hj, rfl, rfl, HR, HU, HE⟩ := hrel
    by_cases hlt : j < L.length
    · obtain ⟨g, o, hA, hg, c0⟩ := HR4.out.1.mut HU.out (fun a ha e => by have := HR4.out.2 a ha; omega) j hlt
      have q0 : (0 : Int) ≤ (j : Int) := by omega
      have q1 : (j : Int) < (L.length : Int) := by omega
      have HT : Hid (L.take (j + 1) = L.take j ++ [L[j]'hlt]) := Lib.hid (List.take_succ_eq_append_getElem hlt)
      generalize L[j]'hlt = r at *
      have HAE := Lib.hid hA
      rw [hA]
      clear hA
      have hqn : q.length ≤ 100000000 := by rw [HE.out.1]; have h1 := List.length_filter_le (fun r => decide (0 < holdsH H r)) (L.take j); have h2 : (L.take j).length ≤ j := List.length_take_le _ _; omega
      have HHO := Lib.hid ((HC.out.below HR.out.bel).holds r)
      by_cases hp : 0 < holdsH H r
      · have HF : Hid (q ++ [r] = (L.take (j + 1)).filter fun r => decide (0 < holdsH H r)) := Lib.hid (by rw [HT.out, List.filter_append, ← HE.out.1]; simp [hp])
        obtain ⟨w5, hrun, hm5, hu5⟩ := updB_run HR.out.map r true
        have H5 := Lib.hid (HR.out.upd hm5 hu5)
        have H5U : Hid (Mut (fun k => k = w.heap.size ∨ w4.heap.size ≤ k) w4 w5) := Lib.hid (HU.out.then (hu5.mono fun k hk => .inl (.inl hk)))
        clear hm5 hu5
        generalize holdsH H r = v at *
        go_wp2_with (first
          | (go_at_call 38; refine HHO.out.mono ?_; rintro e w7 ⟨rfl, rfl⟩)
          | (at_builtin; refine app_one rfl _ _ rfl w4.heap.size qA qC q r rfl H5.out.own rfl rfl hqn H5.out.Bl ?_
             intro A3 C3 ys w8 hys ho8 hu8 ha8
             have H8 := Lib.hid (H5.out.app ho8 hu8 ha8)
             have H8U : Hid (Mut (fun k => k = w.heap.size ∨ w4.heap.size ≤ k) w4 w8) := Lib.hid (H5U.out.then (hu8.mono fun k ⟨a, k1, k2⟩ => .inl (.inr (by have := (own_blk H5.out.own a k1).1; omega))))
             have HYS := Lib.hid hys
             clear hys ho8 hu8 ha8))
        go_roundw
        case rel => (try rw [← HAE.out]); exact ⟨j + 1, A3, C3, ys, _, by omega, by go_num, rfl, H8, H8U, Lib.hid ⟨by rw [HYS.out]; exact HF.out, fun x => by rw [inB_put, HYS.out]; have := HE.out.2 x; by_cases e : x = r <;> simp [e, this]⟩⟩
        case measure => simp [intOf]; omega
      · have hp2 : decide (0 < holdsH H r) = false := decide_eq_false hp
        have HF : Hid (q = (L.take (j + 1)).filter fun r => decide (0 < holdsH H r)) := Lib.hid (by rw [HT.out, List.filter_append, ← HE.out.1]; simp [hp])
        clear hp
        generalize hv : holdsH H r = v at *
        clear hv
        go_wp2_with (go_at_call 38; refine HHO.out.mono ?_; rintro e w7 ⟨rfl, rfl⟩)
        go_roundw
        case rel => (try rw [← HAE.out]); exact ⟨j + 1, qA, qC, q, M, by omega, by go_num, rfl, HR, HU, Lib.hid ⟨HF.out, HE.out.2⟩⟩
        case measure => simp [intOf]; omega
    · obtain rfl : j = L.length := by omega
      have HB : Hid (Bfs H q q (fun _ => False) ∧ ∀ x, inB M x = true ↔ x ∈ q) := Lib.hid ⟨by rw [HE.out.1, List.take_length, HLE.out]; exact Bfs.start HOK.out, HE.out.2⟩
      have hqn : q.length ≤ 100000000 := by have := HB.out.1.le HOK.out; have := HON.out; omega
      have HCL := Lib.hid (clone_refs HR.out.own hqn)
      clear hlt hj HE HQ HS HR4 HU
      go_wp2_with (go_at_call 51; refine HCL.out.mono ?_; rintro e w5 ⟨OA, OC, rfl, ho, hb5⟩
                   have HBW : Hid (Bw w w5 w4.heap.size w.heap.size qA qC q OA OC q M) := Lib.hid
                     { q := (QAt.of_row HR.out.own).below hb5, own := own_base ho HR.out.Bl, map := HR.out.map.of_block (hb5.block _ HR.out.map.lt), nq := fun a ha _ => HR.out.ne a ha, no := fun a ha e => by (have h1 := (own_blk ho a ha).1; have h2 := HR.out.map.lt; omega), ap := fun a ha _ a1 ha1 e => by (have h1 := (own_blk ho a1 ha1).1; have h2 := (own_blk HR.out.own a ha).2; omega), bel := HR.out.bel.trans (hb5.mono HR.out.bel.size), lB := HR.out.lB, Bl := Nat.le_trans HR.out.Bl hb5.size, lm := HR.out.lm }
                   clear ho hb5)
      clear HCL HR hqn
      go_loopg [4, 7] (2 * (H.objs.length - q.length) + q.length) (fun k v v7 wr => ∃ (qA : Option Addr) (qC : Nat) (q : List Int) (OA : Option Addr) (OC : Nat) (out : List Int) (M : List (Int × Bool)), v = .slice qA q.length qC ∧ v7 = .slice OA out.length OC ∧ Hid (2 * (H.objs.length - out.length) + q.length = k) ∧ Hid (Bw w wr w4.heap.size w.heap.size qA qC q OA OC out M) ∧ Hid (Bfs H out q (fun _ => False) ∧ ∀ x, inB M x = true ↔ x ∈ out))
      case atStart => exact ⟨qA, qC, q, OA, OC, q, M, rfl, rfl, Lib.hid rfl, HBW, HB⟩
      case round =>
        clear HBW HB
        obtain ⟨qA, qC, q, OA, OC, out, M, rfl, rfl, HK, HR, HB⟩ := hrel
        have HOL : Hid (out.length ≤ 60) := Lib.hid (by have := HB.out.1.le HOK.out; have := HON.out; omega)
        cases q with
        | nil =>
          have HSR := Lib.hid (sort_row HR.out.own (by have := HOL.out; omega))
          have HSL := Lib.hid (HB.out.1.sorted HOK.out)
          clear hmm
          go_wp2_with (go_at_call 88; refine HSR.out.mono ?_; rintro e w6 ⟨rfl, ho6, hu6⟩
                       have H6 := Lib.hid ho6
                       have H6U := Lib.hid hu6
                       clear ho6 hu6)
          go_ret
          rw [HSL.out] at H6
          have hl : out.length = (reachL H).length := by rw [← HSL.out, List.length_mergeSort]
          refine ⟨OA, OC, by rw [hl]; rfl, by rw [← hl]; exact own_base H6.out HR.out.lB, HR.out.bel.trans (H6U.out.to_below HR.out.bel.size fun k ⟨a, k1, k2⟩ => by have h1 := (own_blk HR.out.own a k1).1; have h2 := HR.out.lB; omega)⟩
        | cons r q =>
          obtain ⟨g, o, rfl, hg, hC, c0⟩ := HR.out.q.head
          have hsl := run_slice_1 wr (some ⟨g, o, none⟩) (q.length + 1) qC (by omega)
          rw [Nat.add_sub_cancel] at hsl
          obtain ⟨A', hA'⟩ : ∃ A', A' = (if qC = 1 then some ⟨g, o, none⟩ else (some ⟨g, o, none⟩ : Option Addr).map (·.add (1 * 1))) := ⟨_, rfl⟩
          rw [← hA'] at hsl
          have HQT : Hid (QAt wr w4.heap.size A' (qC - 1) q ∧ ∀ a, A' = some a → a.block = g) := Lib.hid ⟨HR.out.q.tail fun g' o' e => by
            cases e
            rw [hA']
            by_cases h1 : qC = 1
            · rw [if_pos h1]; exact ⟨fun h2 => by omega, by simp⟩
            · rw [if_neg h1]; exact ⟨fun _ => by simp [Addr.add], by simp⟩, fun a ha => by
            rw [hA'] at ha
            by_cases h1 : qC = 1
            · rw [if_pos h1] at ha; cases ha; rfl
            · rw [if_neg h1] at ha; simp [Addr.add] at ha; rw [← ha]⟩
          have HS2 : Hid (Bw w wr w4.heap.size w.heap.size A' (qC - 1) q OA OC out M) := Lib.hid { HR.out with
            q := HQT.out.1
            nq := fun a ha _ e => HR.out.nq _ rfl hC ((HQT.out.2 a ha).symm.trans e)
            ap := fun a ha _ a1 h1 e => HR.out.ap _ rfl hC a1 h1 ((HQT.out.2 a ha).symm.trans e) }
          have HRP : Hid (Bfs H out q (· = r)) := Lib.hid HB.out.1.pop
          have HRR : Hid (Reach H r) := Lib.hid (HB.out.1.snd r (HB.out.1.sub r List.mem_cons_self))
          have HIB : Hid (∀ x, inB M x = true ↔ x ∈ out) := Lib.hid HB.out.2
          rw [List.length_cons]
          have q2 : (q.length : Int) + 1 ≤ 1000 := by have h1 := HB.out.1.len; have := HOL.out; simp only [List.length_cons] at h1; omega
          obtain ⟨R, hR⟩ : ∃ R, R = refsH H r := ⟨_, rfl⟩
          have hq := (HC.out.below HR.out.bel).refs HOK.out (by omega) r
          rw [← hR] at hq
          have HQ := Lib.hid hq
          have hR9 : R.length ≤ 40000001 := by have h1 := refs_len HOK.out r; have h2 := HOK.out.mu4 (by omega); rw [← hR] at h1; omega
          have HRE := Lib.hid hR
          have hk := HK.out
          rw [List.length_cons] at hk
          have HKM := Lib.hid hk
          clear hk
          clear hq hR hA' HK HB HR
          go_wp2_with (go_at_call 41; refine HQ.out.mono ?_; rintro e w6 ⟨RA, RC, rfl, ho, hb6⟩
                       have HS6 := Lib.hid (HS2.out.below hb6)
                       have HR6 : Hid (RdI w6 RA R ∧ ∀ a, RA = some a → wr.heap.size ≤ a.block ∧ a.block < w6.heap.size) := Lib.hid ⟨RdI.of_own ho, fun a ha => own_blk ho a ha⟩
                       have HAP : Hid (∀ a, RA = some a → a.block ≠ w.heap.size ∧ (∀ a1, A' = some a1 → 0 < qC - 1 → a1.block ≠ a.block) ∧ ∀ a1, OA = some a1 → a1.block ≠ a.block) := Lib.hid fun a ha => by
                         have h1 := (own_blk ho a ha).1
                         refine ⟨fun e => ?_, fun a1 h2 h3 e => ?_, fun a1 h2 e => ?_⟩
                         · have := HS2.out.map.lt; omega
                         · have := (HS2.out.blkq ⟨a1, h2, h3, rfl⟩).2; omega
                         · have := (own_blk HS2.out.own a1 h2).2; omega
                       clear ho hb6)
          go_loopw [4, 7, 44] (fun v v7 p wi => ∃ (j : Nat) (qB : Option Addr) (qD : Nat) (q2 : List Int) (OB : Option Addr) (OD : Nat) (out2 : List Int) (M2 : List (Int × Bool)), j ≤ R.length ∧ p = .int .i64 j ∧ v = .slice qB q2.length qD ∧ v7 = .slice OB out2.length OD ∧ Hid (Bw w wi w4.heap.size w.heap.size qB qD q2 OB OD out2 M2) ∧ Hid (RdI wi RA R ∧ w6.heap.size ≤ wi.heap.size ∧ ∀ a, RA = some a → a.block ≠ w.heap.size ∧ (∀ a1, qB = some a1 → 0 < qD → a1.block ≠ a.block) ∧ ∀ a1, OB = some a1 → a1.block ≠ a.block) ∧ Hid (Bfs H out2 q2 (· = r) ∧ (∀ x ∈ R.take j, x ∈ out2) ∧ ∀ x, inB M2 x = true ↔ x ∈ out2) ∧ Hid (out.length ≤ out2.length ∧ out2.length - out.length + q.length = q2.length)) (fun _ _ i _ => R.length - (intOf i).toNat)
          case atStart => exact ⟨0, A', qC - 1, q, OA, OC, out, M, Nat.zero_le _, rfl, rfl, rfl, HS6, Lib.hid ⟨HR6.out.1, Nat.le_refl _, HAP.out⟩, Lib.hid ⟨HRP.out, (fun x hx => by simp at hx), HIB.out⟩, Lib.hid ⟨Nat.le_refl _, by omega⟩⟩
          case round =>
            obtain ⟨j, qB, qD, q2', OB, OD, out2, M2, hj, rfl, rfl, rfl, HI, HRI, HRCI, HLI⟩ := hrel
            by_cases hlt : j < R.length
            · obtain ⟨g2, o2, hA, hg2, d0⟩ := HRI.out.1 j hlt
              have k0 : (0 : Int) ≤ (j : Int) := by omega
              have k1 : (j : Int) < (R.length : Int) := by omega
              have HT : Hid (R.take (j + 1) = R.take j ++ [R[j]'hlt]) := Lib.hid (List.take_succ_eq_append_getElem hlt)
              have HX : Hid ((R[j]'hlt) ∈ refsH H r) := Lib.hid (by rw [← HRE.out]; exact List.getElem_mem _)
              generalize R[j]'hlt = x at *
              have HAE := Lib.hid hA
              rw [hA]
              clear hA
              have hon : out2.length ≤ 100000000 := by have h1 := HRCI.out.1.le HOK.out; have := HON.out; omega
              have hqn : q2'.length ≤ 100000000 := by have h1 := HRCI.out.1.len; omega
              have hlk : (Instr.lookup 79 (.map (some w.heap.size)) (.int .i64 x) false).run Try.prog wr = .ok (.bool (inB M2 x)) wr := lookB_run HI.out.map x
              cases hin : inB M2 x with
              | false =>
                rw [hin] at hlk
                obtain ⟨w7, hrun, hm7, hu7⟩ := updB_run HI.out.map x true
                have H7 := Lib.hid (HI.out.upd hm7 hu7)
                have H7R : Hid (RdI w7 RA R ∧ w6.heap.size ≤ w7.heap.size) := Lib.hid ⟨HRI.out.1.mut hu7 fun a ha e => (HRI.out.2.2 a ha).1 e, Nat.le_trans HRI.out.2.1 hu7.size⟩
                have HNW : Hid (x ∉ out2) := Lib.hid fun h => by have := (HRCI.out.2.2 x).2 h; rw [hin] at this; cases this
                have tq : True := trivial
                clear hm7 hu7 hin
                go_wp2_with (first
                  | (at_builtin; have _t := tq; refine app_q rfl _ _ rfl w4.heap.size qB qD q2' x rfl H7.out.q rfl rfl hqn H7.out.Bl ?_
                     intro A3 C3 ys w8 hys hq8 hu8 hb8
                     have H8 := Lib.hid (H7.out.appq hq8 hu8 hb8)
                     have H8R : Hid (RdI w8 RA R ∧ w6.heap.size ≤ w8.heap.size ∧ ∀ a, RA = some a → ∀ a1, A3 = some a1 → 0 < C3 → a1.block ≠ a.block) := Lib.hid ⟨H7R.out.1.mut hu8 fun a ha ⟨a1, h1, h2, h3⟩ => (HRI.out.2.2 a ha).2.1 a1 h1 h2 h3, Nat.le_trans H7R.out.2 hu8.size, fun a ha a1 h1 _ e => by
                       rcases hb8 a1 h1 with ⟨a2, k1, k2, k3⟩ | k1
                       · exact (HRI.out.2.2 a ha).2.1 a2 k1 k2 (k3.trans e)
                       · have h2 := (HR6.out.2 a ha).2; have h3 := H7R.out.2; omega⟩
                     have HYS := Lib.hid hys
                     clear hys hq8 hu8 hb8 tq)
                  | (at_builtin; refine app_one rfl _ _ rfl w4.heap.size OB OD out2 x rfl H8.out.own rfl rfl hon H8.out.Bl ?_
                     intro A9 C9 zs w9 hzs ho9 hu9 ha9
                     have H9 := Lib.hid (H8.out.appo ho9 hu9 ha9)
                     have H9R : Hid (RdI w9 RA R ∧ w6.heap.size ≤ w9.heap.size ∧ ∀ a, RA = some a → a.block ≠ w.heap.size ∧ (∀ a1, A3 = some a1 → 0 < C3 → a1.block ≠ a.block) ∧ ∀ a1, A9 = some a1 → a1.block ≠ a.block) := Lib.hid ⟨H8R.out.1.mut hu9 fun a ha ⟨a1, h1, h2⟩ => (HRI.out.2.2 a ha).2.2 a1 h1 h2, Nat.le_trans H8R.out.2.1 hu9.size, fun a ha => ⟨(HRI.out.2.2 a ha).1, H8R.out.2.2 a ha, fun a1 h1 e => by
                       rcases ha9 a1 h1 with ⟨a2, k1, k2⟩ | k1
                       · exact (HRI.out.2.2 a ha).2.2 a2 k1 (k2.trans e)
                       · have h2 := (HR6.out.2 a ha).2; have h3 := H8R.out.2.1; omega⟩⟩
                     have HZS := Lib.hid hzs
                     clear hzs ho9 hu9 ha9))
                go_roundw
                case rel => (try rw [← HAE.out]); exact ⟨j + 1, A3, C3, ys, A9, C9, zs, Mp.put M2 x true, by omega, by go_num, rfl, rfl, H9, H9R, Lib.hid (by rw [HYS.out, HZS.out]; exact ⟨HRCI.out.1.add HRR.out HX.out HNW.out, fun y hy => by rw [HT.out] at hy; exact (List.mem_append.1 hy).elim (fun h1 => List.mem_append_left _ (HRCI.out.2.1 y h1)) fun h1 => List.mem_append_right _ h1, fun y => by rw [inB_put]; have := HRCI.out.2.2 y; by_cases e : y = x <;> simp [e, this]⟩), Lib.hid (by have h1 := HLI.out; rw [HYS.out, HZS.out]; simp only [List.length_append, List.length_cons, List.length_nil]; omega)⟩
                case measure => simp [intOf]; omega
              | true =>
                rw [hin] at hlk
                have HIN : Hid (x ∈ out2) := Lib.hid ((HRCI.out.2.2 x).1 hin)
                clear hin
                go_wp2
                go_roundw
                case rel => (try rw [← HAE.out]); exact ⟨j + 1, qB, qD, q2', OB, OD, out2, M2, by omega, by go_num, rfl, rfl, HI, HRI, Lib.hid ⟨HRCI.out.1, fun y hy => by rw [HT.out] at hy; exact (List.mem_append.1 hy).elim (fun h1 => HRCI.out.2.1 y h1) fun h1 => by rw [List.mem_singleton.1 h1]; exact HIN.out, HRCI.out.2.2⟩, HLI⟩
                case measure => simp [intOf]; omega
            · obtain rfl : j = R.length := by omega
              clear hlt hj
              have HF : Hid (Bfs H out2 q2' (fun _ => False) ∧ ∀ x, inB M2 x = true ↔ x ∈ out2) := Lib.hid ⟨HRCI.out.1.done (by have h1 := HRCI.out.2.1; rw [List.take_length, HRE.out] at h1; exact h1), HRCI.out.2.2⟩
              go_wp2
              go_roundg (2 * (H.objs.length - out2.length) + q2'.length)
              case rel => exact ⟨qB, qD, q2', OB, OD, out2, M2, rfl, rfl, Lib.hid rfl, HI, HF⟩
              case measure =>
                have h1 := HKM.out
                have h2 := HLI.out
                have h3 := HF.out.1.le HOK.out
                omega
end Go.Proofs.Ytodfpclekihbhaa

