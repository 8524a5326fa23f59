/- Texts on the heap, merged: W51, W52, W53. -/
import Derived.Test.YtodfpclekihbhaaG21
import Derived.ArgAppend
import Derived.Maps.RangeRun
/- A queue of numbers: a slice whose front is cut off, and that is appended to. -/
namespace Go.Proofs.Ytodfpclekihbhaa
open Go.RowKit Go.Shelf

/-- A queue in memory that begins at B. -/
structure QAt (w : World) (B : Nat) (A : Option Addr) (C : Nat) (q : List Int) : Prop where
  le : q.length ≤ C
  nil : A = none → C = 0
  at_ : ∀ a, A = some a → 0 < C → ∃ g o, a = ⟨g, o, none⟩ ∧ B ≤ g ∧ g < w.heap.size ∧ (∀ j (h : j < q.length), w.cell? ⟨g, o + j, none⟩ = some (.int .i64 (q[j]'h))) ∧ ∀ j, j < C - q.length → (w.cell? ⟨g, o + q.length + j, none⟩).isSome = true ∧ w.frozen? ⟨g, o + q.length + j, none⟩ = false
variable {w w' : World} {B : Nat} {A : Option Addr} {C : Nat} {q : List Int}
theorem QAt.empty (w : World) (B : Nat) : QAt w B none 0 [] := ⟨Nat.le_refl _, fun _ => rfl, fun a h => by cases h⟩
theorem QAt.mut {T : Nat → Prop} (h : QAt w B A C q) (hm : Mut T w w') (hT : ∀ a, A = some a → 0 < C → ¬ T a.block) : QAt w' B A C q :=
  ⟨h.le, h.nil, fun a ha hC => by
    obtain ⟨g, o, rfl, h1, h2, h3, h4⟩ := h.at_ a ha hC
    have hb := hm.block g h2 (hT _ ha hC)
    refine ⟨g, o, rfl, h1, Nat.lt_of_lt_of_le h2 hm.size, fun j hj => (World.cell?_of_block hb).trans (h3 j hj), fun j hj => ?_⟩
    rw [World.cell?_of_block (a := ⟨g, o + q.length + j, none⟩) hb, World.frozen?_of_block (a := ⟨g, o + q.length + j, none⟩) hb]
    exact h4 j hj⟩
theorem QAt.below (h : QAt w B A C q) (hb : Below w.heap.size w w') : QAt w' B A C q := h.mut (T := fun _ => False) (Mut.of_below hb) fun _ _ _ h => h
/-- The first is there. -/
theorem QAt.head {r : Int} (h : QAt w B A C (r :: q)) : ∃ g o, A = some ⟨g, o, none⟩ ∧ g < w.heap.size ∧ 0 < C ∧ w.cell? ⟨g, o, none⟩ = some (.int .i64 r) := by
  have hC : 0 < C := by have := h.le; simp only [List.length_cons] at this; omega
  cases hA : A with
  | none => have := h.nil hA; omega
  | some a =>
    obtain ⟨g, o, rfl, h1, h2, h3, _⟩ := h.at_ a hA hC
    exact ⟨g, o, rfl, h2, hC, h3 0 (by simp)⟩
/-- The first is cut off. -/
theorem QAt.tail {r : Int} {A' : Option Addr} (h : QAt w B A C (r :: q)) (hA : ∀ g o, A = some ⟨g, o, none⟩ → (1 < C → A' = some ⟨g, o + 1, none⟩) ∧ A' ≠ none) : QAt w B A' (C - 1) q := by
  obtain ⟨g, o, e, h2, hC, _⟩ := h.head
  have hl := h.le
  simp only [List.length_cons] at hl
  refine ⟨by omega, fun e2 => absurd e2 (hA g o e).2, fun a ha hC1 => ?_⟩
  obtain ⟨g', o', e', h1, h2, h3, h4⟩ := h.at_ _ e hC
  have eg : g' = g := by injection e' with e1; exact e1.symm
  have eo : o' = o := by injection e' with _ e1; exact e1.symm
  subst eg eo
  have hA1 := (hA _ _ e).1 (by omega)
  rw [ha] at hA1
  injection hA1 with hA1
  subst hA1
  refine ⟨g', o' + 1, rfl, h1, h2, fun j hj => ?_, fun j hj => ?_⟩
  · have := h3 (j + 1) (by simp; omega)
    rw [show o' + 1 + j = o' + (j + 1) by omega]
    simpa using this
  · have := h4 j (by simp only [List.length_cons]; omega)
    simp only [List.length_cons] at this
    rw [show o' + 1 + q.length + j = o' + (q.length + 1) + j by omega]
    exact this
theorem QAt.of_own {n : Int} {v : Value} {X : Nat} (hX : B ≤ X) (h : w.ownsRow X 26 1 v (q.length + 1) (ints q ++ [.int .i64 n])) : ∃ A1 C1, v = .slice A1 (q ++ [n]).length C1 ∧ QAt w B A1 C1 (q ++ [n]) ∧ ∀ a, A1 = some a → X ≤ a.block := by
  obtain ⟨A1, C1, rfl⟩ := own_slice h
  have hx : ints q ++ [.int .i64 n] = ints (q ++ [n]) := by simp [ints]
  rw [hx] at h
  refine ⟨A1, C1, by simp, ?_, fun a ha => (own_blk h a ha).1⟩
  rcases h.2 with ⟨h1, _⟩ | ⟨g, cap, cur, h1, h2, h3, h4, h5, h6, h7⟩
  · injection h1 with _ h1; omega
  · injection h1 with e1 e2 e3
    subst e1 e3
    have hl : (q ++ [n]).length = q.length + 1 := by simp
    refine ⟨by omega, (fun e => by cases e), fun a ha _ => ⟨g, 0, by injection ha with ha; exact ha.symm, Nat.le_trans hX h2, lt_of_heap h3, fun j hj => ?_, fun j hj => ⟨?_, frozen_of_heap h3 _⟩⟩⟩
    · have h8 := h.cellAt j (by simp at hj ⊢; omega)
      rw [Nat.zero_add]
      rw [h8]
      unfold ints
      rw [List.getElem?_map, List.getElem?_eq_getElem hj]
      rfl
    · rw [cell_of_heap (v := (cur[0 + (q ++ [n]).length + j]'(by omega))) h3 (Array.getElem?_eq_getElem _)]
      rfl
/-- A number is appended to a queue. -/
theorem app_q {ops : Array Oper} {rest : List Oper} {o : Oper} {a : Act} {Q : Exit → Act → World → Prop} (hgd : o.guard = none) (s x : Operand)
    (ho : o.op = .call { callee := .builtin .append, args := #[s, x], argTypes := #[35, 35] }) (B : Nat) (A : Option Addr) (C : Nat) (xs : List Int) (n : Int)
    (hs : a.eval s = .slice A xs.length C) (hq : QAt w B A C xs) {p : Nat} (hx : a.eval x = .slice (some ⟨p, 0, none⟩) 1 1) (hp : p = w.heap.size) (hn : xs.length ≤ 100000000) (hB : B ≤ w.heap.size)
    (h : ∀ A1 C1 ys w', ys = xs ++ [n] → QAt w' B A1 C1 ys → Mut (fun k => ∃ a, A = some a ∧ 0 < C ∧ a.block = k) w w' → (∀ a1, A1 = some a1 → (∃ a, A = some a ∧ 0 < C ∧ a.block = a1.block) ∨ w.heap.size ≤ a1.block) → wpList Try.prog ops Q rest (a.put o.dst (.slice A1 ys.length C1)) w') :
    wpList Try.prog ops Q (o :: rest) a (w.alloc (.cells #[.int .i64 n] 26)) := by
  subst hp
  obtain ⟨i0, hi, hz0, hz1, hz2⟩ := info_parts Try.infoRef
  have ba : Below w.heap.size w (w.alloc (.cells #[.int .i64 n] 26)) := (Below.refl _ _).alloc (Nat.le_refl _) _
  have hqa := hq.below ba
  have hnews : ∀ j u, [(.int .i64 n : Value)][j]? = some u → (w.alloc (.cells #[.int .i64 n] 26)).cell? ((⟨w.heap.size, 0, none⟩ : Addr).add j) = some u := cell_one_new w (.int .i64 n) 26
  have h1c : ∀ u ∈ [(.int .i64 n : Value)], u.oneCell' = true := fun u hu => by simp at hu; subst hu; rfl
  have hgr : ∀ v' w', w'.ownsRow (w.alloc (.cells #[.int .i64 n] 26)).heap.size 26 1 v' (xs.length + 1) (ints xs ++ [.int .i64 n]) → (w.alloc (.cells #[.int .i64 n] 26)).grownBy w' none → wpList Try.prog ops Q rest (a.put o.dst v') w' := fun v' w' hown hg => by
    obtain ⟨A1, C1, rfl, h1, h2⟩ := QAt.of_own (B := B) (by simp; omega) hown
    refine h A1 C1 _ w' rfl h1 ((Mut.of_below ba).trans (Mut.of_grown (S := fun _ => False) hg fun k hk => by cases hk) fun i hi => hi.elim) fun a1 ha1 => .inr ?_
    have := h2 a1 ha1
    simp at this
    omega
  by_cases hfull : C < xs.length + 1
  · have hxl := hq.le
    refine wpList_append_grows (P := Try.prog) _ hgd s x 35 ho 26 i0 (.int .i64 0) 1 8 Try.underlying35 hi hz0 hz1 hz2 rfl (by decide) A xs.length C (ints xs) hs (fun e => ?_) (by simp [ints]) (fun b hb j u hj => ?_) ⟨w.heap.size, 0, none⟩ 1 1 [.int .i64 n] hx rfl hnews h1c hfull (by simp only [maxLen]; omega) (by omega) hgr
    · have := hq.nil e
      omega
    · obtain ⟨hj1, hj2⟩ := List.getElem?_eq_some_iff.1 hj
      have hj3 : j < xs.length := by simpa [ints] using hj1
      obtain ⟨g, o2, rfl, k1, k2, k3, k4⟩ := hqa.at_ b hb (by omega)
      have e1 : (⟨g, o2, none⟩ : Addr).add j = ⟨g, o2 + j, none⟩ := by
        unfold Addr.add
        split
        · rename_i h; subst h; rfl
        · rfl
      rw [e1, k3 j hj3, ← hj2]
      simp [ints]
  · cases hA : A with
    | none => have := hq.nil hA; omega
    | some ad =>
      obtain ⟨g, o2, rfl, k1, k2, k3, k4⟩ := hqa.at_ ad hA (by omega)
      subst hA
      refine wpList_append_arg (P := Try.prog) _ hgd s x 35 ho 26 i0 (.int .i64 0) 1 8 Try.underlying35 hi hz0 hz1 hz2 rfl (by decide) g o2 xs.length C (ints xs) hs (by simp [ints]) (fun j u hj => ?_) ⟨w.heap.size, 0, none⟩ 1 1 [.int .i64 n] hx rfl hnews h1c (fun _ j hj => ?_) (by simp only [maxLen]; omega) (by omega) (fun hr => ?_) fun _ => hgr
      · obtain ⟨hj1, hj2⟩ := List.getElem?_eq_some_iff.1 hj
        have hj3 : j < xs.length := by simpa [ints] using hj1
        rw [k3 j hj3, ← hj2]
        simp [ints]
      · have hj0 : j = 0 := by simpa using hj
        subst hj0
        have := k4 0 (by omega)
        simpa using this
      · have e1 : (w.alloc (.cells #[.int .i64 n] 26)).setCells g (o2 + xs.length * 1) [.int .i64 n] = (w.alloc (.cells #[.int .i64 n] 26)).setCell ⟨g, o2 + xs.length, none⟩ (.int .i64 n) := by
          simp [World.setCells]
        rw [e1]
        have hgw : g < w.heap.size := by
          obtain ⟨g2, o3, e2, _, k5, _⟩ := hq.at_ _ rfl (by omega)
          injection e2 with e2
          omega
        have hm : Mut (fun k => ∃ a, (some ⟨g, o2, none⟩ : Option Addr) = some a ∧ 0 < C ∧ a.block = k) (w.alloc (.cells #[.int .i64 n] 26)) ((w.alloc (.cells #[.int .i64 n] 26)).setCell ⟨g, o2 + xs.length, none⟩ (.int .i64 n)) := Mut.setCell _ _ _ _ ⟨_, rfl, by omega, rfl⟩
        have hl : (xs ++ [n]).length = xs.length + 1 := by simp
        have hs1 := (k4 0 (by omega)).1
        have e2 : ∀ i, ((w.alloc (.cells #[.int .i64 n] 26)).setCell ⟨g, o2 + xs.length, none⟩ (.int .i64 n)).cell? ⟨g, i, none⟩ = if i = o2 + xs.length then some (.int .i64 n) else (w.alloc (.cells #[.int .i64 n] 26)).cell? ⟨g, i, none⟩ := fun i => by
          by_cases hi : i = o2 + xs.length
          · subst hi
            rw [if_pos rfl]
            exact World.cell?_setCell_same' _ _ _ (by simpa using hs1)
          · rw [if_neg hi]
            exact World.cell?_setCell_other _ _ _ _ (fun e : (⟨g, o2 + xs.length, none⟩ : Addr) = ⟨g, i, none⟩ => hi (congrArg Addr.off e).symm)
        rw [← hl]
        refine h (some ⟨g, o2, none⟩) C (xs ++ [n]) _ rfl ⟨by omega, (fun e => by cases e), fun a ha _ => ?_⟩ ((Mut.of_below ba).then hm) fun a1 ha1 => .inl ⟨a1, ha1, by omega, rfl⟩
        injection ha with ha
        subst ha
        refine ⟨g, o2, rfl, k1, by simp; omega, fun j hj => ?_, fun j hj => ?_⟩
        · rw [e2]
          by_cases hj2 : j = xs.length
          · subst hj2
            rw [if_pos rfl]
            simp
          · rw [if_neg (by omega), k3 j (by omega), List.getElem_append_left]
        · have k5 := k4 (j + 1) (by omega)
          rw [hl, show o2 + (xs.length + 1) + j = o2 + xs.length + (j + 1) by omega]
          refine ⟨?_, ?_⟩
          · rw [e2, if_neg (by omega)]; exact k5.1
          · rw [World.frozen?_setCell]; exact k5.2
end Go.Proofs.Ytodfpclekihbhaa

/- law17: reached. -/
namespace Go.Proofs.Ytodfpclekihbhaa
open Go.RowKit Go.Shelf

/-- A look-up in a set. -/
theorem lookB_run {w : World} {b : Nat} {L : List (Int × Bool)} (hmap : Mp.MapIs w b kV Value.bool L) (x : Int) : (Instr.lookup 79 (.map (some b)) (.int .i64 x) false).run Try.prog w = .ok (.bool ((Mp.get L x).getD false)) w := by
  have := hmap.lookup (P := Try.prog) (z := .bool false) Try.underlying79 Try.underlying26 kV_key kV_inj (by kernel_rfl) x
  rw [show (Value.int IntKind.i64 x) = kV x from rfl, this]
  cases Mp.get L x <;> rfl
set_option maxRecDepth 100000 in
theorem run_slice_1 (w : World) (a : Option Addr) (len cap : Nat) (h1 : 1 ≤ len) : (Instr.slice 35 (.slice a len cap) (some (.int .i64 1)) none none).run Try.prog w = .ok (.slice (if cap = 1 then a else a.map (·.add (1 * 1))) (len - 1) (cap - 1)) w := by
  rw [run_slice_l w 35 a len cap Try.underlying35 .i64 1 (by omega) (by omega)]
  simp [go_sem, sliced]
/-- A set and a queue of a call's own, beside what else lies there. -/
structure SetQ (w w4 : World) (B mb : Nat) (M : List (Int × Bool)) (A : Option Addr) (C : Nat) (q : List Int) (wr : World) : Prop where
  lo : w.heap.size ≤ mb
  hi : mb < B
  b4 : B ≤ w4.heap.size
  bel : Below w.heap.size w w4
  mut_ : Mut (fun k => k = mb ∨ B ≤ k) w4 wr
  map : Mp.MapIs wr mb kV Value.bool M
  q : QAt wr B A C q
variable {w w4 wr w' : World} {B mb : Nat} {M : List (Int × Bool)} {A : Option Addr} {C : Nat} {q : List Int}
theorem SetQ.below (h : SetQ w w4 B mb M A C q wr) (hb : Below wr.heap.size wr w') : SetQ w w4 B mb M A C q w' :=
  ⟨h.lo, h.hi, h.b4, h.bel, h.mut_.then (Mut.of_below hb), h.map.of_block (hb.block _ h.map.lt), h.q.below hb⟩
theorem SetQ.upd (h : SetQ w w4 B mb M A C q wr) {M' : List (Int × Bool)} (hm : Mp.MapIs w' mb kV Value.bool M') (hu : Mut (· = mb) wr w') : SetQ w w4 B mb M' A C q w' :=
  ⟨h.lo, h.hi, h.b4, h.bel, h.mut_.trans hu fun i hi => .inl (.inl hi), hm, h.q.mut hu fun a ha hC e => by
    obtain ⟨g, o, rfl, h1, _⟩ := h.q.at_ a ha hC
    have := h.hi
    have e : g = mb := e
    omega⟩
theorem SetQ.app (h : SetQ w w4 B mb M A C q wr) {A1 : Option Addr} {C1 : Nat} {q1 : List Int} (hq : QAt w' B A1 C1 q1) (hu : Mut (fun k => ∃ a, A = some a ∧ 0 < C ∧ a.block = k) wr w') : SetQ w w4 B mb M A1 C1 q1 w' := by
  have hk : ∀ k, (∃ a, A = some a ∧ 0 < C ∧ a.block = k) → B ≤ k := fun k ⟨a, ha, hC, e⟩ => by
    obtain ⟨g, o, rfl, h1, _⟩ := h.q.at_ a ha hC
    rw [← e]; exact h1
  exact ⟨h.lo, h.hi, h.b4, h.bel, h.mut_.trans hu fun i hi => .inl (.inr (hk i hi)), h.map.of_block (hu.block _ h.map.lt fun e => by have := hk _ e; have := h.hi; omega), hq⟩
theorem SetQ.full (h : SetQ w w4 B mb M A C q wr) : Below w.heap.size w wr := h.bel.trans (h.mut_.to_below h.bel.size fun k hk => by
  have := h.lo
  have := h.hi
  omega)
theorem SetQ.rd (h : SetQ w w4 B mb M A C q wr) {LA : Option Addr} {L : List Int} (hl : RdI w4 LA L) (hn : ∀ a, LA = some a → mb < a.block ∧ a.block < B) : RdI wr LA L :=
  hl.mut h.mut_ fun a ha e => by have := hn a ha; omega
/-- The queue lies apart from a list. -/
def Apart (LA A : Option Addr) (C : Nat) : Prop := ∀ a, LA = some a → ∀ a1, A = some a1 → 0 < C → a1.block ≠ a.block
theorem Apart.app {LA A1 : Option Addr} {C1 : Nat} (h : Apart LA A C) (hlt : ∀ a, LA = some a → a.block < wr.heap.size) (h1 : ∀ a1, A1 = some a1 → (∃ a, A = some a ∧ 0 < C ∧ a.block = a1.block) ∨ wr.heap.size ≤ a1.block) : Apart LA A1 C1 := fun a ha a1 ha1 _ e => by
  rcases h1 a1 ha1 with ⟨a2, h2, h3, h4⟩ | h2
  · exact h a ha a2 h2 h3 (h4.trans e)
  · have := hlt a ha; omega
theorem refs_len {H : Hp} {N : Nat} (ok : Ok H N) (r : Int) : (refsH H r).length ≤ muH H + 1 := by
  unfold refsH
  cases ho : Mp.get H.objs r with
  | none => exact Nat.zero_le _
  | some o =>
    obtain ⟨x, hx, _⟩ := ok.inv.row r o ho
    exact (targets_len H o hx).2
set_option maxRecDepth 100000 in
set_option maxHeartbeats 8000000 in
theorem reached_calls {w0 w : World} {hb : Nat} {K : Nat → Prop} {H : Hp} {N : Nat} (c : Car w0 hb K H w) (ok : Ok H N) (hN : N ≤ 900) :
    Calls Try.prog 45 #[.pointer (some ⟨hb, 0, none⟩)] w fun e w' => ∃ mb M, e = .returned (.map (some mb)) ∧ w.heap.size ≤ mb ∧ Mp.MapIs w' mb kV Value.bool M ∧ Rch H M [] (fun _ => False) ∧ Below w.heap.size w w' := by
  have hbm : Below w.heap.size w (w.alloc (.map #[] 0)) := (Below.refl _ _).alloc (Nat.le_refl _) _
  have HBM := Lib.hid hbm
  have HMP := Lib.hid (Mp.MapIs.made w kV Value.bool)
  obtain ⟨L, hL⟩ : ∃ L, L = allH H := ⟨_, rfl⟩
  have hq := (c.below hbm).all ok (by omega)
  rw [← hL] at hq
  have HQ := Lib.hid hq
  have hL9 : L.length ≤ 900 := by have := all_len ok; rw [← hL] at this; omega
  have HLE := Lib.hid hL
  have HC := Lib.hid c
  have HOK := Lib.hid ok
  have HLN : Hid L.Nodup := Lib.hid (by rw [hL]; exact all_nodup ok.inv)
  have HLX : Hid (∀ j (h : j < L.length), Mp.get H.objs (L[j]'h) ≠ none) := Lib.hid fun j h => (mem_all H _).1 (by rw [← hL]; exact List.getElem_mem _)
  have HON : Hid (H.objs.length ≤ 900) := Lib.hid (by have := ok.objs_le; omega)
  clear hq hL hbm c ok
  have hmm := @run_makeMap Try.prog
  go_enter Try.func45, Try.ntmps45
  go_wp2_with (go_at_call 40; refine HQ.out.mono ?_; rintro e w4 ⟨LA, LC, rfl, ho, hb1⟩
               have HB4 := Lib.hid (HBM.out.step2 hb1)
               have HS : Hid (SetQ w w4 w4.heap.size w.heap.size [] none 0 [] w4) := Lib.hid ⟨Nat.le_refl _, by have := hb1.size; simp at this; omega, Nat.le_refl _, HBM.out.step2 hb1, Mut.refl _ _, HMP.out.of_block (hb1.block _ (by simp)), QAt.empty _ _⟩
               have HR4 : Hid (RdI w4 LA L ∧ ∀ a, LA = some a → w.heap.size < a.block ∧ a.block < w4.heap.size) := Lib.hid ⟨RdI.of_own ho, fun a ha => by have := own_blk ho a ha; simp at this; omega⟩
               clear ho hb1)
  go_loopw [4, 14] (fun v p wr => ∃ (j : Nat) (qA : Option Addr) (qC : Nat) (q : List Int) (M : List (Int × Bool)), j ≤ L.length ∧ p = .int .i64 j ∧ v = .slice qA q.length qC ∧ Hid (SetQ w w4 w4.heap.size w.heap.size M qA qC q wr) ∧ Hid (Hld H (L.take j) M q)) (fun _ i _ => L.length - (intOf i).toNat)
  case atStart => exact ⟨0, none, 0, [], [], Nat.zero_le _, rfl, rfl, HS, Lib.hid (Hld.nil H)⟩
  case round =>
    obtain ⟨j, qA, qC, q, M, hj, rfl, rfl, HR, HD⟩ := hrel
    by_cases hlt : j < L.length
    · obtain ⟨g, o, hA, hg, c0⟩ := HR.out.rd HR4.out.1 HR4.out.2 j hlt
      have q0 : (0 : Int) ≤ (j : Int) := by omega
      have q1 : (j : Int) < (L.length : Int) := by omega
      have HT : Hid (L.take (j + 1) = L.take j ++ [L[j]'hlt]) := Lib.hid (List.take_succ_eq_append_getElem hlt)
      have HNI : Hid (L[j]'hlt ∉ L.take j) := Lib.hid fun hm => by
        have h1 := HLN.out
        rw [← List.take_append_drop (j + 1) L, HT.out, List.nodup_append, List.nodup_append] at h1
        exact h1.1.2.2 _ hm _ (by simp) rfl
      have HX := Lib.hid (HLX.out j hlt)
      generalize L[j]'hlt = r at *
      have HAE := Lib.hid hA
      rw [hA]
      clear hA
      have hqn : q.length ≤ 100000000 := by have h1 := HD.out.len; have h2 := Rch.le HD.out.nd HD.out.tr HD.out.ex; have := HON.out; omega
      have HHO := Lib.hid ((HC.out.below HR.out.full).holds r)
      by_cases hp : 0 < holdsH H r
      · obtain ⟨w5, hrun, hm5, hu5⟩ := updB_run HR.out.map r true
        have H5 := Lib.hid (HR.out.upd hm5 hu5)
        have H5S : Hid (w4.heap.size ≤ w5.heap.size) := Lib.hid H5.out.mut_.size
        clear hm5 hu5
        generalize holdsH H r = v at *
        go_wp2_with (first
          | (go_at_call 38; refine HHO.out.mono ?_; rintro e w7 ⟨rfl, rfl⟩)
          | (at_builtin; refine app_q rfl _ _ rfl w4.heap.size qA qC q r rfl H5.out.q rfl rfl hqn H5S.out ?_
             intro A3 C3 ys w8 hys hq8 hu8 _
             have H8 := Lib.hid (H5.out.app hq8 hu8)
             have HYS := Lib.hid hys
             clear hys hq8 hu8))
        go_roundw
        case rel => (try rw [← HAE.out]); exact ⟨j + 1, A3, C3, ys, _, by omega, by go_num, rfl, H8, Lib.hid (by rw [HYS.out, HT.out]; exact HD.out.add HNI.out HX.out)⟩
        case measure => simp [intOf]; omega
      · have hp2 : decide (0 < holdsH H r) = false := decide_eq_false hp
        have HP := Lib.hid (HD.out.skip hp)
        clear hp
        generalize hv : holdsH H r = v at *
        clear hv
        go_wp2_with (go_at_call 38; refine HHO.out.mono ?_; rintro e w7 ⟨rfl, rfl⟩)
        go_roundw
        case rel => (try rw [← HAE.out]); exact ⟨j + 1, qA, qC, q, M, by omega, by go_num, rfl, HR, Lib.hid (by rw [HT.out]; exact HP.out)⟩
        case measure => simp [intOf]; omega
    · obtain rfl : j = L.length := by omega
      have HRC : Hid (Rch H M q fun _ => False) := Lib.hid (Hld.rch (by have := HD.out; rw [List.take_length, HLE.out] at this; exact this))
      clear hlt hj HD HLN HLX HLE HQ HS
      go_wp2
      go_loopg [4] (2 * (H.objs.length - M.length) + q.length) (fun k v wr => ∃ (qA : Option Addr) (qC : Nat) (q : List Int) (M : List (Int × Bool)), v = .slice qA q.length qC ∧ Hid (2 * (H.objs.length - M.length) + q.length = k) ∧ Hid (SetQ w w4 w4.heap.size w.heap.size M qA qC q wr) ∧ Hid (Rch H M q fun _ => False))
      case atStart => exact ⟨qA, qC, q, M, rfl, Lib.hid rfl, HR, HRC⟩
      case round =>
        clear HR HRC
        obtain ⟨qA, qC, q, M, rfl, HK, HR, HRC⟩ := hrel
        cases q with
        | nil =>
          clear hmm
          go_wp2
          go_ret
          exact ⟨w.heap.size, M, rfl, Nat.le_refl _, HR.out.map, HRC.out, HR.out.full⟩
        | cons r q =>
          obtain ⟨g, o, rfl, hg, hC, c0⟩ := HR.out.q.head
          have hsl := run_slice_1 wr (some ⟨g, o, none⟩) (q.length + 1) qC (by omega)
          rw [Nat.add_sub_cancel] at hsl
          obtain ⟨A', hA'⟩ : ∃ A', A' = (if qC = 1 then some ⟨g, o, none⟩ else (some ⟨g, o, none⟩ : Option Addr).map (·.add (1 * 1))) := ⟨_, rfl⟩
          rw [← hA'] at hsl
          have HQT : Hid (QAt wr w4.heap.size A' (qC - 1) q ∧ ∀ a, A' = some a → a.block = g) := Lib.hid ⟨HR.out.q.tail fun g' o' e => by
            cases e
            rw [hA']
            by_cases h1 : qC = 1
            · rw [if_pos h1]; exact ⟨fun h2 => by omega, by simp⟩
            · rw [if_neg h1]; exact ⟨fun _ => by simp [Addr.add], by simp⟩, fun a ha => by
            rw [hA'] at ha
            by_cases h1 : qC = 1
            · rw [if_pos h1] at ha; cases ha; rfl
            · rw [if_neg h1] at ha; simp [Addr.add] at ha; rw [← ha]⟩
          have HS2 : Hid (SetQ w w4 w4.heap.size w.heap.size M A' (qC - 1) q wr) := Lib.hid { HR.out with q := HQT.out.1 }
          have HRP := Lib.hid HRC.out.pop
          have HGL := Lib.hid hg
          rw [List.length_cons]
          have q2 : (q.length : Int) + 1 ≤ 1000 := by have h1 := HRC.out.len; have h2 := Rch.le HRC.out.nd HRC.out.tr HRC.out.ex; have := HON.out; simp only [List.length_cons] at h1; omega
          obtain ⟨R, hR⟩ : ∃ R, R = refsH H r := ⟨_, rfl⟩
          have hq := (HC.out.below HR.out.full).refs HOK.out (by omega) r
          rw [← hR] at hq
          have HQ := Lib.hid hq
          have hR9 : R.length ≤ 40000001 := by have h1 := refs_len HOK.out r; have h2 := HOK.out.mu4 (by omega); rw [← hR] at h1; omega
          have HRE := Lib.hid hR
          have hk := HK.out
          rw [List.length_cons] at hk
          have HKM := Lib.hid hk
          clear hk
          clear hq hR hA' HK HRC HR
          go_wp2_with (go_at_call 41; refine HQ.out.mono ?_; rintro e w6 ⟨RA, RC, rfl, ho, hb6⟩
                       have HS6 := Lib.hid (HS2.out.below hb6)
                       have HR6 : Hid (RdI w6 RA R ∧ ∀ a, RA = some a → w4.heap.size ≤ a.block ∧ a.block < w6.heap.size) := Lib.hid ⟨RdI.of_own ho, fun a ha => by have := own_blk ho a ha; have := HS2.out.mut_.size; omega⟩
                       have HAP : Hid (Apart RA A' (qC - 1)) := Lib.hid fun a ha a1 ha1 _ e => by have h1 := (own_blk ho a ha).1; have h2 := HQT.out.2 a1 ha1; have := HGL.out; omega
                       clear ho hb6)
          go_loopw [4, 41] (fun v p wi => ∃ (j : Nat) (qB : Option Addr) (qD : Nat) (q2 : List Int) (M2 : List (Int × Bool)), j ≤ R.length ∧ p = .int .i64 j ∧ v = .slice qB q2.length qD ∧ Hid (SetQ w w4 w4.heap.size w.heap.size M2 qB qD q2 wi) ∧ Hid (RdI wi RA R ∧ w6.heap.size ≤ wi.heap.size ∧ Apart RA qB qD) ∧ Hid (Rch H M2 q2 (· = r) ∧ ∀ x ∈ R.take j, InM M2 x) ∧ Hid (M.length ≤ M2.length ∧ q2.length + M.length = q.length + M2.length)) (fun _ i _ => R.length - (intOf i).toNat)
          case atStart => exact ⟨0, A', qC - 1, q, M, Nat.zero_le _, rfl, rfl, HS6, Lib.hid ⟨HR6.out.1, Nat.le_refl _, HAP.out⟩, Lib.hid ⟨HRP.out, fun x hx => by simp at hx⟩, Lib.hid ⟨Nat.le_refl _, rfl⟩⟩
          case round =>
            obtain ⟨j, qB, qD, q2', M2, hj, rfl, rfl, HI, HRI, HRCI, HLI⟩ := hrel
            by_cases hlt : j < R.length
            · obtain ⟨g2, o2, hA, hg2, d0⟩ := HRI.out.1 j hlt
              have k0 : (0 : Int) ≤ (j : Int) := by omega
              have k1 : (j : Int) < (R.length : Int) := by omega
              have HT : Hid (∀ M', InM M' (R[j]'hlt) → (∀ x ∈ R.take j, InM M' x) → ∀ x ∈ R.take (j + 1), InM M' x) := Lib.hid fun M' h1 h2 => take_mem hlt h2 h1
              have HX : Hid (Mp.get H.objs (R[j]'hlt) ≠ none) := Lib.hid (refs_exist HOK.out (by rw [← HRE.out]; exact List.getElem_mem _))
              generalize R[j]'hlt = x at *
              have HAE := Lib.hid hA
              rw [hA]
              clear hA
              have hqn : q2'.length ≤ 100000000 := by have h1 := HRCI.out.1.len; have h2 := Rch.le HRCI.out.1.nd HRCI.out.1.tr HRCI.out.1.ex; have := HON.out; omega
              have hlk := lookB_run HI.out.map x
              cases hgx : Mp.get M2 x with
              | none =>
                rw [hgx] at hlk
                have hlk : (Instr.lookup 79 (.map (some w.heap.size)) (.int .i64 x) false).run Try.prog wr = .ok (.bool false) wr := hlk
                obtain ⟨w7, hrun, hm7, hu7⟩ := updB_run HI.out.map x true
                have H7 := Lib.hid (HI.out.upd hm7 hu7)
                have H7S : Hid (w4.heap.size ≤ w7.heap.size) := Lib.hid H7.out.mut_.size
                have H7R : Hid (RdI w7 RA R ∧ w6.heap.size ≤ w7.heap.size) := Lib.hid ⟨HRI.out.1.mut hu7 fun a ha e => by have := (HR6.out.2 a ha).1; have := HI.out.hi; have e : a.block = w.heap.size := e; omega, Nat.le_trans HRI.out.2.1 hu7.size⟩
                have HNW : Hid (Mp.get M2 x = none) := Lib.hid hgx
                clear hm7 hu7 hgx
                go_wp2_with (at_builtin; refine app_q rfl _ _ rfl w4.heap.size qB qD q2' x rfl H7.out.q rfl rfl hqn H7S.out ?_
                             intro A3 C3 ys w8 hys hq8 hu8 hb8
                             have H8 := Lib.hid (H7.out.app hq8 hu8)
                             have H8R : Hid (RdI w8 RA R ∧ w6.heap.size ≤ w8.heap.size ∧ Apart RA A3 C3) := Lib.hid ⟨H7R.out.1.mut hu8 fun a ha ⟨a1, h1, h2, h3⟩ => HRI.out.2.2 a ha a1 h1 h2 h3, Nat.le_trans H7R.out.2 hu8.size, HRI.out.2.2.app (fun a ha => Nat.lt_of_lt_of_le (HR6.out.2 a ha).2 H7R.out.2) hb8⟩
                             have HYS := Lib.hid hys
                             clear hys hq8 hu8 hb8)
                go_roundw
                case rel => (try rw [← HAE.out]); exact ⟨j + 1, A3, C3, ys, Mp.put M2 x true, by omega, by go_num, rfl, H8, H8R, Lib.hid (by rw [HYS.out]; exact ⟨HRCI.out.1.add HNW.out HX.out, HT.out _ (InM.put.2 (.inl rfl)) fun y hy => InM.put.2 (.inr (HRCI.out.2 y hy))⟩), Lib.hid (by have h1 := HLI.out; rw [HYS.out, put_len HNW.out]; simp only [List.length_append, List.length_cons, List.length_nil]; omega)⟩
                case measure => simp [intOf]; omega
              | some bb =>
                have hbb := HRCI.out.1.tr x bb hgx
                subst hbb
                rw [hgx] at hlk
                have hlk : (Instr.lookup 79 (.map (some w.heap.size)) (.int .i64 x) false).run Try.prog wr = .ok (.bool true) wr := hlk
                have HIN : Hid (InM M2 x) := Lib.hid hgx
                clear hgx
                go_wp2
                go_roundw
                case rel => (try rw [← HAE.out]); exact ⟨j + 1, qB, qD, q2', M2, by omega, by go_num, rfl, HI, HRI, Lib.hid ⟨HRCI.out.1, HT.out _ HIN.out HRCI.out.2⟩, HLI⟩
                case measure => simp [intOf]; omega
            · obtain rfl : j = R.length := by omega
              clear hlt hj
              have HF : Hid (Rch H M2 q2' fun _ => False) := Lib.hid (HRCI.out.1.done (by have h1 := HRCI.out.2; rw [List.take_length, HRE.out] at h1; exact h1))
              go_wp2
              go_roundg (2 * (H.objs.length - M2.length) + q2'.length)
              case rel => exact ⟨qB, qD, q2', M2, rfl, Lib.hid rfl, HI, HF⟩
              case measure =>
                have h1 := HKM.out
                have h2 := HLI.out
                have h3 := Rch.le HF.out.nd HF.out.tr HF.out.ex
                omega
end Go.Proofs.Ytodfpclekihbhaa

/- Ranging over a map of a call's own: a step. -/
namespace Go.Proofs.Ytodfpclekihbhaa
open Go.RowKit

theorem next_step (wr : World) (r mb clk : Nat) (seen : Array Nat) (es : Array MapEntry) (hr : wr.heap[r]? = some (.mapIter (some mb) clk seen clk)) (hb : wr.heap[mb]? = some (.map es clk)) (hst : MapKept.Stamped es clk) (hne : mb ≠ r) :
    ((leftOf es seen).size = 0 ∧ ∀ ty, (Instr.next (.pointer (some ⟨r, 0, none⟩)) false ty).run Try.prog wr = .ok (.tuple #[.bool false]) wr) ∨
    ∃ e ∈ es.toList, seen.contains e.born = false ∧ (leftOf es (seen.push e.born)).size < (leftOf es seen).size ∧ ∃ w1, (∀ ty, (Instr.next (.pointer (some ⟨r, 0, none⟩)) false ty).run Try.prog wr = .ok (.tuple #[.bool true, e.key, e.val]) w1) ∧
      (Instr.entry (.pointer (some ⟨r, 0, none⟩))).run Try.prog w1 = .ok (.tuple #[e.key, e.val]) w1 ∧ w1.heap[r]? = some (.mapIter (some mb) clk (seen.push e.born) clk) ∧ (∀ B, B ≤ r → Below B wr w1) := by
  have h3 := (MapKept.stamped_iff _ _).1 hst
  rcases run_next_at (P := Try.prog) wr 0 r mb clk clk seen es clk hr hb h3.1 (Nat.le_refl _) with ⟨h0, h1⟩ | ⟨e, he, w1, hal, h1⟩
  · exact .inl ⟨h0, fun _ => h1⟩
  · obtain ⟨hm, hs⟩ := mem_left he
    have hrlt : r < wr.heap.size := (Array.getElem?_eq_some_iff.1 hr).1
    have hw1 : w1.heap = wr.heap := by rcases hal with rfl | rfl <;> rfl
    have hBw : ∀ B, Below B wr w1 := fun B => by
      rcases hal with rfl | rfl
      · exact Below.refl _ _
      · exact (Below.refl _ _).drew
    have hr2 : (ChangeMaps.setBlock w1 r (.mapIter (some mb) clk (seen.push e.born) clk)).heap[r]? = some (.mapIter (some mb) clk (seen.push e.born) clk) := by
      simp [ChangeMaps.setBlock, hw1, hrlt]
    have hb2 : (ChangeMaps.setBlock w1 r (.mapIter (some mb) clk (seen.push e.born) clk)).heap[mb]? = some (.map es clk) := by
      have : (ChangeMaps.setBlock w1 r (.mapIter (some mb) clk (seen.push e.born) clk)).heap[mb]? = w1.heap[mb]? := by simp [ChangeMaps.setBlock, Ne.symm hne]
      rw [this, hw1, hb]
    refine .inr ⟨e, hm, hs, left_shrinks es seen e he, _, fun _ => h1, run_entry_at _ r mb clk seen es clk e hr2 hb2 hm h3.2.1, hr2, fun B hB => (hBw B).trans ⟨rfl, rfl, rfl, by simp [ChangeMaps.setBlock], fun k hk => ?_⟩⟩
    have hkr : r ≠ k := by omega
    simp [ChangeMaps.setBlock, hkr]
/-- The entries of a map. -/
theorem entry_of {α : Type} {V : α → Value} {M : List (Int × α)} {es : Array MapEntry} (hm : es.toList.map (fun e => (e.key, e.val)) = M.map (fun p => (kV p.1, V p.2))) {e : MapEntry} (he : e ∈ es.toList) : ∃ p ∈ M, e.key = kV p.1 ∧ e.val = V p.2 := by
  have h1 : (e.key, e.val) ∈ M.map (fun p => (kV p.1, V p.2)) := by rw [← hm]; exact List.mem_map.2 ⟨e, he, rfl⟩
  obtain ⟨p, hp, e1⟩ := List.mem_map.1 h1
  injection e1 with e1 e2
  exact ⟨p, hp, e1.symm, e2.symm⟩
end Go.Proofs.Ytodfpclekihbhaa

