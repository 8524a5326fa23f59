/- Contract: Kill. -/
import Derived.Test.YtnbjknjnpfmklaaP23
import Derived.Test.YtnbjknjnpfmklaaP11
namespace Go.Proofs.Ytnbjknjnpfmklaa
open Go.RowKit

/-- What Kill's loop carries. -/
structure KillAt (w wr : World) (tb : Nat) (p p' : TA) (S : Tb) (n : Nat) (A A3 : Option Addr) (C C3 : Nat) (out : List Int) : Prop where
  tab : TabAt wr tb p' S
  mm : Mut (p.fp tb) w wr
  fp : ∀ k, p'.fp tb k → p.fp tb k ∨ w.heap.size ≤ k
  sA : p'.sA = p.sA
  own : wr.ownsRow w.heap.size 3 1 (.slice A3 out.length C3) out.length (ints out)
  ids : wr.ownsRow w.heap.size 3 1 (.slice A n C) n (ints (oneTo n))
  d3 : ∀ a, A3 = some a → ¬ p'.fp tb a.block
  dA : ∀ a, A = some a → ¬ p'.fp tb a.block
  d : ∀ a b, A3 = some a → A = some b → a.block ≠ b.block
  sl : ∀ a, p.sA = some a → a.block < w.heap.size
theorem KillAt.alloc {w wr : World} {tb : Nat} {p p' : TA} {S : Tb} {n : Nat} {A A3 : Option Addr} {C C3 : Nat} {out : List Int} (h : KillAt w wr tb p p' S n A A3 C C3 out) (o : Obj) : KillAt w (wr.alloc o) tb p p' S n A A3 C C3 out :=
  ⟨h.tab.below ((Below.refl _ _).alloc (Nat.le_refl _) o), h.mm.alloc o, h.fp, h.sA, h.own.alloc o, h.ids.alloc o, h.d3, h.dA, h.d, h.sl⟩

theorem KillAt.lt3 {w wr : World} {tb : Nat} {p p' : TA} {S : Tb} {n : Nat} {A A3 : Option Addr} {C C3 : Nat} {out : List Int} (h : KillAt w wr tb p p' S n A A3 C C3 out) (a : Addr) (ha : A3 = some a) : w.heap.size ≤ a.block ∧ a.block < wr.heap.size := h.own.lt a.block (by rw [ha]; rfl)
theorem KillAt.ltA {w wr : World} {tb : Nat} {p p' : TA} {S : Tb} {n : Nat} {A A3 : Option Addr} {C C3 : Nat} {out : List Int} (h : KillAt w wr tb p p' S n A A3 C C3 out) (a : Addr) (ha : A = some a) : w.heap.size ≤ a.block ∧ a.block < wr.heap.size := h.ids.lt a.block (by rw [ha]; rfl)
theorem ownB {A : Option Addr} {n C k : Nat} (h : (Value.slice A n C).ownBlock = some k) : ∃ a, A = some a ∧ a.block = k := by
  cases A with
  | none => cases h
  | some a => exact ⟨a, rfl, by injection h⟩
/-- A step of the table. -/
theorem KillAt.step {w W W' : World} {tb : Nat} {p p' p2 : TA} {S S2 : Tb} {n : Nat} {A A3 : Option Addr} {C C3 : Nat} {out : List Int} (h : KillAt w W tb p p' S n A A3 C C3 out) (ht : TabAt W' tb p2 S2) (hm : Mut (p'.fp tb) W W')
    (hf : ∀ k, p2.fp tb k → p'.fp tb k ∨ W.heap.size ≤ k) (hs : p2.sA = p'.sA) : KillAt w W' tb p p2 S2 n A A3 C C3 out where
  tab := ht
  mm := h.mm.trans hm h.fp
  fp := fun k hk => (hf k hk).elim (h.fp k) (fun h1 => .inr (Nat.le_trans h.mm.size h1))
  sA := hs.trans h.sA
  own := own_mut h.own hm fun k hk => by obtain ⟨a, ha, rfl⟩ := ownB hk; exact h.d3 a ha
  ids := own_mut h.ids hm fun k hk => by obtain ⟨a, ha, rfl⟩ := ownB hk; exact h.dA a ha
  d3 := fun a ha hk => (hf _ hk).elim (h.d3 a ha) (fun h1 => by have := (h.lt3 a ha).2; omega)
  dA := fun a ha hk => (hf _ hk).elim (h.dA a ha) (fun h1 => by have := (h.ltA a ha).2; omega)
  d := h.d
  sl := h.sl
/-- A step in a block of the call's own. -/
theorem KillAt.off {w W W' : World} {tb : Nat} {p p' : TA} {S : Tb} {n k0 : Nat} {A A3 : Option Addr} {C C3 : Nat} {out : List Int} (h : KillAt w W tb p p' S n A A3 C C3 out) (hm : Mut (· = k0) W W') (h1 : w.heap.size ≤ k0) (h2 : ¬ p'.fp tb k0)
    (h3 : ∀ a, A3 = some a → a.block ≠ k0) (h4 : ∀ a, A = some a → a.block ≠ k0) : KillAt w W' tb p p' S n A A3 C C3 out where
  tab := h.tab.mut hm (fun k hk e => h2 (e ▸ hk)) (fun a ha e => by have := h.sl a (h.sA ▸ ha); omega)
  mm := h.mm.trans hm (fun k e => .inr (by omega))
  fp := h.fp
  sA := h.sA
  own := own_mut h.own hm fun k hk => by obtain ⟨a, ha, rfl⟩ := ownB hk; exact h3 a ha
  ids := own_mut h.ids hm fun k hk => by obtain ⟨a, ha, rfl⟩ := ownB hk; exact h4 a ha
  d3 := h.d3
  dA := h.dA
  d := h.d
  sl := h.sl
/-- A number is appended to the list. -/
theorem KillAt.push {w W W' : World} {tb : Nat} {p p' : TA} {S : Tb} {n : Nat} {A A3 : Option Addr} {C C3 : Nat} {out : List Int} {x : Int} {g cap : Nat} (h : KillAt w W tb p p' S n A A3 C C3 out)
    (ho : W'.ownsRow w.heap.size 3 1 (.slice (some ⟨g, 0, none⟩) (out.length + 1) cap) (out.length + 1) (ints (out ++ [x]))) (hg : W.grownBy W' (Value.slice A3 out.length C3).ownBlock) (hl : (Value.slice A3 out.length C3).ownBlock = some g ∨ g = W.heap.size) :
    KillAt w W' tb p p' S n A (some ⟨g, 0, none⟩) C cap (out ++ [x]) := by
  have hm : Mut (fun k => ∃ a, A3 = some a ∧ a.block = k) W W' := Mut.of_grown hg fun k hk => .inl (ownB hk)
  have e : (out ++ [x]).length = out.length + 1 := by simp
  refine ⟨h.tab.mut hm (fun k hk => ?_) (fun a ha => ?_), h.mm.trans hm (fun k hk => ?_), h.fp, h.sA, by rw [e]; exact ho, own_mut h.ids hm (fun k hk => ?_), fun a ha hk => ?_, h.dA, fun a b ha hb => ?_, h.sl⟩
  · rintro ⟨a, ha, rfl⟩; exact h.d3 a ha hk
  · rintro ⟨b, hb, e⟩; have h1 := h.sl a (h.sA ▸ ha); have h2 := (h.lt3 b hb).1; omega
  · obtain ⟨a, ha, rfl⟩ := hk; exact .inr (h.lt3 a ha).1
  · rintro ⟨a, ha, e⟩
    obtain ⟨b, hb, rfl⟩ := ownB hk
    exact h.d a b ha hb e
  · injection ha with ha
    subst ha
    rcases hl with h1 | h1
    · obtain ⟨b, hb, e⟩ := ownB h1
      exact h.d3 b hb (by rw [e]; exact hk)
    · have := h.tab.fp_lt _ hk
      simp at this
      omega
  · injection ha with ha
    subst ha
    intro e
    rcases hl with h1 | h1
    · obtain ⟨c, hc, e2⟩ := ownB h1
      exact h.d c b hc hb (e2.trans e)
    · have := (h.ltA b hb).2
      simp at e
      omega
theorem app_wB {ops : Array Oper} {rest : List Oper} {o : Oper} {a : Act} {Q : Exit → Act → World → Prop} {w : World} (hgd : o.guard = none) (s x : Operand)
    (ho : o.op = .call { callee := .builtin .append, args := #[s, x], argTypes := #[22, 22] }) (B : Nat) (A : Option Addr) (C : Nat) (xs : List Int) (n : Int)
    (hs : a.eval s = .slice A xs.length C) (hown : w.ownsRow B 3 1 (.slice A xs.length C) xs.length (ints xs)) (q : Nat) (hx : a.eval x = .slice (some ⟨q, 0, none⟩) 1 1) (hq : w.cell? ⟨q, 0, none⟩ = some (.int .i64 n))
    (hn : xs.length ≤ 100000) (hB : B ≤ w.heap.size)
    (h : ∀ g cap w', Hid (w'.ownsRow B 3 1 (.slice (some ⟨g, 0, none⟩) (xs.length + 1) cap) (xs.length + 1) (ints (xs ++ [n]))) → Hid (w.grownBy w' (Value.slice A xs.length C).ownBlock) → Hid ((Value.slice A xs.length C).ownBlock = some g ∨ g = w.heap.size) → wpList Try.prog ops Q rest (a.put o.dst (.slice (some ⟨g, 0, none⟩) (xs.length + 1) cap)) w') :
    wpList Try.prog ops Q (o :: rest) a w := by
  obtain ⟨i0, hi, hz0, hz1, hz2⟩ := info_parts info3
  refine wpList_append_lies w hgd s x 22 ho B 3 i0 (.int .i64 0) 1 8 Try.underlying22 hi hz0 hz1 hz2 rfl (by decide) _ xs.length (ints xs) hs hown ⟨q, 0, none⟩ 1 1 [.int .i64 n] hx rfl (one_cell hq) ?c2 (by decide) ?c3 ?c4 hB _ rfl ?_
  case c2 => intro u hu; simp at hu; subst hu; rfl
  case c3 => simp only [maxLen]; omega
  case c4 => omega
  intro g cap w' h2 h3 h4 _
  exact h g cap w' (by rw [show ints (xs ++ [n]) = ints xs ++ [.int .i64 n] by simp [ints]]; exact h2) h3 h4
theorem kill_outlen (T : Tb) (pid : Int) (grp : Bool) (j : Nat) : (killS T pid grp j).2.length ≤ j := by
  induction j with
  | zero => exact Nat.le_refl _
  | succ j ih =>
    unfold killS
    split
    · simp; exact ih
    · omega
theorem kill_ready (T : Tb) (pid : Int) (grp : Bool) (j : Nat) : (killS T pid grp j).1.ready.length ≤ T.ready.length := by
  induction j with
  | zero => exact Nat.le_refl _
  | succ j ih =>
    unfold killS
    split
    · refine Nat.le_trans ?_ ih
      show (dropI (killS T pid grp j).1.ready _).length ≤ _
      unfold dropI
      split
      · exact List.length_eraseIdx_le _ _
      · exact Nat.le_refl _
    · exact ih
theorem kill_blk {w wr w4 : World} {tb : Nat} {p p' : TA} {S : Tb} {n : Nat} {A A3 : Option Addr} {C C3 : Nat} {out : List Int} {cs : Array Value} {o : Obj} (h : KillAt w wr tb p p' S n A A3 C C3 out) (hg : ((wr.alloc (.cells cs 45)).alloc o).grownBy w4 (Value.slice A3 out.length C3).ownBlock) : w4.heap[wr.heap.size]? = some (.cells cs 45 (0, 0)) := by
  refine (hg.block wr.heap.size (by simp; omega) (fun e => ?_)).trans ((heap_alloc_old _ _ (by simp)).trans (heap_alloc_new wr _))
  obtain ⟨a, ha, hb⟩ := ownB e.symm
  have := (h.lt3 a ha).2
  omega
theorem kill_g4 {w wr : World} {tb : Nat} {p p' : TA} {S : Tb} {n g : Nat} {A A3 : Option Addr} {C C3 : Nat} {out : List Int} {o o' : Obj} (h : KillAt w wr tb p p' S n A A3 C C3 out) (hl : (Value.slice A3 out.length C3).ownBlock = some g ∨ g = ((wr.alloc o).alloc o').heap.size) : ¬ g = wr.heap.size := fun e => by
  rcases hl with h1 | h1
  · obtain ⟨a, ha, hb⟩ := ownB h1
    have := (h.lt3 a ha).2
    omega
  · simp at h1; omega
theorem blk5 {w : World} {b : Nat} {v0 v1 v2 v3 v4 : Value} {t : TypeId} (h : w.heap[b]? = some (.cells #[v0, v1, v2, v3, v4] t (0, 0))) : w.cell? ⟨b, 0, none⟩ = some v0 ∧ w.cell? ⟨b, 1, none⟩ = some v1 ∧ w.cell? ⟨b, 2, none⟩ = some v2 ∧ w.cell? ⟨b, 3, none⟩ = some v3 ∧ w.cell? ⟨b, 4, none⟩ = some v4 ∧ ∀ i, w.frozen? ⟨b, i, none⟩ = false :=
  ⟨cell_of_heap h rfl, cell_of_heap h rfl, cell_of_heap h rfl, cell_of_heap h rfl, cell_of_heap h rfl, fun i => by simp [World.frozen?, h]⟩
theorem kill_set {w W : World} {tb : Nat} {p : TA} {S : Tb} {rd : List Int} {m : Nat} (h : TabAt W tb p S) (ho : W.ownsRow w.heap.size 3 1 (.slice (some ⟨w.heap.size, 0, none⟩) m m) m (ints rd)) (_hb : Below w.heap.size w W) (hl : rd.length = m) (hlt : tb < w.heap.size) (hsl : ∀ a, p.sA = some a → a.block < w.heap.size) :
    TabAt (W.setCell ⟨tb, 5, none⟩ (.slice (some ⟨w.heap.size, 0, none⟩) m m)) tb { p with rA := some ⟨w.heap.size, 0, none⟩, rC := m } { S with ready := rd } :=
  h.set 5 _ _ _ (by unfold tabC; simp [hl]) rfl rfl rfl rfl (by rw [hl]; exact ho.mono (Nat.zero_le _)) (fun a ha => by injection ha with ha; subst ha; exact Nat.ne_of_gt hlt) (fun a b ha hb => by injection hb with hb; subst hb; exact Nat.ne_of_lt (hsl a ha))
theorem kill_fp {w : World} {tb : Nat} {p : TA} {m : Nat} (k : Nat) (hk : TA.fp tb { p with rA := some ⟨w.heap.size, 0, none⟩, rC := m } k) : p.fp tb k ∨ w.heap.size ≤ k := by
  rcases hk with h | h | ⟨a, ha, rfl⟩
  · exact .inl (.inl h)
  · exact .inl (.inr (.inl h))
  · injection ha with ha
    subst ha
    exact .inr (Nat.le_refl _)
theorem idx_range (zs : List Int) (x : Int) : Lib.idxOf zs x = -1 ∨ (0 ≤ Lib.idxOf zs x ∧ Lib.idxOf zs x < zs.length) := by
  have key : ∀ (zs : List Int) i, Lib.idxFrom zs x i = -1 ∨ ((i : Int) ≤ Lib.idxFrom zs x i ∧ Lib.idxFrom zs x i < (i : Int) + zs.length) := by
    intro zs
    induction zs with
    | nil => intro i; left; rfl
    | cons z zs ih =>
      intro i
      unfold Lib.idxFrom
      split
      · right; simp; omega
      · rcases ih (i + 1) with h | h
        · exact .inl h
        · right
          simp only [List.length_cons] at h ⊢
          omega
  simpa [Lib.idxOf] using key zs 0
def KillR (w : World) (tb : Nat) (p : TA) (T : Tb) (pid : Int) (grp : Bool) (e : Ending) (w' : World) : Prop := ∃ A C, e = .returned (.tuple #[.slice A (killL T pid grp).length C, .int .i64 (killE T pid grp)]) ∧ RowI w' A (killL T pid grp) ∧ Nx w tb p (killT T pid grp) w' ∧ ∀ a, A = some a → w.heap.size ≤ a.block
theorem kill_none {w w' : World} {tb : Nat} {p p' : TA} {T : Tb} {pid : Int} {grp : Bool} {n : Nat} {A A3 : Option Addr} {C C3 : Nat} (hK : KillAt w w' tb p p' (killT T pid grp) n A A3 C C3 (killL T pid grp)) (h0 : killL T pid grp = []) : KillR w tb p T pid grp (.returned (.tuple #[.slice none 0 0, .int .i64 4])) w' :=
  ⟨none, 0, by rw [show killE T pid grp = 4 from if_pos h0, h0]; rfl, fun j hj => by rw [h0] at hj; exact absurd hj (Nat.not_lt_zero _), ⟨p', hK.tab, hK.mm, hK.fp, hK.sA⟩, fun a h => by cases h⟩
theorem kill_some {w w' : World} {tb : Nat} {p p' : TA} {T : Tb} {pid : Int} {grp : Bool} {n : Nat} {A A3 : Option Addr} {C C3 : Nat} (hK : KillAt w w' tb p p' (killT T pid grp) n A A3 C C3 (killL T pid grp)) (h0 : killL T pid grp ≠ []) (m : Nat) (hm : (killL T pid grp).length = m) : KillR w tb p T pid grp (.returned (.tuple #[.slice A3 m C3, .int .i64 0])) w' := by
  subst hm
  exact ⟨A3, C3, by rw [show killE T pid grp = 0 from if_neg h0], RowI.of_own hK.own, ⟨p', hK.tab, hK.mm, hK.fp, hK.sA⟩, fun a ha => (hK.own.lt a.block (by rw [ha]; rfl)).1⟩
set_option maxRecDepth 100000 in
set_option maxHeartbeats 8000000 in
theorem kill_calls (T : Tb) (tb : Nat) (p : TA) (pid : Int) (grp : Bool) (w : World) (h : TabAt w tb p T) (hn : T.P.length ≤ 100000) (hr : T.ready.length ≤ 100000) :
    Calls Try.prog 24 #[.pointer (some ⟨tb, 0, none⟩), .int .i64 pid, .bool grp] w fun e w' => KillR w tb p T pid grp e w' := by
  have HT := Lib.hid h
  have HS := Lib.hid (sorted_calls h.map hn)
  have HSL := Lib.hid (fun j => killS_len T pid grp j)
  obtain ⟨c0, c1, c2, c3, c4, c5, c6, c7, c8, hf⟩ := h.cells
  clear h
  go_enter Try.func24, Try.ntmps24
  go_wp2_with (first
    | (go_at_call 38; refine (keys_calls _ _).mono ?_; rintro e w1 ⟨rfl, rfl⟩)
    | (go_at_call 37; refine HS.out.mono ?_; rintro e w2 ⟨A, C, rfl, ho, hb⟩; have HO := Lib.hid ho; have HB := Lib.hid (((Below.refl w.heap.size w).alloc (Nat.le_refl _) (.cells #[.map (some p.mb)] 61)).step2 hb); clear ho hb))
  have H0 : Hid (KillAt w w2 tb p p T T.P.length A none C 0 []) := Lib.hid ⟨HT.out.below HB.out, Mut.of_below HB.out, fun _ => .inl, rfl, World.ownsRow_nil _ _ _ _, HO.out, (fun _ h => by cases h), (fun a ha hk => by
    have h1 := HT.out.fp_lt _ hk
    have h2 := (HO.out.lt a.block (by rw [ha]; rfl)).1
    omega), (fun _ _ h => by cases h), HT.out.sl⟩
  clear c0 c1 c2 c3 c4 c5 c6 c7 c8 hf
  go_loopw [8, 22] (fun l i wr => ∃ j : Nat, j ≤ T.P.length ∧ i = .int .i64 j ∧ ∃ p' A3 C3, l = .slice A3 (killS T pid grp j).2.length C3 ∧ Hid (KillAt w wr tb p p' (killS T pid grp j).1 T.P.length A A3 C C3 (killS T pid grp j).2)) (fun _ i _ => T.P.length - (intOf i).toNat)
  case atStart => exact ⟨0, by omega, rfl, p, none, 0, rfl, H0⟩
  case round =>
    obtain ⟨j, hj, rfl, p', A3, C3, rfl, hK⟩ := hrel
    by_cases hlt : j < T.P.length
    · obtain ⟨g, rfl, hg0, hg, _, p0⟩ := own_cell hK.out.ids j hlt
      rw [oneTo_get _ j hlt] at p0
      obtain ⟨c0, c1, c2, c3, c4, c5, c6, c7, c8, hf⟩ := hK.out.tab.cells
      have hl := hK.out.tab.look ((j : Int) + 1)
      have hlt2 := hK.out.tab.lt
      have hSel : Hid (killS T pid grp (j + 1) = if selB pid grp ((j : Int) + 1) (prD (killS T pid grp j).1.P ((j : Int) + 1)) = true then (kill1 (killS T pid grp j).1 ((j : Int) + 1), (killS T pid grp j).2 ++ [(j : Int) + 1]) else killS T pid grp j) := Lib.hid rfl
      have HQ : Hid (prAt (killS T pid grp j).1.P ((j : Int) + 1) = some (prD (killS T pid grp j).1.P ((j : Int) + 1))) := Lib.hid (by
        unfold prD prAt
        rw [if_pos (by omega), show ((j : Int) + 1 - 1).toNat = j by omega, List.getElem?_eq_getElem (by rw [HSL.out]; exact hlt)]
        rfl)
      have j0 : (0 : Int) ≤ (j : Int) := by omega
      have j1 : (j : Int) < (T.P.length : Int) := by omega
      obtain ⟨SS, hSS⟩ : ∃ SS, SS = killS T pid grp (j + 1) := ⟨_, rfl⟩
      rw [← hSS] at hSel
      have HSS := Lib.hid hSS
      clear hSS
      have hol := kill_outlen T pid grp j
      have HRL := Lib.hid (kill_ready T pid grp j)
      generalize killS T pid grp j = SP at *
      obtain ⟨S, out⟩ := SP
      simp only at *
      generalize prD S.P ((j : Int) + 1) = q at *
      obtain ⟨q0, q1, q2, q3, q4⟩ := q
      simp only at hl
      cases hsel : selB pid grp ((j : Int) + 1) ⟨q0, q1, q2, q3, q4⟩ with
      | false =>
        rw [hsel, if_neg (by decide)] at hSel
        have hNext : Hid (SS = (S, out)) := Lib.hid hSel.out
        by_cases h6 : q2 = 6
        · subst h6
          go_wp2
          go_roundw
          case rel =>
            refine ⟨j + 1, by omega, by go_num, ?_⟩
            rw [← HSS.out, hNext.out]
            exact ⟨p', A3, C3, rfl, Lib.hid (hK.out.alloc _)⟩
          case measure => simp [intOf]; omega
        · have h7 : (q2 == 6) = false := by simpa using h6
          cases grp with
          | false =>
            have h8 : ((j : Int) + 1 == pid) = false := by simpa [selB, h7, h6] using hsel
            have h9 : ((j : Int) + 1 != pid) = true := by simp [bne, h8]
            go_wp2
            go_roundw
            case rel =>
              refine ⟨j + 1, by omega, by go_num, ?_⟩
              rw [← HSS.out, hNext.out]
              exact ⟨p', A3, C3, rfl, Lib.hid (hK.out.alloc _)⟩
            case measure => simp [intOf]; omega
          | true =>
            have h8 : (q1 == pid) = false := by simpa [selB, h7, h6] using hsel
            have h9 : (q1 != pid) = true := by simp [bne, h8]
            go_wp2
            go_roundw
            case rel =>
              refine ⟨j + 1, by omega, by go_num, ?_⟩
              rw [← HSS.out, hNext.out]
              exact ⟨p', A3, C3, rfl, Lib.hid (hK.out.alloc _)⟩
            case measure => simp [intOf]; omega
      | true =>
        have h6 : ¬ q2 = 6 := fun e => by rw [e] at hsel; simp [selB] at hsel
        have h7 : (q2 == 6) = false := by simpa using h6
        have HN : Hid (SS = (kill1 S ((j : Int) + 1), out ++ [(j : Int) + 1])) := Lib.hid (by rw [hSel.out, hsel, if_pos rfl])
        have hLo : out.length ≤ 100000 := by omega
        cases grp with
        | false =>
            have h8 : (j : Int) + 1 = pid := by simpa [selB, h7, h6] using hsel
            have h9 : ((j : Int) + 1 != pid) = false := by simp [bne, h8]
            clear h8
            go_wp2_with (at_builtin; (refine app_wB rfl _ _ rfl w.heap.size A3 C3 out ((j : Int) + 1) rfl ((hK.out.alloc _).alloc _).own _ rfl (by simp) hLo (Nat.le_trans hK.out.mm.size (by simp; omega)) ?_); intro g4 cap w4 ho hg hl4; have HK4 := Lib.hid (((hK.out.alloc (.cells #[.int .i64 q0, .int .i64 q1, .int .i64 q2, .string q3, .int .i64 q4] 45)).alloc (.cells #[.int .i64 ((j : Int) + 1)] 3)).push ho.out hg.out hl4.out); have HPB := Lib.hid (kill_blk hK.out hg.out); have HG3 : Hid (¬ g4 = wr.heap.size) := Lib.hid (kill_g4 hK.out hl4.out); obtain ⟨r0, r1, r2, r3, r4, rf⟩ := blk5 HPB.out; clear ho hg hl4 c0 c1 c2 c3 c4 c5 c6 c7 c8 hf p0 hl)
            obtain ⟨d0, d1, d2, d3, d4, d5, d6, d7, d8, df⟩ := HK4.out.tab.cells
            have hne := Nat.ne_of_lt hlt2
            have hM5 : Mut (· = wr.heap.size) w4 (((w4.setCell ⟨wr.heap.size, 2, none⟩ (.int .i64 6)).setCell ⟨wr.heap.size, 3, none⟩ (.string ⟨#[]⟩)).drew) := ((Mut.setCell (S := (· = wr.heap.size)) _ _ _ _ rfl).then (Mut.setCell (S := (· = wr.heap.size)) _ _ _ _ rfl)).then (Mut.of_below (Below.refl _ _).drew)
            have HK5 := Lib.hid (HK4.out.off hM5 hK.out.mm.size (fun hk => by have := hK.out.tab.fp_lt _ hk; omega) (fun a ha => by injection ha with ha; subst ha; exact HG3.out) (fun a ha => Nat.ne_of_lt (hK.out.ltA a ha).2))
            obtain ⟨w6, hrun, hm, hg⟩ := upd_run HK5.out.tab.map ((j : Int) + 1) ⟨q0, q1, 6, ⟨#[]⟩, q4⟩
            rw [show Mp.put (prs S.P) ((j : Int) + 1) ⟨q0, q1, 6, ⟨#[]⟩, q4⟩ = prs (endP S ((j : Int) + 1)).P from put_setP HQ.out (fun p => { p with state := 6, why := ⟨#[]⟩ })] at hm
            simp only [prV] at hrun
            have HK6 : Hid (KillAt w w6 tb p p' (endP S ((j : Int) + 1)) T.P.length (some ⟨g, 0, none⟩) (some ⟨g4, 0, none⟩) C cap (out ++ [(j : Int) + 1])) := Lib.hid (HK5.out.step (HK5.out.tab.store _ hm (mut_map hg)) ((mut_map hg).mono fun k hk => .inl (.inr (.inl hk))) (fun _ => .inl) rfl)
            clear hm hg hM5
            go_region
            obtain ⟨e0, e1, e2, e3, e4, e5, e6, e7, e8, ef⟩ := HK6.out.tab.cells
            clear d0 d1 d2 d3 d4 d5 d6 d7 d8 df r0 r1 r2 r3 r4 rf hrun
            by_cases hcur : (j : Int) + 1 = S.cur
            · have HS3 : Hid (offT (endP S ((j : Int) + 1)) ((j : Int) + 1) = overT (endP S ((j : Int) + 1))) := Lib.hid (if_pos hcur)
              rw [show (endP S ((j : Int) + 1)).cur = (j : Int) + 1 from hcur.symm] at e6
              clear hcur
              by_cases hix : 0 ≤ Lib.idxOf S.ready ((j : Int) + 1)
              · obtain ⟨i, hi⟩ : ∃ i : Nat, Lib.idxOf S.ready ((j : Int) + 1) = (i : Int) := ⟨(Lib.idxOf S.ready ((j : Int) + 1)).toNat, by omega⟩
                obtain ⟨m, hm⟩ : ∃ m, S.ready.length = m + 1 := ⟨S.ready.length - 1, by rcases idx_range S.ready ((j : Int) + 1) with h | h <;> omega⟩
                have him : i ≤ m := by rcases idx_range S.ready ((j : Int) + 1) with h | h <;> omega
                have HKN : Hid (kill1 S ((j : Int) + 1) = { overT (endP S ((j : Int) + 1)) with ready := S.ready.eraseIdx i }) := Lib.hid (by unfold kill1 dropI; rw [HS3.out, if_pos hix, hi, Int.toNat_natCast])
                have HLEN : Hid ((S.ready.eraseIdx i).length = m) := Lib.hid (by rw [List.length_eraseIdx, hm, if_pos (by omega)]; omega)
                have HLN := Lib.hid hm
                have HIX := Lib.hid hi
                have hm5 : m ≤ 100000 := by have := HRL.out; omega
                obtain ⟨gr, hA, _, hgr, hcap, _⟩ := own_cell HK6.out.tab.rdy 0 (by show 0 < S.ready.length; omega)
                have HA := Lib.hid hA
                have HGR := Lib.hid hgr
                have HCAP : Hid (m + 1 ≤ p'.rC) := Lib.hid (by rw [← hm]; exact hcap)
                have HIDX : Hid (∀ W, TabAt W tb p' (overT (endP S ((j : Int) + 1))) → Calls Try.prog 39 #[.slice (some ⟨gr, 0, none⟩) (m + 1) p'.rC, .int .i64 ((j : Int) + 1)] W fun e w' => e = .returned (.int .i64 (i : Int)) ∧ w' = W) := Lib.hid (fun W hW => by
                  have := idx_calls hW ((j : Int) + 1) (show S.ready.length ≤ 100000 from Nat.le_trans HRL.out hr)
                  rw [hA, show (overT (endP S ((j : Int) + 1))).ready.length = m + 1 from hm, show Lib.idxOf (overT (endP S ((j : Int) + 1))).ready ((j : Int) + 1) = (i : Int) from hi] at this
                  exact this)
                have i0 : (0 : Int) ≤ (i : Int) := by omega
                clear hix hi hm hA hgr hcap
                go_wp2_with (first
                  | (go_at_call 35; refine (over_calls _ tb p' _ HK6.out.tab).mono ?_; rintro e w7 ⟨rfl, ht, hm⟩; have HK7 := Lib.hid (HK6.out.step ht (hm.mono fun k hk => .inl (.inl hk)) (fun _ => .inl) rfl); have hsz7 := hm.size; clear ht hm e0 e1 e2 e3 e4 e5 e6 e7 e8 ef; have HSZ7 : Hid (w6.heap.size ≤ w7.heap.size) := Lib.hid hsz7; clear hsz7; obtain ⟨e0, e1, e2, e3, e4, e5, e6, e7, e8, ef⟩ := HK7.out.tab.cells; rw [HA.out, show (overT (endP S ((j : Int) + 1))).ready.length = m + 1 from HLN.out] at e5)
                  | (go_at_call 39; refine (HIDX.out _ HK7.out.tab).mono ?_; rintro e w8 ⟨rfl, rfl⟩)
                  | (go_at_call 33; refine (without_calls S.ready m i HLN.out him gr 0 p'.rC _ hm5 HCAP.out (fun j hj => rdy_cells HK7.out.tab HA.out rfl j hj) (Nat.lt_of_lt_of_le HGR.out HSZ7.out)).mono ?_; rintro e w9 ⟨rfl, ho, hb⟩; have HO9 := Lib.hid ho; have HB9 := Lib.hid hb; have HT8 := Lib.hid (HK7.out.tab.below hb); clear ho hb e0 e1 e2 e3 e4 e5 e6 e7 e8 ef; obtain ⟨e0, e1, e2, e3, e4, e5, e6, e7, e8, ef⟩ := HT8.out.cells))
                have HK9 := HK7.out.step (kill_set HT8.out HO9.out HB9.out HLEN.out HK7.out.tab.lt HK7.out.tab.sl) ((Mut.of_below HB9.out).then (Mut.setCell _ _ _ _ (.inl rfl))) (fun k hk => kill_fp k hk) rfl
                go_roundw
                case rel =>
                  refine ⟨j + 1, by omega, by go_num, ?_⟩
                  rw [← HSS.out, HN.out, HKN.out]
                  exact ⟨_, _, cap, by simp, Lib.hid HK9⟩
                case measure => simp [intOf]; omega
              · have HIX : Hid (Lib.idxOf S.ready ((j : Int) + 1) = -1) := Lib.hid (by rcases idx_range S.ready ((j : Int) + 1) with h | h; exact h; omega)
                have HKN : Hid (kill1 S ((j : Int) + 1) = overT (endP S ((j : Int) + 1))) := Lib.hid (by unfold kill1 dropI; rw [HS3.out, if_neg hix]; rfl)
                clear hix
                go_wp2_with (first
                | (go_at_call 35; refine (over_calls _ tb p' _ HK6.out.tab).mono ?_; rintro e w7 ⟨rfl, ht, hm⟩; have HK7 := Lib.hid (HK6.out.step ht (hm.mono fun k hk => .inl (.inl hk)) (fun _ => .inl) rfl); clear ht hm e0 e1 e2 e3 e4 e5 e6 e7 e8 ef; obtain ⟨e0, e1, e2, e3, e4, e5, e6, e7, e8, ef⟩ := HK7.out.tab.cells)
                | (go_at_call 39; refine (idx_calls HK7.out.tab ((j : Int) + 1) (show S.ready.length ≤ 100000 from Nat.le_trans HRL.out hr)).mono ?_; rintro e w8 ⟨rfl, rfl⟩; rw [show Lib.idxOf (overT (endP S ((j : Int) + 1))).ready ((j : Int) + 1) = -1 from HIX.out]))
                go_roundw
                case rel =>
                  refine ⟨j + 1, by omega, by go_num, ?_⟩
                  rw [← HSS.out, HN.out, HKN.out]
                  exact ⟨p', _, cap, by simp, HK7⟩
                case measure => simp [intOf]; omega
            · have HS3 : Hid (offT (endP S ((j : Int) + 1)) ((j : Int) + 1) = endP S ((j : Int) + 1)) := Lib.hid (if_neg hcur)
              have h10 : ((j : Int) + 1 == (endP S ((j : Int) + 1)).cur) = false := by simpa [endP] using hcur
              clear hcur
              by_cases hix : 0 ≤ Lib.idxOf S.ready ((j : Int) + 1)
              · obtain ⟨i, hi⟩ : ∃ i : Nat, Lib.idxOf S.ready ((j : Int) + 1) = (i : Int) := ⟨(Lib.idxOf S.ready ((j : Int) + 1)).toNat, by omega⟩
                obtain ⟨m, hm⟩ : ∃ m, S.ready.length = m + 1 := ⟨S.ready.length - 1, by rcases idx_range S.ready ((j : Int) + 1) with h | h <;> omega⟩
                have him : i ≤ m := by rcases idx_range S.ready ((j : Int) + 1) with h | h <;> omega
                have HKN : Hid (kill1 S ((j : Int) + 1) = { endP S ((j : Int) + 1) with ready := S.ready.eraseIdx i }) := Lib.hid (by unfold kill1 dropI; rw [HS3.out, if_pos hix, hi, Int.toNat_natCast])
                have HLEN : Hid ((S.ready.eraseIdx i).length = m) := Lib.hid (by rw [List.length_eraseIdx, hm, if_pos (by omega)]; omega)
                have HLN := Lib.hid hm
                have HIX := Lib.hid hi
                have hm5 : m ≤ 100000 := by have := HRL.out; omega
                obtain ⟨gr, hA, _, hgr, hcap, _⟩ := own_cell HK6.out.tab.rdy 0 (by show 0 < S.ready.length; omega)
                have HA := Lib.hid hA
                have HGR := Lib.hid hgr
                have HCAP : Hid (m + 1 ≤ p'.rC) := Lib.hid (by rw [← hm]; exact hcap)
                have HIDX : Hid (∀ W, TabAt W tb p' (endP S ((j : Int) + 1)) → Calls Try.prog 39 #[.slice (some ⟨gr, 0, none⟩) (m + 1) p'.rC, .int .i64 ((j : Int) + 1)] W fun e w' => e = .returned (.int .i64 (i : Int)) ∧ w' = W) := Lib.hid (fun W hW => by
                  have := idx_calls hW ((j : Int) + 1) (show S.ready.length ≤ 100000 from Nat.le_trans HRL.out hr)
                  rw [hA, show (endP S ((j : Int) + 1)).ready.length = m + 1 from hm, show Lib.idxOf (endP S ((j : Int) + 1)).ready ((j : Int) + 1) = (i : Int) from hi] at this
                  exact this)
                have i0 : (0 : Int) ≤ (i : Int) := by omega
                clear hix hi hm hA hgr hcap
                rw [HA.out, show (endP S ((j : Int) + 1)).ready.length = m + 1 from HLN.out] at e5
                go_wp2_with (first
                  | (go_at_call 39; refine (HIDX.out _ HK6.out.tab).mono ?_; rintro e w8 ⟨rfl, rfl⟩)
                  | (go_at_call 33; refine (without_calls S.ready m i HLN.out him gr 0 p'.rC _ hm5 HCAP.out (fun j hj => rdy_cells HK6.out.tab HA.out rfl j hj) (Nat.lt_of_lt_of_le HGR.out (Nat.le_refl _))).mono ?_; rintro e w9 ⟨rfl, ho, hb⟩; have HO9 := Lib.hid ho; have HB9 := Lib.hid hb; have HT8 := Lib.hid (HK6.out.tab.below hb); clear ho hb e0 e1 e2 e3 e4 e5 e6 e7 e8 ef; obtain ⟨e0, e1, e2, e3, e4, e5, e6, e7, e8, ef⟩ := HT8.out.cells))
                have HK9 := HK6.out.step (kill_set HT8.out HO9.out HB9.out HLEN.out HK6.out.tab.lt HK6.out.tab.sl) ((Mut.of_below HB9.out).then (Mut.setCell _ _ _ _ (.inl rfl))) (fun k hk => kill_fp k hk) rfl
                go_roundw
                case rel =>
                  refine ⟨j + 1, by omega, by go_num, ?_⟩
                  rw [← HSS.out, HN.out, HKN.out]
                  exact ⟨_, _, cap, by simp, Lib.hid HK9⟩
                case measure => simp [intOf]; omega
              · have HIX : Hid (Lib.idxOf S.ready ((j : Int) + 1) = -1) := Lib.hid (by rcases idx_range S.ready ((j : Int) + 1) with h | h; exact h; omega)
                have HKN : Hid (kill1 S ((j : Int) + 1) = endP S ((j : Int) + 1)) := Lib.hid (by unfold kill1 dropI; rw [HS3.out, if_neg hix]; rfl)
                clear hix
                go_wp2_with (first
                | (go_at_call 39; refine (idx_calls HK6.out.tab ((j : Int) + 1) (show S.ready.length ≤ 100000 from Nat.le_trans HRL.out hr)).mono ?_; rintro e w8 ⟨rfl, rfl⟩; rw [show Lib.idxOf (endP S ((j : Int) + 1)).ready ((j : Int) + 1) = -1 from HIX.out]))
                go_roundw
                case rel =>
                  refine ⟨j + 1, by omega, by go_num, ?_⟩
                  rw [← HSS.out, HN.out, HKN.out]
                  exact ⟨p', _, cap, by simp, HK6⟩
                case measure => simp [intOf]; omega
        | true =>
            have h8 : q1 = pid := by simpa [selB, h7, h6] using hsel
            have h9 : (q1 != pid) = false := by simp [bne, h8]
            clear h8
            go_wp2_with (at_builtin; (refine app_wB rfl _ _ rfl w.heap.size A3 C3 out ((j : Int) + 1) rfl ((hK.out.alloc _).alloc _).own _ rfl (by simp) hLo (Nat.le_trans hK.out.mm.size (by simp; omega)) ?_); intro g4 cap w4 ho hg hl4; have HK4 := Lib.hid (((hK.out.alloc (.cells #[.int .i64 q0, .int .i64 q1, .int .i64 q2, .string q3, .int .i64 q4] 45)).alloc (.cells #[.int .i64 ((j : Int) + 1)] 3)).push ho.out hg.out hl4.out); have HPB := Lib.hid (kill_blk hK.out hg.out); have HG3 : Hid (¬ g4 = wr.heap.size) := Lib.hid (kill_g4 hK.out hl4.out); obtain ⟨r0, r1, r2, r3, r4, rf⟩ := blk5 HPB.out; clear ho hg hl4 c0 c1 c2 c3 c4 c5 c6 c7 c8 hf p0 hl)
            obtain ⟨d0, d1, d2, d3, d4, d5, d6, d7, d8, df⟩ := HK4.out.tab.cells
            have hne := Nat.ne_of_lt hlt2
            have hM5 : Mut (· = wr.heap.size) w4 (((w4.setCell ⟨wr.heap.size, 2, none⟩ (.int .i64 6)).setCell ⟨wr.heap.size, 3, none⟩ (.string ⟨#[]⟩)).drew) := ((Mut.setCell (S := (· = wr.heap.size)) _ _ _ _ rfl).then (Mut.setCell (S := (· = wr.heap.size)) _ _ _ _ rfl)).then (Mut.of_below (Below.refl _ _).drew)
            have HK5 := Lib.hid (HK4.out.off hM5 hK.out.mm.size (fun hk => by have := hK.out.tab.fp_lt _ hk; omega) (fun a ha => by injection ha with ha; subst ha; exact HG3.out) (fun a ha => Nat.ne_of_lt (hK.out.ltA a ha).2))
            obtain ⟨w6, hrun, hm, hg⟩ := upd_run HK5.out.tab.map ((j : Int) + 1) ⟨q0, q1, 6, ⟨#[]⟩, q4⟩
            rw [show Mp.put (prs S.P) ((j : Int) + 1) ⟨q0, q1, 6, ⟨#[]⟩, q4⟩ = prs (endP S ((j : Int) + 1)).P from put_setP HQ.out (fun p => { p with state := 6, why := ⟨#[]⟩ })] at hm
            simp only [prV] at hrun
            have HK6 : Hid (KillAt w w6 tb p p' (endP S ((j : Int) + 1)) T.P.length (some ⟨g, 0, none⟩) (some ⟨g4, 0, none⟩) C cap (out ++ [(j : Int) + 1])) := Lib.hid (HK5.out.step (HK5.out.tab.store _ hm (mut_map hg)) ((mut_map hg).mono fun k hk => .inl (.inr (.inl hk))) (fun _ => .inl) rfl)
            clear hm hg hM5
            go_region
            obtain ⟨e0, e1, e2, e3, e4, e5, e6, e7, e8, ef⟩ := HK6.out.tab.cells
            clear d0 d1 d2 d3 d4 d5 d6 d7 d8 df r0 r1 r2 r3 r4 rf hrun
            by_cases hcur : (j : Int) + 1 = S.cur
            · have HS3 : Hid (offT (endP S ((j : Int) + 1)) ((j : Int) + 1) = overT (endP S ((j : Int) + 1))) := Lib.hid (if_pos hcur)
              rw [show (endP S ((j : Int) + 1)).cur = (j : Int) + 1 from hcur.symm] at e6
              clear hcur
              by_cases hix : 0 ≤ Lib.idxOf S.ready ((j : Int) + 1)
              · obtain ⟨i, hi⟩ : ∃ i : Nat, Lib.idxOf S.ready ((j : Int) + 1) = (i : Int) := ⟨(Lib.idxOf S.ready ((j : Int) + 1)).toNat, by omega⟩
                obtain ⟨m, hm⟩ : ∃ m, S.ready.length = m + 1 := ⟨S.ready.length - 1, by rcases idx_range S.ready ((j : Int) + 1) with h | h <;> omega⟩
                have him : i ≤ m := by rcases idx_range S.ready ((j : Int) + 1) with h | h <;> omega
                have HKN : Hid (kill1 S ((j : Int) + 1) = { overT (endP S ((j : Int) + 1)) with ready := S.ready.eraseIdx i }) := Lib.hid (by unfold kill1 dropI; rw [HS3.out, if_pos hix, hi, Int.toNat_natCast])
                have HLEN : Hid ((S.ready.eraseIdx i).length = m) := Lib.hid (by rw [List.length_eraseIdx, hm, if_pos (by omega)]; omega)
                have HLN := Lib.hid hm
                have HIX := Lib.hid hi
                have hm5 : m ≤ 100000 := by have := HRL.out; omega
                obtain ⟨gr, hA, _, hgr, hcap, _⟩ := own_cell HK6.out.tab.rdy 0 (by show 0 < S.ready.length; omega)
                have HA := Lib.hid hA
                have HGR := Lib.hid hgr
                have HCAP : Hid (m + 1 ≤ p'.rC) := Lib.hid (by rw [← hm]; exact hcap)
                have HIDX : Hid (∀ W, TabAt W tb p' (overT (endP S ((j : Int) + 1))) → Calls Try.prog 39 #[.slice (some ⟨gr, 0, none⟩) (m + 1) p'.rC, .int .i64 ((j : Int) + 1)] W fun e w' => e = .returned (.int .i64 (i : Int)) ∧ w' = W) := Lib.hid (fun W hW => by
                  have := idx_calls hW ((j : Int) + 1) (show S.ready.length ≤ 100000 from Nat.le_trans HRL.out hr)
                  rw [hA, show (overT (endP S ((j : Int) + 1))).ready.length = m + 1 from hm, show Lib.idxOf (overT (endP S ((j : Int) + 1))).ready ((j : Int) + 1) = (i : Int) from hi] at this
                  exact this)
                have i0 : (0 : Int) ≤ (i : Int) := by omega
                clear hix hi hm hA hgr hcap
                go_wp2_with (first
                  | (go_at_call 35; refine (over_calls _ tb p' _ HK6.out.tab).mono ?_; rintro e w7 ⟨rfl, ht, hm⟩; have HK7 := Lib.hid (HK6.out.step ht (hm.mono fun k hk => .inl (.inl hk)) (fun _ => .inl) rfl); have hsz7 := hm.size; clear ht hm e0 e1 e2 e3 e4 e5 e6 e7 e8 ef; have HSZ7 : Hid (w6.heap.size ≤ w7.heap.size) := Lib.hid hsz7; clear hsz7; obtain ⟨e0, e1, e2, e3, e4, e5, e6, e7, e8, ef⟩ := HK7.out.tab.cells; rw [HA.out, show (overT (endP S ((j : Int) + 1))).ready.length = m + 1 from HLN.out] at e5)
                  | (go_at_call 39; refine (HIDX.out _ HK7.out.tab).mono ?_; rintro e w8 ⟨rfl, rfl⟩)
                  | (go_at_call 33; refine (without_calls S.ready m i HLN.out him gr 0 p'.rC _ hm5 HCAP.out (fun j hj => rdy_cells HK7.out.tab HA.out rfl j hj) (Nat.lt_of_lt_of_le HGR.out HSZ7.out)).mono ?_; rintro e w9 ⟨rfl, ho, hb⟩; have HO9 := Lib.hid ho; have HB9 := Lib.hid hb; have HT8 := Lib.hid (HK7.out.tab.below hb); clear ho hb e0 e1 e2 e3 e4 e5 e6 e7 e8 ef; obtain ⟨e0, e1, e2, e3, e4, e5, e6, e7, e8, ef⟩ := HT8.out.cells))
                have HK9 := HK7.out.step (kill_set HT8.out HO9.out HB9.out HLEN.out HK7.out.tab.lt HK7.out.tab.sl) ((Mut.of_below HB9.out).then (Mut.setCell _ _ _ _ (.inl rfl))) (fun k hk => kill_fp k hk) rfl
                go_roundw
                case rel =>
                  refine ⟨j + 1, by omega, by go_num, ?_⟩
                  rw [← HSS.out, HN.out, HKN.out]
                  exact ⟨_, _, cap, by simp, Lib.hid HK9⟩
                case measure => simp [intOf]; omega
              · have HIX : Hid (Lib.idxOf S.ready ((j : Int) + 1) = -1) := Lib.hid (by rcases idx_range S.ready ((j : Int) + 1) with h | h; exact h; omega)
                have HKN : Hid (kill1 S ((j : Int) + 1) = overT (endP S ((j : Int) + 1))) := Lib.hid (by unfold kill1 dropI; rw [HS3.out, if_neg hix]; rfl)
                clear hix
                go_wp2_with (first
                | (go_at_call 35; refine (over_calls _ tb p' _ HK6.out.tab).mono ?_; rintro e w7 ⟨rfl, ht, hm⟩; have HK7 := Lib.hid (HK6.out.step ht (hm.mono fun k hk => .inl (.inl hk)) (fun _ => .inl) rfl); clear ht hm e0 e1 e2 e3 e4 e5 e6 e7 e8 ef; obtain ⟨e0, e1, e2, e3, e4, e5, e6, e7, e8, ef⟩ := HK7.out.tab.cells)
                | (go_at_call 39; refine (idx_calls HK7.out.tab ((j : Int) + 1) (show S.ready.length ≤ 100000 from Nat.le_trans HRL.out hr)).mono ?_; rintro e w8 ⟨rfl, rfl⟩; rw [show Lib.idxOf (overT (endP S ((j : Int) + 1))).ready ((j : Int) + 1) = -1 from HIX.out]))
                go_roundw
                case rel =>
                  refine ⟨j + 1, by omega, by go_num, ?_⟩
                  rw [← HSS.out, HN.out, HKN.out]
                  exact ⟨p', _, cap, by simp, HK7⟩
                case measure => simp [intOf]; omega
            · have HS3 : Hid (offT (endP S ((j : Int) + 1)) ((j : Int) + 1) = endP S ((j : Int) + 1)) := Lib.hid (if_neg hcur)
              have h10 : ((j : Int) + 1 == (endP S ((j : Int) + 1)).cur) = false := by simpa [endP] using hcur
              clear hcur
              by_cases hix : 0 ≤ Lib.idxOf S.ready ((j : Int) + 1)
              · obtain ⟨i, hi⟩ : ∃ i : Nat, Lib.idxOf S.ready ((j : Int) + 1) = (i : Int) := ⟨(Lib.idxOf S.ready ((j : Int) + 1)).toNat, by omega⟩
                obtain ⟨m, hm⟩ : ∃ m, S.ready.length = m + 1 := ⟨S.ready.length - 1, by rcases idx_range S.ready ((j : Int) + 1) with h | h <;> omega⟩
                have him : i ≤ m := by rcases idx_range S.ready ((j : Int) + 1) with h | h <;> omega
                have HKN : Hid (kill1 S ((j : Int) + 1) = { endP S ((j : Int) + 1) with ready := S.ready.eraseIdx i }) := Lib.hid (by unfold kill1 dropI; rw [HS3.out, if_pos hix, hi, Int.toNat_natCast])
                have HLEN : Hid ((S.ready.eraseIdx i).length = m) := Lib.hid (by rw [List.length_eraseIdx, hm, if_pos (by omega)]; omega)
                have HLN := Lib.hid hm
                have HIX := Lib.hid hi
                have hm5 : m ≤ 100000 := by have := HRL.out; omega
                obtain ⟨gr, hA, _, hgr, hcap, _⟩ := own_cell HK6.out.tab.rdy 0 (by show 0 < S.ready.length; omega)
                have HA := Lib.hid hA
                have HGR := Lib.hid hgr
                have HCAP : Hid (m + 1 ≤ p'.rC) := Lib.hid (by rw [← hm]; exact hcap)
                have HIDX : Hid (∀ W, TabAt W tb p' (endP S ((j : Int) + 1)) → Calls Try.prog 39 #[.slice (some ⟨gr, 0, none⟩) (m + 1) p'.rC, .int .i64 ((j : Int) + 1)] W fun e w' => e = .returned (.int .i64 (i : Int)) ∧ w' = W) := Lib.hid (fun W hW => by
                  have := idx_calls hW ((j : Int) + 1) (show S.ready.length ≤ 100000 from Nat.le_trans HRL.out hr)
                  rw [hA, show (endP S ((j : Int) + 1)).ready.length = m + 1 from hm, show Lib.idxOf (endP S ((j : Int) + 1)).ready ((j : Int) + 1) = (i : Int) from hi] at this
                  exact this)
                have i0 : (0 : Int) ≤ (i : Int) := by omega
                clear hix hi hm hA hgr hcap
                rw [HA.out, show (endP S ((j : Int) + 1)).ready.length = m + 1 from HLN.out] at e5
                go_wp2_with (first
                  | (go_at_call 39; refine (HIDX.out _ HK6.out.tab).mono ?_; rintro e w8 ⟨rfl, rfl⟩)
                  | (go_at_call 33; refine (without_calls S.ready m i HLN.out him gr 0 p'.rC _ hm5 HCAP.out (fun j hj => rdy_cells HK6.out.tab HA.out rfl j hj) (Nat.lt_of_lt_of_le HGR.out (Nat.le_refl _))).mono ?_; rintro e w9 ⟨rfl, ho, hb⟩; have HO9 := Lib.hid ho; have HB9 := Lib.hid hb; have HT8 := Lib.hid (HK6.out.tab.below hb); clear ho hb e0 e1 e2 e3 e4 e5 e6 e7 e8 ef; obtain ⟨e0, e1, e2, e3, e4, e5, e6, e7, e8, ef⟩ := HT8.out.cells))
                have HK9 := HK6.out.step (kill_set HT8.out HO9.out HB9.out HLEN.out HK6.out.tab.lt HK6.out.tab.sl) ((Mut.of_below HB9.out).then (Mut.setCell _ _ _ _ (.inl rfl))) (fun k hk => kill_fp k hk) rfl
                go_roundw
                case rel =>
                  refine ⟨j + 1, by omega, by go_num, ?_⟩
                  rw [← HSS.out, HN.out, HKN.out]
                  exact ⟨_, _, cap, by simp, Lib.hid HK9⟩
                case measure => simp [intOf]; omega
              · have HIX : Hid (Lib.idxOf S.ready ((j : Int) + 1) = -1) := Lib.hid (by rcases idx_range S.ready ((j : Int) + 1) with h | h; exact h; omega)
                have HKN : Hid (kill1 S ((j : Int) + 1) = endP S ((j : Int) + 1)) := Lib.hid (by unfold kill1 dropI; rw [HS3.out, if_neg hix]; rfl)
                clear hix
                go_wp2_with (first
                | (go_at_call 39; refine (idx_calls HK6.out.tab ((j : Int) + 1) (show S.ready.length ≤ 100000 from Nat.le_trans HRL.out hr)).mono ?_; rintro e w8 ⟨rfl, rfl⟩; rw [show Lib.idxOf (endP S ((j : Int) + 1)).ready ((j : Int) + 1) = -1 from HIX.out]))
                go_roundw
                case rel =>
                  refine ⟨j + 1, by omega, by go_num, ?_⟩
                  rw [← HSS.out, HN.out, HKN.out]
                  exact ⟨p', _, cap, by simp, HK6⟩
                case measure => simp [intOf]; omega
    · obtain rfl : j = T.P.length := by omega
      have HK : Hid (KillAt w wr tb p p' (killT T pid grp) T.P.length A A3 C C3 (killL T pid grp)) := hK
      have HLN : Hid ((killS T pid grp T.P.length).2.length = (killL T pid grp).length) := Lib.hid rfl
      rw [HLN.out]
      by_cases h0 : killL T pid grp = []
      · have H0 := Lib.hid h0
        have hl0 : (killL T pid grp).length = 0 := by rw [h0]; rfl
        clear h0
        go_wp2
        go_ret2
        exact kill_none HK.out H0.out
      · have H0 := Lib.hid h0
        obtain ⟨m, hm⟩ : ∃ m, (killL T pid grp).length = m := ⟨_, rfl⟩
        have HM := Lib.hid hm
        have hm0 : ¬ (m : Int) = 0 := fun e => h0 (List.eq_nil_of_length_eq_zero (by omega))
        have hm1 : ((m : Int) == 0) = false := by simpa using hm0
        have hm2 : ¬ m = 0 := by omega
        rw [hm]
        clear h0 hm
        go_wp2
        go_ret2
        exact kill_some HK.out H0.out m HM.out
end Go.Proofs.Ytnbjknjnpfmklaa
