/- Texts on regular expressions, merged: U6, U7. -/
import Derived.Test.YtcajnmhbkjngbaaG15
import Derived.Test.YtcajnmhbkjngbaaG02
/- The search: what its walk goes by (plain). -/
namespace Go.Proofs.Ytcajnmhbkjngbaa
open Go.RowKit Go.Shelf

section
variable {c : List In} {bg fn : Bool} {st : Nat → Option Int} {fr fr' : List Int} {ord ord' : List Nat} {ker : List Nat}
/-- Threads when some of the kernel has been added. -/
structure Pha (c : List In) (bg fn : Bool) (st : Nat → Option Int) (ker : List Nat) (fr : List Int) (ord : List Nat) : Prop where
  thr : Thr c bg fn fr ord
  new : ∀ p v, fr[p]? = some v → 0 ≤ v → ∃ q ∈ ker, st q = some v ∧ Eps c bg fn q p
  cov : ∀ q ∈ ker, ∀ v, st q = some v → Cov fr q v
theorem rep_neg {n p : Nat} {v : Int} (h : (List.replicate n (-1 : Int))[p]? = some v) : v = -1 := by
  rw [List.getElem?_replicate] at h
  split at h
  · injection h with h; exact h.symm
  · cases h
theorem Pha.start : Pha c bg fn st [] (List.replicate c.length (-1)) [] where
  thr := ⟨by simp, fun p v h h0 => by have := rep_neg h; omega, fun p => ⟨fun h => (by cases h), fun ⟨v, h1, h2, _⟩ => by have := rep_neg h1; omega⟩, List.nodup_nil⟩
  new := fun p v h h0 => by have := rep_neg h; omega
  cov := fun q h => by cases h
theorem Pha.step (h : Pha c bg fn st ker fr ord) {at0 : Nat} {s : Int} (ha : Adg c bg fn fr s at0 fr' ord' []) (hs : st at0 = some s) : Pha c bg fn st (ker ++ [at0]) fr' ord' where
  thr := ha.done.1
  new := fun p v h1 h2 => by
    rcases ha.new p v h1 h2 with e | ⟨rfl, e⟩
    · obtain ⟨q, hq, e1, e2⟩ := h.new p v e h2
      exact ⟨q, List.mem_append_left _ hq, e1, e2⟩
    · exact ⟨at0, by simp, hs, e⟩
  cov := fun q hq v hv => by
    rcases List.mem_append.1 hq with hq | hq
    · obtain ⟨u, h1, h2, h3⟩ := h.cov q hq v hv
      exact (ha.mono q u h1 h2).mono h3
    · rw [List.mem_singleton] at hq
      subst hq
      rw [hs] at hv
      injection hv with hv
      subst hv
      exact ha.done.2
variable {l : List Int} {n : Nd} {lo i : Nat} {here : Bool} {b : Int} {m : Option (Nat × Nat)}
/-- Without the beginning. -/
theorem Pha.thd0 (h : Pha c (begL l i) (finL l i) st ker fr ord) (hk : Ker c l lo here b i ker st) (hb : Bst l n lo here b i m) (hno : ¬ (b < 0 ∧ From0 lo here i)) : Thd c l lo here b i fr :=
  Thd.of hk hb h.thr (fun p v h1 h2 => .inl (h.new p v h1 h2)) h.cov fun h1 h2 => absurd ⟨h1, h2⟩ hno
/-- With the beginning. -/
theorem Pha.thd1 (h : Pha c (begL l i) (finL l i) st ker fr ord) (hk : Ker c l lo here b i ker st) (hb : Bst l n lo here b i m) (ha : Adg c (begL l i) (finL l i) fr (i : Nat) 0 fr' ord' []) (hb0 : b < 0) (hf : From0 lo here i) : Thd c l lo here b i fr' :=
  Thd.of hk hb ha.done.1 (fun p v h1 h2 => by
    rcases ha.new p v h1 h2 with e | ⟨rfl, e⟩
    · exact .inl (h.new p v e h2)
    · exact .inr ⟨rfl, hb0, hf, e⟩) (fun q hq v hv => by
    obtain ⟨u, h1, h2, h3⟩ := h.cov q hq v hv
    exact (ha.mono q u h1 h2).mono h3) fun _ _ => ha.done.2
/-- The kernel behind a character, when some of the threads have been looked at. -/
structure Phk (c : List In) (fr : List Int) (x b : Int) (done : List Nat) (ker : List Nat) (L : List (Int × Int)) : Prop where
  h1 : ∀ p ∈ ker, ∃ q v s, q ∈ done ∧ p = q + 1 ∧ fr[q]? = some v ∧ 0 ≤ v ∧ c[q]? = some (.take s) ∧ s.has x = true ∧ Mp.get L (p : Int) = some v
  h2 : ∀ q ∈ done, ∀ v s, fr[q]? = some v → 0 ≤ v → c[q]? = some (.take s) → s.has x = true → (b < 0 ∨ v ≤ b) → q + 1 ∈ ker ∧ Mp.get L ((q + 1 : Nat) : Int) = some v
  h3 : ∀ p : Int, Mp.get L p ≠ none → ∃ q ∈ done, p = ((q + 1 : Nat) : Int)
  len : ker.length ≤ done.length
variable {x : Int} {done : List Nat} {L : List (Int × Int)}
theorem Phk.start : Phk c fr x b [] [] [] := ⟨fun p h => (by cases h), fun q h => (by cases h), fun p h => absurd (Mp.get_nil p) h, Nat.le_refl _⟩
theorem Phk.no (h : Phk c fr x b done ker L) {k : Nat} (hn : ∀ v s, fr[k]? = some v → c[k]? = some (.take s) → s.has x = true → ¬ (b < 0 ∨ v ≤ b)) : Phk c fr x b (done ++ [k]) ker L where
  h1 := fun p hp => by
    obtain ⟨q, v, s, e0, e⟩ := h.h1 p hp
    exact ⟨q, v, s, List.mem_append_left _ e0, e⟩
  h2 := fun q hq v s e1 e2 e3 e4 e5 => by
    rcases List.mem_append.1 hq with hq | hq
    · exact h.h2 q hq v s e1 e2 e3 e4 e5
    · rw [List.mem_singleton] at hq; subst hq; exact absurd e5 (hn v s e1 e3 e4)
  h3 := fun p hp => by
    obtain ⟨q, e0, e⟩ := h.h3 p hp
    exact ⟨q, List.mem_append_left _ e0, e⟩
  len := by rw [List.length_append]; have := h.len; omega
/-- A thread's instruction is not yet among the keys. -/
theorem Phk.fresh (h : Phk c fr x b done ker L) {k : Nat} (hk : k ∉ done) : Mp.get L ((k + 1 : Nat) : Int) = none := by
  cases hg : Mp.get L ((k + 1 : Nat) : Int) with
  | none => rfl
  | some a =>
    obtain ⟨q, hq, e⟩ := h.h3 _ (by rw [hg]; simp)
    have : k = q := by omega
    exact absurd (this ▸ hq) hk
theorem Phk.yes (h : Phk c fr x b done ker L) {k : Nat} {v : Int} {s : CSet} (hk : k ∉ done) (h1 : fr[k]? = some v) (h2 : 0 ≤ v) (h3 : c[k]? = some (.take s)) (h4 : s.has x = true) : Phk c fr x b (done ++ [k]) (ker ++ [k + 1]) (Mp.put L ((k + 1 : Nat) : Int) v) where
  h1 := fun p hp => by
    rcases List.mem_append.1 hp with hp | hp
    · obtain ⟨q, u, t, e0, e1, e2, e3, e4, e5, e6⟩ := h.h1 p hp
      refine ⟨q, u, t, List.mem_append_left _ e0, e1, e2, e3, e4, e5, ?_⟩
      rw [Mp.get_put, if_neg (fun e => ?_)]
      · exact e6
      · have : q = k := by omega
        exact hk (this ▸ e0)
    · rw [List.mem_singleton] at hp
      subst hp
      exact ⟨k, v, s, by simp, rfl, h1, h2, h3, h4, by rw [Mp.get_put, if_pos rfl]⟩
  h2 := fun q hq u t e1 e2 e3 e4 e5 => by
    rcases List.mem_append.1 hq with hq | hq
    · obtain ⟨f1, f2⟩ := h.h2 q hq u t e1 e2 e3 e4 e5
      refine ⟨List.mem_append_left _ f1, ?_⟩
      rw [Mp.get_put, if_neg (fun e => ?_)]
      · exact f2
      · have : q = k := by omega
        exact hk (this ▸ hq)
    · rw [List.mem_singleton] at hq
      subst hq
      rw [h1] at e1
      injection e1 with e1
      subst e1
      exact ⟨by simp, by rw [Mp.get_put, if_pos rfl]⟩
  h3 := fun p hp => by
    rw [Mp.get_put] at hp
    by_cases e : p = ((k + 1 : Nat) : Int)
    · exact ⟨k, by simp, e⟩
    · rw [if_neg e] at hp
      obtain ⟨q, e0, e1⟩ := h.h3 p hp
      exact ⟨q, List.mem_append_left _ e0, e1⟩
  len := by rw [List.length_append, List.length_append]; have := h.len; simp; omega
/-- The kernel behind a character. -/
theorem Phk.kern (h : Phk c fr x b ord ker L) (ha : Auto c n) {b0 : Int} (ht : Thd c l lo here b0 i fr) (hb' : b0 < 0 ∨ b ≤ b0) (hb0 : b < 0 → b0 < 0) (hx : l[i]? = some x) (hoi : ∀ p, p ∈ ord ↔ Cov fr p (fr.getD p 0)) : Ker c l lo here b (i + 1) ker (fun p => Mp.get L (p : Int)) :=
  Thd.kerN (fun p s hp => ha.next hp) ht hb' hb0 hx (fun p hp => by
    obtain ⟨q, v, s, _, e⟩ := h.h1 p hp
    exact ⟨q, v, s, e⟩) fun q v s e1 e2 e3 e4 e5 => h.h2 q ((hoi q).2 (cov_self.2 ⟨v, e1, e2⟩)) v s e1 e2 e3 e4 e5
end
end Go.Proofs.Ytcajnmhbkjngbaa

/- The search: its memory. -/
namespace Go.Proofs.Ytcajnmhbkjngbaa
open Go.RowKit Go.Shelf
set_option maxRecDepth 100000

def kV (i : Int) : Value := .int .i64 i
theorem kV_key (x : Int) : MapKept.IsKey (.int .i64) (kV x) := rfl
theorem kV_inj (x y : Int) (h : kV x = kV y) : x = y := by injection h
abbrev MpI (w : World) (b : Nat) (L : List (Int × Int)) : Prop := Mp.MapIs w b kV (Value.int .i64) L
theorem lookI_run {w : World} {b : Nat} {L : List (Int × Int)} (hmap : MpI w b L) (x v : Int) (hx : Mp.get L x = some v) : (Instr.lookup 126 (.map (some b)) (.int .i64 x) false).run Try.prog w = .ok (.int .i64 v) w := by
  have := hmap.lookup (P := Try.prog) (z := .int .i64 0) Try.underlying126 Try.underlying3 kV_key kV_inj (by kernel_rfl) x
  rw [show (Value.int IntKind.i64 x) = kV x from rfl, this, hx]
  rfl
theorem lookN_run {w : World} {b : Nat} {L : List (Int × Int)} (hmap : MpI w b L) (x : Int) (hx : Mp.get L x = none) : (Instr.lookup 126 (.map (some b)) (.int .i64 x) true).run Try.prog w = .ok (.tuple #[.int .i64 0, .bool false]) w := by
  have := hmap.lookup_ok (P := Try.prog) (z := .int .i64 0) Try.underlying126 Try.underlying3 kV_key kV_inj (by kernel_rfl) x
  rw [show (Value.int IntKind.i64 x) = kV x from rfl, this, hx]
  rfl
theorem updI_run {w : World} {b : Nat} {L : List (Int × Int)} (hmap : MpI w b L) (k q : Int) : ∃ w', (Instr.mapUpdate 126 (.map (some b)) (.int .i64 k) (.int .i64 q)).run Try.prog w = .ok () w' ∧ MpI w' b (Mp.put L k q) ∧ Mut (· = b) w w' := by
  obtain ⟨o, h1, h2⟩ := hmap.update (P := Try.prog) Try.underlying126 Try.underlying3 kV_key kV_inj k q
  exact ⟨_, h1, h2, ⟨rfl, rfl, rfl, by rw [Mp.size_setB]; exact Nat.le_refl _, fun j _ hj => Mp.heap_setB_ne _ _ _ _ hj⟩⟩
/-- The search at a place: the expression, the string, the kernel and the beginnings. -/
structure SeS (B : Nat) (w : World) (rb : Nat) (s : ByteArray) (t : Nat) (A : Option Addr) (C : Nat) (code : List CI) (bx : Nat) (str : Array Value) (kA : Option Addr) (kC : Nat) (ker : List Nat) (mb : Nat) (L : List (Int × Int)) : Prop where
  rx : RxO w rb s t A C code
  sb : w.heap[bx]? = some (.cells str 39 (0, 0))
  kn : w.ownsRow B 3 1 (.slice kA ker.length kC) ker.length (ints (nats ker))
  mp : MpI w mb L
  le : B ≤ bx ∧ B ≤ mb
variable {B rb t C bx kC mb : Nat} {w w' : World} {s : ByteArray} {A kA : Option Addr} {code : List CI} {str : Array Value} {ker : List Nat} {L : List (Int × Int)}
theorem SeS.below (h : SeS B w rb s t A C code bx str kA kC ker mb L) (hb : Below w.heap.size w w') : SeS B w' rb s t A C code bx str kA kC ker mb L :=
  ⟨h.rx.below hb, (hb.block _ (lt_of_heap h.sb)).trans h.sb, own_below h.kn hb, h.mp.of_block (hb.block _ h.mp.lt), h.le⟩
/-- Other blocks are written: those that the closure has captured. -/
theorem RxO.mut {T : Nat → Prop} (h : RxO w rb s t A C code) (hm : Mut T w w') (hT : ∀ k, T k → ∃ cur, w.heap[k]? = some (.cells cur 4 (0, 0)) ∨ w.heap[k]? = some (.cells cur 43 (0, 0))) : RxO w' rb s t A C code := by
  have hn : ∀ {k : Nat} {cur : Array Value} {ty : TypeId} {fr : Nat × Nat}, w.heap[k]? = some (.cells cur ty fr) → ty ≠ 4 → ty ≠ 43 → ¬ T k := fun hk h1 h2 e => by
    obtain ⟨c, e1 | e1⟩ := hT _ e
    · rw [e1] at hk; injection hk with hk; injection hk with _ hk _; exact h1 hk.symm
    · rw [e1] at hk; injection hk with hk; injection hk with _ hk _; exact h2 hk.symm
  exact ⟨(hm.block _ (lt_of_heap h.blk) (hn h.blk (by decide) (by decide))).trans h.blk, h.rdc.mut hm (fun a ha => by obtain ⟨cur, fr, h1⟩ := h.rdc.ty a ha; exact hn h1 (by decide) (by decide)) fun x hx a ha => by obtain ⟨cur, fr, h1⟩ := (h.rdc.sp x hx).ty a ha; exact hn h1 (by decide) (by decide), h.small, h.nb⟩
theorem SeS.mut {T : Nat → Prop} (h : SeS B w rb s t A C code bx str kA kC ker mb L) (hm : Mut T w w') (hlt : ∀ k, T k → k < B) (hrx : RxO w' rb s t A C code) : SeS B w' rb s t A C code bx str kA kC ker mb L :=
  ⟨hrx, (hm.block _ (lt_of_heap h.sb) fun e => by have := hlt _ e; have := h.le.1; omega).trans h.sb, own_mut2 h.kn hm fun a ha e => by have := hlt _ e; have := own_ge h.kn a ha; omega, h.mp.of_block (hm.block _ h.mp.lt fun e => by have := hlt _ e; have := h.le.2; omega), h.le⟩
theorem ThAt.mut {T : Nat → Prop} {D tb oC fC : Nat} {oA fA : Option Addr} {ord : List Nat} {fr : List Int} (h : ThAt D w tb oA oC fA fC ord fr) (hm : Mut T w w') (hlt : ∀ k, T k → k < D) : ThAt D w' tb oA oC fA fC ord fr :=
  ⟨(hm.block _ (lt_of_heap h.blk) fun e => by have := hlt _ e; have := h.le; omega).trans h.blk, own_mut2 h.o hm fun a ha e => by have := hlt _ e; have := own_ge h.o a ha; omega, own_mut2 h.f hm fun a ha e => by have := hlt _ e; have := own_ge h.f a ha; omega, h.ne, h.le⟩
theorem mp_not_own {w : World} {b : Nat} {L : List (Int × Int)} (h : MpI w b L) {B n C size : Nat} {e : TypeId} {A : Option Addr} {xs : List Value} (ho : w.ownsRow B e size (.slice A n C) n xs) : ∀ a, A = some a → a.block ≠ b := fun a ha hab => by
  obtain ⟨cur, hc⟩ := own_ty ho a ha
  obtain ⟨es, clk, h1, _⟩ := h
  rw [hab, h1] at hc
  injection hc with hc
  cases hc
theorem nodup_take {l : List Nat} (h : l.Nodup) {j : Nat} (hj : j < l.length) : l[j] ∉ l.take j := fun hm => by
  have h1 : l.take (j + 1) = l.take j ++ [l[j]] := List.take_succ_eq_append_getElem hj
  have h2 : (l.take (j + 1)).Nodup := h.sublist (List.take_sublist _ _)
  rw [h1, List.nodup_append] at h2
  exact h2.2.2 _ hm _ (by simp) rfl
/-- A closure that is told of matches. -/
structure Clo (fn : FuncId) (caps : List Value) (B : Nat) (I : World → Option (Nat × Nat) → Prop) (T : Nat → Prop) : Prop where
  below : ∀ {w w' m}, I w m → Below w.heap.size w w' → I w' m
  lt : ∀ k, T k → k < B
  ty : ∀ {w m}, I w m → ∀ k, T k → ∃ cur, w.heap[k]? = some (.cells cur 4 (0, 0)) ∨ w.heap[k]? = some (.cells cur 43 (0, 0))
  call : ∀ {w m} (k i : Nat), I w m → k ≤ 1000000 → i ≤ 1000000 → Calls Try.prog fn (.agg #[.int .i64 (k : Nat), .int .i64 (i : Nat)] :: caps).toArray w fun e w' => e = .returned (.bool true) ∧ I w' (some (k, i)) ∧ Mut T w w'
/-- Whether the beginning is added. -/
def BegIs (beg : Bool) (b : Int) (lo : Nat) (here : Bool) (i : Nat) : Prop := beg = true ↔ (b < 0 ∧ From0 lo here i)
/-- Whether a better match is there. -/
def YesIs (yes : Bool) (kv b : Int) : Prop := yes = true ↔ (0 ≤ kv ∧ (b < 0 ∨ kv ≤ b))
theorem own_weak {w : World} {B B' n size : Nat} {e : TypeId} {v : Value} {xs : List Value} (h : w.ownsRow B e size v n xs) (hB : B' ≤ B) : w.ownsRow B' e size v n xs :=
  ⟨h.1, h.2.imp id fun ⟨g, cap, cur, h1, h2, h3⟩ => ⟨g, cap, cur, h1, Nat.le_trans hB h2, h3⟩⟩
theorem atM_in {l : List Int} {i : Nat} (h : i < l.length) : atM l (i : Int) = (l[i], 0) := by
  unfold atM
  rw [if_pos ⟨by omega, by omega⟩]
  simp [List.getD_eq_getElem?_getD, h]
theorem atM_out {l : List Int} {i : Nat} (h : ¬ i < l.length) : atM l (i : Int) = (0, 11) := by
  unfold atM
  rw [if_neg (by omega)]
end Go.Proofs.Ytcajnmhbkjngbaa

