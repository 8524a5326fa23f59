/- Texts on regular expressions, merged: X19, X20. -/
import Derived.Test.YtcajnmhbkjngbaaG09
import Derived.Lib.OthersKept
import Derived.WalkSmall
import Derived.Defers
/- Compile: what its walk goes by. -/
namespace Go.Proofs.Ytcajnmhbkjngbaa
open Go.RowKit Go.Shelf

/-- The characters of a text, with their places. -/
def scanL (s : ByteArray) : Nat → Nat → List (Nat × Int)
  | 0, _ => []
  | f + 1, i => if i < s.size then (i, ((Utf8.decode s i).1 : Int)) :: scanL s f (i + (Utf8.decode s i).2) else []
def scanS (s : ByteArray) : List (Nat × Int) := scanL s s.size 0
def charsS (s : ByteArray) : List Int := (scanS s).map (·.2)
def placesS (s : ByteArray) : List Int := (scanS s).map (fun p => (p.1 : Int)) ++ [(s.size : Int)]
theorem width_pos (s : ByteArray) (pos : Nat) (h : pos < s.size) : 1 ≤ (Utf8.decode s pos).2 := by
  by_cases h1 : (s[pos]).toNat < 128
  · rw [Go.decode_ascii s pos h h1]; exact Nat.le_refl _
  · exact (decode_high s pos h (by omega)).2
theorem decode_max (s : ByteArray) (pos : Nat) : (Utf8.decode s pos).1 ≤ 1114111 := by
  have hb : ∀ k, (s.get! (pos + k)).toNat < 256 := fun k => (s.get! (pos + k)).toNat_lt
  have h0 := hb 0; have h1 := hb 1; have h2 := hb 2; have h3 := hb 3
  have gen : ∀ b0 b1 b2 b3 : Nat, ∀ c1 c2 c3 : Bool, b0 < 256 → b1 < 256 → b2 < 256 → b3 < 256 →
    (if b0 < 0x80 then (b0, 1)
      else if b0 / 32 == 6 && c1 then (if (b0 % 32) * 64 + b1 % 64 ≥ 0x80 then ((b0 % 32) * 64 + b1 % 64, 2) else (Utf8.runeError, 1))
      else if b0 / 16 == 14 && c1 && c2 then (if (b0 % 16) * 4096 + (b1 % 64) * 64 + b2 % 64 ≥ 0x800 && Utf8.valid ((b0 % 16) * 4096 + (b1 % 64) * 64 + b2 % 64 : Nat) then ((b0 % 16) * 4096 + (b1 % 64) * 64 + b2 % 64, 3) else (Utf8.runeError, 1))
      else if b0 / 8 == 30 && c1 && c2 && c3 then (if (b0 % 8) * 262144 + (b1 % 64) * 4096 + (b2 % 64) * 64 + b3 % 64 ≥ 0x10000 && Utf8.valid ((b0 % 8) * 262144 + (b1 % 64) * 4096 + (b2 % 64) * 64 + b3 % 64 : Nat) then ((b0 % 8) * 262144 + (b1 % 64) * 4096 + (b2 % 64) * 64 + b3 % 64, 4) else (Utf8.runeError, 1))
      else (Utf8.runeError, 1)).1 ≤ 1114111 := fun b0 b1 b2 b3 c1 c2 c3 h0 h1 h2 h3 => by
    split
    · simp only; omega
    · split
      · split
        · simp only; omega
        · decide
      · split
        · split
          · simp only; omega
          · decide
        · split
          · split
            · rename_i hv
              simp only [Bool.and_eq_true, Utf8.valid, Bool.or_eq_true, decide_eq_true_eq] at hv
              simp only
              omega
            · decide
          · decide
  exact gen _ _ _ _ _ _ _ h0 h1 h2 h3
theorem scanL_len (s : ByteArray) : ∀ (f i : Nat), i + (scanL s f i).length ≤ Nat.max i s.size
  | 0, i => by simp [scanL]; exact Nat.le_max_left _ _
  | f + 1, i => by
    unfold scanL
    split
    · rename_i h
      have h1 := width_pos s i h
      have ih := scanL_len s f (i + (Utf8.decode s i).2)
      simp only [List.length_cons]
      have h2 : Nat.max i s.size = s.size := Nat.max_eq_right (by omega)
      by_cases h3 : i + (Utf8.decode s i).2 ≤ s.size
      · rw [show Nat.max (i + (Utf8.decode s i).2) s.size = s.size from Nat.max_eq_right h3] at ih; omega
      · rw [show Nat.max (i + (Utf8.decode s i).2) s.size = i + (Utf8.decode s i).2 from Nat.max_eq_left (by omega)] at ih; omega
    · simp only [List.length_nil, Nat.add_zero]; exact Nat.le_max_left _ _
theorem scanS_len (s : ByteArray) : (scanS s).length ≤ s.size := by
  have := scanL_len s s.size 0
  rw [show Nat.max 0 s.size = s.size from Nat.max_eq_right (Nat.zero_le _)] at this
  unfold scanS
  omega
theorem charsS_len (s : ByteArray) : (charsS s).length ≤ s.size := by unfold charsS; rw [List.length_map]; exact scanS_len s
theorem scanL_mem (s : ByteArray) : ∀ (f i : Nat) (p : Nat × Int), p ∈ scanL s f i → 0 ≤ p.2 ∧ p.2 ≤ 1114111
  | 0, i, p, h => by cases h
  | f + 1, i, p, h => by
    unfold scanL at h
    split at h
    · rcases List.mem_cons.1 h with rfl | h
      · have := decode_max s i; simp only; omega
      · exact scanL_mem s f _ p h
    · cases h
theorem charsS_mem (s : ByteArray) : ∀ x ∈ charsS s, 0 ≤ x ∧ x ≤ 1114111 := fun x hx => by
  obtain ⟨p, hp, rfl⟩ := List.mem_map.1 hx
  exact scanL_mem s _ _ p hp
/-- What was decoded, and what is still to be decoded. -/
def TodoD (s : ByteArray) (L : List (Nat × Int)) (pos : Nat) : Prop := ∃ f, L ++ scanL s f pos = scanS s ∧ s.size ≤ f + pos ∧ pos ≤ s.size + 4
theorem TodoD.start (s : ByteArray) : TodoD s [] 0 := ⟨s.size, rfl, Nat.le_refl _, Nat.zero_le _⟩
theorem TodoD.next {s : ByteArray} {L : List (Nat × Int)} {pos : Nat} (h : TodoD s L pos) (hp : pos < s.size) : TodoD s (L ++ [(pos, ((Utf8.decode s pos).1 : Int))]) (pos + (Utf8.decode s pos).2) := by
  obtain ⟨f, h1, h2, h3⟩ := h
  obtain ⟨f', rfl⟩ : ∃ f', f = f' + 1 := ⟨f - 1, by omega⟩
  have hw := width_pos s pos hp
  have hw4 : (Utf8.decode s pos).2 ≤ 4 := by
    unfold Utf8.decode
    simp only
    repeat' split
    all_goals simp
  refine ⟨f', ?_, by omega, by omega⟩
  rw [← h1]
  conv => rhs; unfold scanL
  rw [if_pos hp, List.append_assoc]
  rfl
theorem TodoD.done {s : ByteArray} {L : List (Nat × Int)} {pos : Nat} (h : TodoD s L pos) (hp : ¬ pos < s.size) : L = scanS s := by
  obtain ⟨f, h1, _, _⟩ := h
  rw [← h1]
  cases f with
  | zero => simp [scanL]
  | succ f => unfold scanL; rw [if_neg hp, List.append_nil]
theorem TodoD.len {s : ByteArray} {L : List (Nat × Int)} {pos : Nat} (h : TodoD s L pos) : L.length ≤ s.size := by
  obtain ⟨f, h1, _, _⟩ := h
  have h2 := scanS_len s
  rw [← h1, List.length_append] at h2
  omega
/-- While the text is decoded: the characters X and the places Y so far. -/
structure LS (wb w : World) (cb bi : Nat) (s : ByteArray) (pos : Nat) (X Y : List Int) (chA : Option Addr) (chC : Nat) (atA : Option Addr) (atC : Nat) : Prop where
  blk : w.heap[cb]? = some (.cells #[.slice chA X.length chC, .slice atA Y.length atC, .int .i64 0, .int .i64 0, .int .i64 0, .slice none 0 0] 93 (0, 0))
  ch : w.ownsRow wb.heap.size 21 1 (.slice chA X.length chC) X.length (i32s X)
  at_ : w.ownsRow wb.heap.size 3 1 (.slice atA Y.length atC) Y.length (ints Y)
  it : w.heap[bi]? = some (.stringIter s pos)
  bel : Below wb.heap.size wb w
  cl : wb.heap.size ≤ cb ∧ wb.heap.size ≤ bi
variable {wb w w1 : World} {cb bi pos : Nat} {s : ByteArray} {X Y : List Int} {chA atA : Option Addr} {chC atC : Nat}
theorem LS.move (h : LS wb w cb bi s pos X Y chA chC atA atC) (pos' : Nat) : LS wb (w.iterAt bi s pos') cb bi s pos' X Y chA chC atA atC := by
  have hm : Mut (· = bi) w (w.iterAt bi s pos') := ⟨rfl, rfl, rfl, by rw [Lib.iterAt_size]; exact Nat.le_refl _, fun k _ hn => Lib.iterAt_other w bi k s pos' hn⟩
  have hne : cb ≠ bi := fun e => by have h1 := h.blk; rw [e, h.it] at h1; cases h1
  refine ⟨(hm.block _ (lt_of_heap h.blk) hne).trans h.blk, own_mut2 h.ch hm fun a ha e => ?_, own_mut2 h.at_ hm fun a ha e => ?_, Lib.iterAt_heap w bi s pos pos' h.it, h.bel.trans (hm.to_below h.bel.size fun k hk => hk ▸ h.cl.2), h.cl⟩
  · obtain ⟨cur, hc⟩ := own_ty h.ch a ha
    rw [e, h.it] at hc; cases hc
  · obtain ⟨cur, hc⟩ := own_ty h.at_ a ha
    rw [e, h.it] at hc; cases hc
theorem LS.below (h : LS wb w cb bi s pos X Y chA chC atA atC) (hb : Below w.heap.size w w1) : LS wb w1 cb bi s pos X Y chA chC atA atC :=
  ⟨(hb.block _ (lt_of_heap h.blk)).trans h.blk, own_below h.ch hb, own_below h.at_ hb, (hb.block _ (lt_of_heap h.it)).trans h.it, h.bel.trans (hb.mono h.bel.size), h.cl⟩
theorem own_ge {w : World} {B n C size : Nat} {e : TypeId} {A : Option Addr} {xs : List Value} (h : w.ownsRow B e size (.slice A n C) n xs) : ∀ a, A = some a → B ≤ a.block := fun a ha => by
  rcases h.2 with ⟨h1, _⟩ | ⟨g, cap, cur, h1, h2, _⟩
  · injection h1 with h1; rw [ha] at h1; cases h1
  · injection h1 with h1; rw [ha] at h1; injection h1 with h1; subst h1; exact h2
/-- A character is added. -/
theorem LS.pushC (h : LS wb w cb bi s pos X Y chA chC atA atC) {x : Int} {A1 : Option Addr} {C1 : Nat} (hm : Mut (fun k => ∃ a, chA = some a ∧ a.block = k) w w1) (ho : w1.ownsRow wb.heap.size 21 1 (.slice A1 (X.length + 1) C1) (X.length + 1) (i32s X ++ [.int .i32 x])) :
    LS wb (w1.setCell ⟨cb, 0, none⟩ (.slice A1 (X.length + 1) C1)) cb bi s pos (X ++ [x]) Y A1 C1 atA atC := by
  have hty : ∀ k, (∃ a, chA = some a ∧ a.block = k) → ∃ cur, w.heap[k]? = some (.cells cur 21 (0, 0)) := fun k ⟨a, ha, e⟩ => e ▸ own_ty h.ch a ha
  have n1 : ¬ ∃ a, chA = some a ∧ a.block = cb := fun e => by obtain ⟨cur, hc⟩ := hty cb e; exact ne_ty hc h.blk (by decide) rfl
  have n2 : ¬ ∃ a, chA = some a ∧ a.block = bi := fun e => by obtain ⟨cur, hc⟩ := hty bi e; rw [h.it] at hc; cases hc
  have e1 := (hm.block _ (lt_of_heap h.blk) n1).trans h.blk
  have hs : Mut (· = cb) w1 (w1.setCell ⟨cb, 0, none⟩ (.slice A1 (X.length + 1) C1)) := Mut.setCell _ _ _ _ rfl
  have hne : bi ≠ cb := fun e => by have h1 := h.blk; rw [← e, h.it] at h1; cases h1
  have hat : w1.ownsRow wb.heap.size 3 1 (.slice atA Y.length atC) Y.length (ints Y) := own_mut2 h.at_ hm fun a ha e => by
    obtain ⟨cur, hc⟩ := own_ty h.at_ a ha
    obtain ⟨cur2, hc2⟩ := hty _ e
    exact ne_ty hc hc2 (by decide) rfl
  have ei : i32s (X ++ [x]) = i32s X ++ [.int .i32 x] := by simp [i32s]
  refine ⟨?_, ?_, own_mut2 hat hs fun a ha e => ?_, ?_, h.bel.trans ((hm.to_below h.bel.size fun k hk => ?_).trans (hs.to_below (Nat.le_trans h.bel.size hm.size) fun k hk => hk ▸ h.cl.1)), h.cl⟩
  · rw [heap_setCell_same w1 cb 0 _ _ _ e1, List.length_append]; rfl
  · rw [ei, List.length_append]
    exact own_mut2 ho hs fun a ha e => by obtain ⟨cur, hc⟩ := own_ty ho a ha; exact ne_ty hc e1 (by decide) e
  · obtain ⟨cur, hc⟩ := own_ty hat a ha; exact ne_ty hc e1 (by decide) e
  · exact (hs.block _ (Nat.lt_of_lt_of_le (lt_of_heap h.it) hm.size) hne).trans ((hm.block _ (lt_of_heap h.it) n2).trans h.it)
  · obtain ⟨a, ha, rfl⟩ := hk; exact own_ge h.ch a ha
/-- A place is added. -/
theorem LS.pushP (h : LS wb w cb bi s pos X Y chA chC atA atC) {y : Int} {A1 : Option Addr} {C1 : Nat} (hm : Mut (fun k => ∃ a, atA = some a ∧ a.block = k) w w1) (ho : w1.ownsRow wb.heap.size 3 1 (.slice A1 (Y.length + 1) C1) (Y.length + 1) (ints Y ++ [.int .i64 y])) :
    LS wb (w1.setCell ⟨cb, 1, none⟩ (.slice A1 (Y.length + 1) C1)) cb bi s pos X (Y ++ [y]) chA chC A1 C1 := by
  have hty : ∀ k, (∃ a, atA = some a ∧ a.block = k) → ∃ cur, w.heap[k]? = some (.cells cur 3 (0, 0)) := fun k ⟨a, ha, e⟩ => e ▸ own_ty h.at_ a ha
  have n1 : ¬ ∃ a, atA = some a ∧ a.block = cb := fun e => by obtain ⟨cur, hc⟩ := hty cb e; exact ne_ty hc h.blk (by decide) rfl
  have n2 : ¬ ∃ a, atA = some a ∧ a.block = bi := fun e => by obtain ⟨cur, hc⟩ := hty bi e; rw [h.it] at hc; cases hc
  have e1 := (hm.block _ (lt_of_heap h.blk) n1).trans h.blk
  have hs : Mut (· = cb) w1 (w1.setCell ⟨cb, 1, none⟩ (.slice A1 (Y.length + 1) C1)) := Mut.setCell _ _ _ _ rfl
  have hne : bi ≠ cb := fun e => by have h1 := h.blk; rw [← e, h.it] at h1; cases h1
  have hch : w1.ownsRow wb.heap.size 21 1 (.slice chA X.length chC) X.length (i32s X) := own_mut2 h.ch hm fun a ha e => by
    obtain ⟨cur, hc⟩ := own_ty h.ch a ha
    obtain ⟨cur2, hc2⟩ := hty _ e
    exact ne_ty hc hc2 (by decide) rfl
  have ei : ints (Y ++ [y]) = ints Y ++ [.int .i64 y] := by simp [ints]
  refine ⟨?_, own_mut2 hch hs fun a ha e => ?_, ?_, ?_, h.bel.trans ((hm.to_below h.bel.size fun k hk => ?_).trans (hs.to_below (Nat.le_trans h.bel.size hm.size) fun k hk => hk ▸ h.cl.1)), h.cl⟩
  · rw [heap_setCell_same w1 cb 1 _ _ _ e1, List.length_append]; rfl
  · obtain ⟨cur, hc⟩ := own_ty hch a ha; exact ne_ty hc e1 (by decide) e
  · rw [ei, List.length_append]
    exact own_mut2 ho hs fun a ha e => by obtain ⟨cur, hc⟩ := own_ty ho a ha; exact ne_ty hc e1 (by decide) e
  · exact (hs.block _ (Nat.lt_of_lt_of_le (lt_of_heap h.it) hm.size) hne).trans ((hm.block _ (lt_of_heap h.it) n2).trans h.it)
  · obtain ⟨a, ha, rfl⟩ := hk; exact own_ge h.at_ a ha
/-- The compiler at its start. -/
theorem LS.cp (h : LS wb w cb bi s pos X Y chA chC atA atC) : CpAt w cb ⟨none, 0⟩ (· = cb) X ⟨Y, chA, chC, atA, atC⟩ ⟨0, 0, 0, []⟩ where
  blk := h.blk
  chs := RdR.of_own h.ch
  plc := RdI.of_own h.at_
  own := World.ownsRow_nil _ _ _ _
  sp := fun x hx => by cases hx
  Sb := rfl
  Sc := fun a ha => by cases ha
  Slt := fun k hk => hk ▸ lt_of_heap h.blk
  nch := fun a ha => by obtain ⟨cur, hc⟩ := own_ty h.ch a ha; exact ⟨lt_of_heap hc, ne_ty hc h.blk (by decide)⟩
  nat := fun a ha => by obtain ⟨cur, hc⟩ := own_ty h.at_ a ha; exact ⟨lt_of_heap hc, ne_ty hc h.blk (by decide)⟩
  nsp := fun x hx => by cases hx
theorem info_i32 : (Try.prog.info? 21).map (fun i => (i.zero, i.size, i.bytes)) = some (some (.int .i32 0), 1, 4) := by kernel_rfl
end Go.Proofs.Ytcajnmhbkjngbaa

/- Compile: what it computes. -/
namespace Go.Proofs.Ytcajnmhbkjngbaa
open Go.RowKit Go.Shelf

/-- What Compile answers: a fault, or the expression and its size. -/
def compM (s : ByteArray) : (Int × Int) ⊕ (List Nd × Nat) :=
  if 1000 < s.size then .inl (0, 3) else match pAll (charsS s) with
    | .bad p e => .inl (((placesS s)[p]?).getD 0, e)
    | .ok l _ t => .inr (l, t)
/-- Code that can be read. -/
structure RdC (w : World) (A : Option Addr) (c : List CI) : Prop where
  rd : ∀ k x, c[k]? = some x → ∃ g, A = some ⟨g, 0, none⟩ ∧ g < w.heap.size ∧ ∀ j, j < 5 → w.cell? ⟨g, k * 5 + j, none⟩ = x.cells[j]?
  sp : ∀ x ∈ c, RdP w x.sa x.r.spans
  spn : ∀ x ∈ c, ∀ a, x.sa = some a → a.block < w.heap.size
  ty : ∀ a, A = some a → ∃ cur fr, w.heap[a.block]? = some (.cells cur 99 fr)
theorem RdC.below {w w' : World} {A : Option Addr} {c : List CI} (h : RdC w A c) (hb : Below w.heap.size w w') : RdC w' A c :=
  ⟨fun k x hk => by
    obtain ⟨g, h1, h2, h3⟩ := h.rd k x hk
    exact ⟨g, h1, Nat.lt_of_lt_of_le h2 hb.size, fun j hj => ((Mut.of_below hb).cell (S := fun _ => False) h2 fun e => e).trans (h3 j hj)⟩, fun x hx => (h.sp x hx).below hb, fun x hx a ha => Nat.lt_of_lt_of_le (h.spn x hx a ha) hb.size, fun a ha => by
    obtain ⟨cur, fr, h1⟩ := h.ty a ha
    exact ⟨cur, fr, (hb.block _ (lt_of_heap h1)).trans h1⟩⟩
/-- An expression in memory. -/
structure Rx (w : World) (rb : Nat) (s : ByteArray) (n : Nd) (t : Nat) : Prop where
  ex : ∃ A C code, w.heap[rb]? = some (.cells #[.string s, .int .i64 (t : Nat), .slice A code.length C] 101 (0, 0)) ∧ RdC w A code ∧ Auto (toIn (riL code)) n ∧ code.length ≤ 20001 ∧ NBd code code.length
theorem Rx.below {w w' : World} {rb : Nat} {s : ByteArray} {n : Nd} {t : Nat} (h : Rx w rb s n t) (hb : Below w.heap.size w w') : Rx w' rb s n t := by
  obtain ⟨A, C, code, h1, h2, h3⟩ := h.ex
  exact ⟨A, C, code, (hb.block _ (lt_of_heap h1)).trans h1, h2.below hb, h3⟩
/-- What Compile leaves. -/
def CompR (w : World) (s : ByteArray) (e : Ending) (w' : World) : Prop :=
  Below w.heap.size w w' ∧ match compM s with
    | .inl (p, c) => e = .returned (.tuple #[.pointer none, .agg #[.int .i64 p, .int .i64 c]])
    | .inr (l, t) => ∃ rb, e = .returned (.tuple #[.pointer (some ⟨rb, 0, none⟩), .agg #[.int .i64 0, .int .i64 0]]) ∧ Rx w' rb s (.alt l) t
variable {wb w w1 : World} {cb bi pos : Nat} {s : ByteArray} {X Y : List Int} {chA atA : Option Addr} {chC atC : Nat}
def LCells (w : World) (cb : Nat) (X Y : List Int) (chA : Option Addr) (chC : Nat) (atA : Option Addr) (atC : Nat) : Prop := w.cell? ⟨cb, 0, none⟩ = some (.slice chA X.length chC) ∧ w.cell? ⟨cb, 1, none⟩ = some (.slice atA Y.length atC) ∧ ∀ i, w.frozen? ⟨cb, i, none⟩ = false
theorem LS.cells (h : LS wb w cb bi s pos X Y chA chC atA atC) : LCells w cb X Y chA chC atA atC := ⟨cell_of_heap h.blk rfl, cell_of_heap h.blk rfl, fun i => frozen_of_heap h.blk i⟩
theorem LS.keepC (h : LS wb w cb bi s pos X Y chA chC atA atC) (hm : Mut (fun k => ∃ a, chA = some a ∧ a.block = k) w w1) : LCells w1 cb X Y chA chC atA atC := by
  have e1 := (hm.block _ (lt_of_heap h.blk) fun ⟨a, ha, e⟩ => by obtain ⟨cur, hc⟩ := own_ty h.ch a ha; exact ne_ty hc h.blk (by decide) e).trans h.blk
  exact ⟨cell_of_heap e1 rfl, cell_of_heap e1 rfl, fun i => frozen_of_heap e1 i⟩
theorem LS.keepP (h : LS wb w cb bi s pos X Y chA chC atA atC) (hm : Mut (fun k => ∃ a, atA = some a ∧ a.block = k) w w1) : LCells w1 cb X Y chA chC atA atC := by
  have e1 := (hm.block _ (lt_of_heap h.blk) fun ⟨a, ha, e⟩ => by obtain ⟨cur, hc⟩ := own_ty h.at_ a ha; exact ne_ty hc h.blk (by decide) e).trans h.blk
  exact ⟨cell_of_heap e1 rfl, cell_of_heap e1 rfl, fun i => frozen_of_heap e1 i⟩
def chL (L : List (Nat × Int)) : List Int := L.map (·.2)
def plL (L : List (Nat × Int)) : List Int := L.map fun p => (p.1 : Int)
theorem LS.start {w : World} {cb bi : Nat} (s : ByteArray) (h1 : w.heap.size = cb) (h2 : cb + 1 = bi) : LS w ((w.alloc (.cells #[.slice none 0 0, .slice none 0 0, .int .i64 0, .int .i64 0, .int .i64 0, .slice none 0 0] 93)).iter s 0) cb bi s 0 (chL []) (plL []) none 0 none 0 := by
  subst h1; subst h2
  generalize hv : (Obj.cells #[.slice none 0 0, .slice none 0 0, .int .i64 0, .int .i64 0, .int .i64 0, .slice none 0 0] 93) = v
  have a1 := heap_alloc_new w v
  have hz : (w.alloc v).heap.size = w.heap.size + 1 := by simp
  have b1 : Below w.heap.size w (w.alloc v) := (Below.refl _ _).alloc (Nat.le_refl _) _
  have a2 := heap_alloc_new (w.alloc v) (.stringIter s 0)
  have b2 : Below (w.alloc v).heap.size (w.alloc v) ((w.alloc v).alloc (.stringIter s 0)) := (Below.refl _ _).alloc (Nat.le_refl _) _
  rw [hz] at a2
  show LS w ((w.alloc v).alloc (.stringIter s 0)) _ _ _ _ _ _ _ _ _ _
  refine ⟨((b2.block _ (by omega)).trans a1).trans (by rw [← hv]; rfl), World.ownsRow_nil _ _ _ _, World.ownsRow_nil _ _ _ _, a2, b1.trans (b2.mono (by omega)), Nat.le_refl _, by omega⟩
theorem auto_done {c : List CI} {l : List Nd} (h : Impl (toIn (riL c)) (.alt l) 0 c.length) : Auto (toIn (riL (c ++ [ci 0 0 0]))) (.alt l) := by
  have el : (toIn (riL (c ++ [ci 0 0 0]))).length - 1 = c.length := by simp [toIn, riL]
  refine ⟨?_, ?_⟩
  · rw [el]
    refine h.congr fun k _ hk => ?_
    simp only [toIn, riL, List.map_append, List.map_map]
    rw [List.getElem?_append_left (by simpa using hk)]
  · rw [el]
    simp only [toIn, riL, List.map_append, List.map_map]
    rw [List.getElem?_append_right (by simp)]
    simp [ci, RI.to]
theorem rdc_of {w : World} {cb : Nat} {A : CA} {S : Nat → Prop} {cs : List Int} {ats : AT} {K : CS} (h : CpAt w cb A S cs ats K) : RdC w A.cd K.code := by
  refine ⟨fun k x hk => ?_, h.sp, fun x hx a ha => (h.nsp x hx a ha).1, fun a ha => by obtain ⟨cur, h1, _⟩ := h.row a ha; exact ⟨cur, _, h1⟩⟩
  have hlt := (List.getElem?_eq_some_iff.1 hk).1
  have hl := cellsL_len K.code
  obtain ⟨g, hA, _, hg, _, _⟩ := own_cell h.own (k * 5) (by omega)
  refine ⟨g, hA, hg, fun j hj => ?_⟩
  obtain ⟨g', hA', _, _, hc, _⟩ := own_cell h.own (k * 5 + j) (by omega)
  rw [hA] at hA'
  injection hA' with e
  injection e with e
  subst e
  rw [hc]; exact cellsL_get hk j hj
end Go.Proofs.Ytcajnmhbkjngbaa

