/- Texts on the heap, merged: W35, W36, W37. -/
import Derived.Test.YtodfpclekihbhaaG13
/- What Copy and Cons leave is a heap that calls have made. -/
namespace Go.Proofs.Ytodfpclekihbhaa
open Go.RowKit Go.Shelf

theorem copyW_ok {H : Hp} {k : Int} {n : Nat} (l : List Wd) : ∀ {G : Hp} {old : List Int} {i : Nat}, Inv G old.reverse → Sub H G → SeenOk G → (∃ y, Mp.get G.rows k = some y ∧ y.words.length = n) → i + l.length ≤ n → (∀ x ∈ l, x.ref = 0 ∨ Mp.get G.objs x.ref ≠ none) →
    Inv (copyW G k i l).1 (old ++ (copyW G k i l).2).reverse ∧ Sub H (copyW G k i l).1 ∧ SeenOk (copyW G k i l).1 := by
  induction l with
  | nil => intro G old i h1 h2 h3 _ _ _; exact ⟨by simpa [copyW] using h1, h2, h3⟩
  | cons x l ih =>
    intro G old i h1 h2 h3 h4 h5 h6
    obtain ⟨y, hy, hyn⟩ := h4
    have hx := h6 x (List.mem_cons_self ..)
    simp only [List.length_cons] at h5
    have hy4 : Mp.get (seeH (seeH (referH G x.ref) x.ref) (refAt G k i)).rows k = some y := by rw [seeH_rows, seeH_rows, referH_rows]; exact hy
    have hr : refAt (seeH (seeH (referH G x.ref) x.ref) (refAt G k i)) k i = refAt G k i := refAt_rows (by rw [seeH_rows, seeH_rows, referH_rows]) _ _
    have hinv : Inv (setW (seeH (seeH (referH G x.ref) x.ref) (refAt G k i)) k i x) (old ++ [refAt G k i]).reverse := by
      have := Inv.setW (w := x) (((h1.referH hx).see x.ref).see (refAt G k i)) hy4 (i := i) (by omega)
      rw [hr] at this
      simpa using this
    have s1 : SeenOk (referH G x.ref) := h3.same (referH_seen G _) (referH_last' G _)
    have s2 := s1.see (r := x.ref) (by rw [referH_last']; exact h1.ref_in hx)
    have s3 := s2.see (r := refAt G k i) (by rw [seeH_last, referH_last']; exact h1.ref_in (h1.refAt_in k i))
    have := ih (G := setW (seeH (seeH (referH G x.ref) x.ref) (refAt G k i)) k i x) (old := old ++ [refAt G k i]) (i := i + 1) hinv ((((h2.trans (Sub.refer G x.ref)).trans (Sub.see _ _)).trans (Sub.see _ _)).trans (Sub.setW _ _ _ _)) (s3.same rfl rfl) ⟨_, rows_setW _ k i x hy4, by simpa using hyn⟩ (by omega) (fun z hz => by
      refine (h6 z (List.mem_cons_of_mem _ hz)).imp id fun e => ?_
      show Mp.get (seeH (seeH (referH G x.ref) x.ref) (refAt G k i)).objs z.ref ≠ none
      rw [seeH_objs, seeH_objs]
      exact get_referH_ne _ e)
    rw [List.append_assoc] at this
    exact this
theorem Ok.copy {H : Hp} {N : Nat} (h : Ok H N) (r k x : Int) : Ok (copyH H r k x).1 N := by
  unfold copyH
  cases ho : Mp.get H.objs r with
  | none => exact h
  | some a =>
    cases hx : Mp.get H.objs x with
    | none => exact h
    | some b =>
      simp only
      split
      · exact h
      · rename_i hk
        split
        · exact h
        · rename_i hr
          split
          · exact h
          · rename_i hb
            have ka : a.kind = 2 := Classical.not_not.1 fun e => hk (.inl e)
            have kb : b.kind = 2 := Classical.not_not.1 fun e => hk (.inr e)
            have hr : a.refs = b.refs := Classical.not_not.1 hr
            obtain ⟨y, hy, _⟩ := h.inv.row r a ho
            obtain ⟨z, hz, _⟩ := h.inv.row x b hx
            obtain ⟨l1, l2, l3⟩ := (h.st.len r a y ho hy).2.1 ka
            obtain ⟨m1, m2, m3⟩ := (h.st.len x b z hx hz).2.1 kb
            have hrow : H.rowOf b.row = z.words := by unfold Hp.rowOf; rw [hz]; rfl
            rw [hrow]
            have q3 : (a.lo + k.toNat) * a.refs.length + (b.hi - b.lo) * a.refs.length ≤ a.hi * a.refs.length := by rw [← Nat.add_mul]; exact Nat.mul_le_mul_right _ (by omega)
            have hlen : ((z.words.drop (b.lo * a.refs.length)).take ((b.hi - b.lo) * a.refs.length)).length ≤ (b.hi - b.lo) * a.refs.length := List.length_take_le _ _
            obtain ⟨c1, c2, c3⟩ := copyW_ok (H := H) (k := a.row) (n := y.words.length) ((z.words.drop (b.lo * a.refs.length)).take ((b.hi - b.lo) * a.refs.length)) (G := H) (old := []) (i := (a.lo + k.toNat) * a.refs.length) (by simpa using h.inv) (Sub.refl _) h.seen ⟨y, hy, rfl⟩ (by omega) (fun v hv => by
              by_cases h0 : v.ref = 0
              · exact .inl h0
              · refine h.inv.inH_in (occ_row hz (x := v.ref) ?_)
                have hv2 : v ∈ z.words := List.mem_of_mem_drop (List.mem_of_mem_take hv)
                unfold refsOf
                exact List.mem_filter.2 ⟨List.mem_map.2 ⟨v, hv2, rfl⟩, by simpa using h0⟩)
            exact Ok.rel c1 h.st c2 c3
theorem seen_notes (ts : List Int) : ∀ {G : Hp} {st : List Int}, Inv G st → SeenOk G → (∀ x ∈ ts, x = 0 ∨ Mp.get G.objs x ≠ none) → SeenOk (ts.foldl noteH G) := by
  induction ts with
  | nil => intro G st _ h _; exact h
  | cons x ts ih =>
    intro G st hi hs hm
    have hx := hm x (List.mem_cons_self ..)
    have s1 : SeenOk (referH G x) := hs.same (referH_seen G _) (referH_last' G _)
    refine ih (G := noteH G x) ((hi.referH hx).see x) (s1.see (r := x) (by rw [referH_last']; exact hi.ref_in hx)) fun z hz => ?_
    refine (hm z (List.mem_cons_of_mem _ hz)).imp id fun e => ?_
    unfold noteH
    rw [seeH_objs]
    exact get_referH_ne _ e
theorem NI.all {H : Hp} {ts : List Int} (hi : Inv H []) (hm : ∀ x ∈ ts, x = 0 ∨ Mp.get H.objs x ≠ none) (j : Nat) (hj : j ≤ ts.length) : NI H ts j ((ts.take j).foldl noteH H) := by
  induction j with
  | zero => simpa using NI.start hi hm
  | succ j ih =>
    have h1 := (ih (by omega)).step (show j < ts.length by omega)
    have h2 := h1.eq
    rw [h2] at h1
    exact h1
theorem Ok.cons {H : Hp} {N : Nat} (h : Ok H N) (cls : Int) (refs : List Bool) (front : List Wd) (t : Int) : Ok (consH H cls refs front t).1 (N + 1) := by
  unfold consH
  split
  · exact h.mono (Nat.le_succ _)
  · rename_i h1
    split
    · exact h.mono (Nat.le_succ _)
    · rename_i h2
      split
      · exact h.mono (Nat.le_succ _)
      · rename_i h3
        split
        · exact h.mono (Nat.le_succ _)
        · rename_i h4
          split
          · exact h.mono (Nat.le_succ _)
          · rename_i h5
            have h2 : front.length = refs.length := Classical.not_not.1 h2
            have h3 : fitsAll H refs front = 0 := Classical.not_not.1 h3
            have ht : t = 0 ∨ ∃ o, Mp.get H.objs t = some o ∧ o.kind = 3 := by
              by_cases e : t = 0
              · exact .inl e
              · cases ho : Mp.get H.objs t with
                | none => exact absurd ⟨e, ho⟩ h4
                | some o =>
                  refine .inr ⟨o, rfl, Classical.not_not.1 fun ek => h5 ⟨e, ?_⟩⟩
                  rw [ho, Option.map_some]
                  intro e2; injection e2 with e2; exact ek e2
            have hm : ∀ x ∈ refsOf front ++ (if t = 0 then [] else [t]), x = 0 ∨ Mp.get H.objs x ≠ none := fun x hx => by
              rcases List.mem_append.1 hx with hx | hx
              · exact note_mem h3 h2 x hx
              · by_cases e : t = 0
                · rw [if_pos e] at hx; cases hx
                · rw [if_neg e, List.mem_singleton] at hx
                  subst hx
                  rcases ht with e2 | ⟨o, ho, _⟩
                  · exact absurd e2 e
                  · exact .inr (by rw [ho]; exact Option.some_ne_none _)
            have hts : ∀ o : Ob, o.tail = t → tailOf o = if t = 0 then [] else [t] := fun o ho => by unfold tailOf; rw [ho]
            have hse := seen_notes _ h.inv h.seen hm
            have hn := NI.all h.inv hm _ (Nat.le_refl _)
            rw [List.take_length] at hn
            have hl := hn.sub.last
            have hinv := hn.inv
            rw [List.take_length] at hinv
            have hcnt : ∀ y, (refsOf front).count y + (if t = 0 then [] else [t]).count y = (refsOf front ++ (if t = 0 then [] else [t])).reverse.count y := fun y => by rw [List.count_reverse, List.count_append]
            generalize (refsOf front ++ (if t = 0 then [] else [t])).reverse = st at *
            generalize (refsOf front ++ (if t = 0 then [] else [t])).foldl noteH H = G at *
            refine Ok.addNew hinv (h.st.sub hn.sub) hse ?_ rfl rfl ?_ rfl ?_ ?_ ?_ ?_ ⟨?_, ?_, by show refs.length ≤ 256; omega⟩ ?_ ?_
            · intro r o ho
              obtain ⟨o0, g1, _, _, g2, _⟩ := hn.sub.obj r o ho
              rw [g2, hl]
              exact h.row_le _ _ g1
            · show (H.last : Int) + 1 = _; rw [hl]
            · show false = true ↔ (3 : Int) = 2
              exact ⟨fun e => (by cases e), fun e => absurd e (by decide)⟩
            · intro e; exact absurd (show (3 : Int) = 2 from e) (by decide)
            · intro y _
              rw [hts _ rfl]
              exact hcnt y
            · show front.length ≤ 15000; omega
            · intro _ _ _; exact h2
            · intro e; exact absurd (show (3 : Int) = 2 from e) (by decide)
            · show 1 ≤ (3 : Int) ∧ (3 : Int) ≤ 7; omega
            · intro e
              have e : t ≠ 0 := e
              rcases ht with e2 | ⟨o, ho, hk⟩
              · exact absurd e2 e
              · refine ⟨rfl, ?_, fun t' ht' => ?_⟩
                · show t ≤ (G.last : Int); rw [hl]; exact (h.inv.rng t o ho).2
                · obtain ⟨o0, g1, g2, _⟩ := hn.sub.obj t t' ht'
                  rw [ho] at g1
                  injection g1 with g1
                  rw [g2, ← g1, hk]
end Go.Proofs.Ytodfpclekihbhaa

/- The other calls, as a law's walk wants them. -/
namespace Go.Proofs.Ytodfpclekihbhaa
open Go.RowKit Go.Shelf

variable {w0 w : World} {hb : Nat} {K : Nat → Prop} {H : Hp} {N : Nat}
theorem Ok.seenLen {H : Hp} {N : Nat} (h : Ok H N) (hn : (H.seen.map (·.1)).Nodup) : H.seen.length ≤ N := Nat.le_trans (length_le_of_keys hn h.seen) h.st.last
theorem Car.text (c : Car w0 hb K H w) (ok : Ok H N) (hN : N ≤ 1000) (s : ByteArray) (wide : Bool) (hs : s.size ≤ 1000000000000) :
    Calls Try.prog 28 #[.pointer (some ⟨hb, 0, none⟩), .agg #[.string s, .bool wide]] w fun e w' => e = .returned (.tuple #[.int .i64 (textH H s wide (strLen s wide)).2.1, .int .i64 (textH H s wide (strLen s wide)).2.2]) ∧ CPost w0 w hb K (textH H s wide (strLen s wide)).1 w' :=
  c.step fun _ _ hp => (text_calls hp ok.inv ok.row_le (ok.lst hN) s wide hs).mono fun _ _ ⟨h1, h2⟩ => ⟨_, h2, fun h3 => ⟨h1, h3⟩⟩
theorem Car.array (c : Car w0 hb K H w) (ok : Ok H N) (hN : N ≤ 1000) (cls : Int) {ad : Option Addr} {C : Nat} {refs : List Bool} (hr : RdB w ad C refs) (n : Int) :
    Calls Try.prog 13 #[.pointer (some ⟨hb, 0, none⟩), .agg #[.int .i64 cls, .slice ad refs.length C], .int .i64 n] w fun e w' => e = .returned (.tuple #[.int .i64 (arrayH H cls refs n).2.1, .int .i64 (arrayH H cls refs n).2.2]) ∧ CPost w0 w hb K (arrayH H cls refs n).1 w' :=
  c.step fun _ _ hp => (array_calls hp ok.inv ok.row_le (ok.lst hN) cls hr n).mono fun _ _ ⟨h1, h2⟩ => ⟨_, h2, fun h3 => ⟨h1, h3⟩⟩
theorem Car.part (c : Car w0 hb K H w) (ok : Ok H N) (hN : N ≤ 1000) (r f t : Int) :
    Calls Try.prog 14 #[.pointer (some ⟨hb, 0, none⟩), .int .i64 r, .int .i64 f, .int .i64 t] w fun e w' => e = .returned (.tuple #[.int .i64 (partH H r f t).2.1, .int .i64 (partH H r f t).2.2]) ∧ CPost w0 w hb K (partH H r f t).1 w' :=
  c.step fun _ _ hp => (part_calls hp ok.inv ok.st.len (ok.lst hN) r f t).mono fun _ _ ⟨h1, h2⟩ => ⟨_, h2, fun h3 => ⟨h1, h3⟩⟩
theorem Car.cons (c : Car w0 hb K H w) (ok : Ok H N) (hN : N ≤ 1000) (cls : Int) {ad : Option Addr} {C : Nat} {refs : List Bool} (hr : w.ownsRow 0 4 1 (.slice ad refs.length C) refs.length (refs.map Value.bool)) {fd : Option Addr} {FC : Nat} {front : List Wd} (hW : WordsAt w fd FC front) (hfl : front.length ≤ 100000000) (t : Int) :
    Calls Try.prog 30 #[.pointer (some ⟨hb, 0, none⟩), .agg #[.int .i64 cls, .slice ad refs.length C], .slice fd front.length FC, .int .i64 t] w fun e w' => e = .returned (.tuple #[.int .i64 (consH H cls refs front t).2.1, .int .i64 (consH H cls refs front t).2.2]) ∧ CPost w0 w hb K (consH H cls refs front t).1 w' :=
  c.step fun _ _ hp => (cons_calls hp cls hr ok.inv (ok.mu4 hN) ok.row_le (ok.lst hN) hW hfl t).mono fun _ _ ⟨h1, h2⟩ => ⟨_, h2, fun h3 => ⟨h1, h3⟩⟩
theorem Car.copy (c : Car w0 hb K H w) (ok : Ok H N) (hN : N ≤ 1000) (r k x : Int) :
    Calls Try.prog 15 #[.pointer (some ⟨hb, 0, none⟩), .int .i64 r, .int .i64 k, .int .i64 x] w fun e w' => e = .returned (.int .i64 (copyH H r k x).2) ∧ CPost w0 w hb K (copyH H r k x).1 w' :=
  c.step fun _ _ hp => (copy_calls hp ok.inv (ok.mu4 hN) (ok.bd hN) ok.st.len r k x).mono fun _ _ ⟨h1, h2, h3⟩ => ⟨_, Nx.same h2 h3, fun h4 => ⟨h1, h4⟩⟩
theorem Car.watch (c : Car w0 hb K H w) (on : Bool) :
    Calls Try.prog 36 #[.pointer (some ⟨hb, 0, none⟩), .bool on] w fun e w' => e = .returned (.tuple #[]) ∧ CPost w0 w hb K (watchH H on) w' :=
  c.step fun _ _ hp => (watch_calls hp on).mono fun _ _ ⟨h1, h2⟩ => ⟨_, h2, fun h3 => ⟨h1, h3⟩⟩
theorem seen_nd {A : HA} {S : Nat → Prop} (h : HpAt w hb A H S) : (H.seen.map (·.1)).Nodup := by
  cases hs : A.sb with
  | none => rw [(h.snil hs).2]; exact List.nodup_nil
  | some b => exact (h.smap b hs).nodup
theorem seen_keys (ok : Ok H N) (hN : N ≤ 1000) (hn : (H.seen.map (·.1)).Nodup) : KeysIn H.seen ∧ H.seen.length ≤ 1000000 := by
  refine ⟨fun p hp => ?_, by have := ok.seenLen hn; omega⟩
  have h1 := ok.seen p.1 p.2 (Mp.get_of_mem hn hp)
  have h2 := ok.st.last
  omega
theorem Car.seen (c : Car w0 hb K H w) (ok : Ok H N) (hN : N ≤ 1000) :
    Calls Try.prog 42 #[.pointer (some ⟨hb, 0, none⟩)] w fun e w' => ∃ LA LC, e = .returned (.slice LA (seenH H).2.length LC) ∧ w'.ownsRow w.heap.size 26 1 (.slice LA (seenH H).2.length LC) (seenH H).2.length (ints (seenH H).2) ∧ CPost w0 w hb K (seenH H).1 w' :=
  c.step fun _ _ hp => (seen_calls hp (seen_keys ok hN (seen_nd hp)).1 (seen_keys ok hN (seen_nd hp)).2).mono fun _ _ ⟨LA, LC, h1, h2, h3⟩ => ⟨_, h3, fun h4 => ⟨LA, LC, h1, h2, h4⟩⟩
end Go.Proofs.Ytodfpclekihbhaa

/- law17: shape, words, word. -/
namespace Go.Proofs.Ytodfpclekihbhaa
open Go.RowKit Go.Shelf

variable {w : World}
set_option maxHeartbeats 1000000 in
theorem shape_calls (cls : Int) {w : World} {ad : Option Addr} {C : Nat} {refs : List Bool} (h : RdB w ad C refs) (hn : refs.length ≤ 100000000) :
    Calls Try.prog 81 #[.agg #[.int .i64 cls, .slice ad refs.length C]] w fun e w' => ∃ A' C', e = .returned (.agg #[.int .i64 cls, .slice A' refs.length C']) ∧ w'.ownsRow w.heap.size 4 1 (.slice A' refs.length C') refs.length (refs.map Value.bool) ∧ Below w.heap.size w w' := by
  have H := Lib.hid h
  have HN := Lib.hid hn
  clear h hn
  go_enter Try.func81, Try.ntmps81
  go_wp2
  have HB : Hid (Below w.heap.size w ((w.alloc (.cells #[.int .i64 cls, .slice ad refs.length C] 73)).alloc (.cells #[.int .i64 0, .slice none 0 0] 32))) := Lib.hid (((Below.refl _ _).alloc (Nat.le_refl _) _).alloc (by simp) _)
  generalize hW : (w.alloc (.cells #[.int .i64 cls, .slice ad refs.length C] 73)).alloc (.cells #[.int .i64 0, .slice none 0 0] 32) = W
  obtain ⟨k0, k1⟩ : W.heap[w.heap.size]? = _ ∧ W.heap[w.heap.size + 1]? = _ := by rw [← hW]; exact heap2 w _ _
  have c0 := cell_of_heap (v := .int .i64 cls) k0 (j := 0) rfl
  have c1 := cell_of_heap (v := .slice ad refs.length C) k0 (j := 1) rfl
  have c2 := cell_of_heap (v := .int .i64 0) k1 (j := 0) rfl
  have c3 := cell_of_heap (v := .slice none 0 0) k1 (j := 1) rfl
  have hf0 := frozen_of_heap k1 0
  have hf1 := frozen_of_heap k1 1
  have hsz : w.heap.size + 1 < W.heap.size := lt_of_heap k1
  rw [hW] at HB
  clear k0 k1 hW
  go_region_with ((go_at_call 86; refine (clone_bools (H.out.below (by first | exact HB.out | exact HB.out.drew | exact HB.out.dn _)) HN.out).mono ?_; rintro e w1 ⟨A1, C1, rfl, ho, hb⟩; have HO := Lib.hid ho; clear ho; have e2 := keep3 hb c2; have e3 := keep3 hb c3; have f2 := keepf hb c2 hf0; have f3 := keepf hb c3 hf1; have g0 := keep3 hb c0; have g1 := keep3 hb c1; have HB1 := Lib.hid hb; clear hb))
  all_goals go_wp2
  all_goals
    obtain ⟨q1, q2⟩ := copied_end (by first | exact HB.out | exact HB.out.drew | exact HB.out.dn _) (by simpa using hsz) HB1.out HO.out (.int .i64 cls) (.slice A1 refs.length C1)
    exact bodyPost_ret (v := .agg #[.int .i64 cls, .slice A1 refs.length C1]) (by simp [results, Try.results81, go_sem, e2, e3]) rfl ⟨A1, C1, rfl, q1, q2⟩
/-- A slice of the reference's words that can be read. -/
def RdW (w : World) (A : Option Addr) (l : List Wd) : Prop := ∀ j (h : j < l.length), ∃ g o, A = some ⟨g, o, none⟩ ∧ g < w.heap.size ∧ w.cell? ⟨g, o + j * 2, none⟩ = some (.int .i64 (l[j]'h).num) ∧ w.cell? ⟨g, o + j * 2 + 1, none⟩ = some (.int .i64 (l[j]'h).ref)
theorem RdW.below {w w' : World} {A : Option Addr} {l : List Wd} (h : RdW w A l) (hb : Below w.heap.size w w') : RdW w' A l := fun j hj => by
  obtain ⟨g, o, h1, h2, h3, h4⟩ := h j hj
  exact ⟨g, o, h1, Nat.lt_of_lt_of_le h2 hb.size, keep3 hb h3, keep3 hb h4⟩
theorem wcs_append (a b : List Wd) : wcs (a ++ b) = wcs a ++ wcs b := by
  induction a with
  | nil => rfl
  | cons y a ih => show _ :: _ :: wcs (a ++ b) = _ :: _ :: (wcs a ++ wcs b); rw [ih]
/-- A word is appended to a slice of the call's own. -/
theorem app_word {ops : Array Oper} {rest : List Oper} {o : Oper} {a : Act} {Q : Exit → Act → World → Prop} {w : World} (hgd : o.guard = none) (s x : Operand)
    (ho : o.op = .call { callee := .builtin .append, args := #[s, x], argTypes := #[97, 97] }) (B : Nat) (A : Option Addr) (C : Nat) (xs : List Wd) (n r : Int)
    (hs : a.eval s = .slice A xs.length C) (hown : w.ownsRow B 42 2 (.slice A xs.length C) xs.length (wcs xs)) {p : Nat} (hx : a.eval x = .slice (some ⟨p, 0, none⟩) 1 1) (hp : p = w.heap.size)
    (hn : xs.length ≤ 100000000) (hB : B ≤ w.heap.size)
    (h : ∀ A1 C1 ys w', ys = xs ++ [⟨n, r⟩] → w'.ownsRow B 42 2 (.slice A1 ys.length C1) ys.length (wcs ys) → Below B w w' → wpList Try.prog ops Q rest (a.put o.dst (.slice A1 ys.length C1)) w') :
    wpList Try.prog ops Q (o :: rest) a (w.alloc (.cells #[.int .i64 n, .int .i64 r] 42)) := by
  subst hp
  obtain ⟨i0, hi, hz0, hz1, hz2⟩ := info_parts Try.infoWord
  have ba : Below w.heap.size w (w.alloc (.cells #[.int .i64 n, .int .i64 r] 42)) := (Below.refl _ _).alloc (Nat.le_refl _) _
  refine wpList_append_own_at _ hgd s x 97 ho B 42 i0 (.agg #[.int .i64 0, .int .i64 0]) 2 16 Try.underlying97 hi hz0 hz1 hz2 rfl (by decide) (.slice A xs.length C) xs.length (wcs xs) hs (hown.alloc _) ⟨w.heap.size, 0, none⟩ 1 1 [.int .i64 n, .int .i64 r] hx rfl ?c1 ?c2 ?c3 ?c4 ?c5 ?_
  case c1 => exact World.news_of_block (cs := #[.int .i64 n, .int .i64 r]) (t := 42) (fr := (0, 0)) (heap_alloc_new w _)
  case c2 => intro u hu; simp at hu; rcases hu with rfl | rfl <;> rfl
  case c3 => simp only [maxLen]; omega
  case c4 => omega
  case c5 => simp; omega
  intro v1 w1 hown1 hgrow _ _
  obtain ⟨A1, C1, rfl⟩ := own_slice hown1
  have e1 : xs.length + 1 = (xs ++ ([⟨n, r⟩] : List Wd)).length := by simp
  have e2 : wcs xs ++ [.int .i64 n, .int .i64 r] = wcs (xs ++ [⟨n, r⟩]) := (wcs_append xs [⟨n, r⟩]).symm
  rw [e1] at hown1 ⊢
  rw [e2] at hown1
  have hm : Mut (fun k => ∃ a, A = some a ∧ a.block = k) w w1 := (Mut.of_below ba).trans (Mut.of_grown (S := fun k => ∃ a, A = some a ∧ a.block = k) hgrow fun k hk => .inl (ownB hk)) fun i hi => .inl hi
  refine h A1 C1 _ w1 rfl hown1 (hm.to_below hB fun k hk => ?_)
  obtain ⟨a1, ha1, e⟩ := hk
  rw [← e]
  exact (own_blk hown a1 ha1).1
set_option maxHeartbeats 1000000 in
theorem words_calls {w : World} {ad : Option Addr} {l : List Wd} (C : Nat) (h : RdW w ad l) (hn : l.length ≤ 1000000) :
    Calls Try.prog 82 #[.slice ad l.length C] w fun e w' => ∃ A' C', e = .returned (.slice A' l.length C') ∧ w'.ownsRow w.heap.size 42 2 (.slice A' l.length C') l.length (wcs l) ∧ Below w.heap.size w w' := by
  have H := Lib.hid h
  have HN := Lib.hid hn
  clear h
  go_enter Try.func82, Try.ntmps82
  go_wp2
  go_loopw [3, 8] (fun v p wr => ∃ (j : Nat) (LA : Option Addr) (LC : Nat) (zs : List Wd), j ≤ l.length ∧ p = .int .i64 j ∧ v = .slice LA zs.length LC ∧ Hid (zs = l.take j) ∧ Hid (wr.ownsRow w.heap.size 42 2 (.slice LA zs.length LC) zs.length (wcs zs) ∧ Below w.heap.size w wr)) (fun _ i _ => l.length - (intOf i).toNat)
  case atStart => exact ⟨0, none, 0, [], Nat.zero_le _, rfl, rfl, Lib.hid rfl, Lib.hid ⟨World.ownsRow_nil _ _ _ _, Below.refl _ _⟩⟩
  case round =>
    obtain ⟨j, LA, LC, zs, hj, rfl, rfl, HZ, HR⟩ := hrel
    by_cases hlt : j < l.length
    · obtain ⟨g, o, hA, hg, c0, c1⟩ := (H.out.below HR.out.2) j hlt
      have q0 : (0 : Int) ≤ (j : Int) := by omega
      have q1 : (j : Int) < (l.length : Int) := by omega
      have HT : Hid (l.take (j + 1) = l.take j ++ [l[j]'hlt]) := Lib.hid (List.take_succ_eq_append_getElem hlt)
      have hzl : zs.length ≤ 100000000 := by rw [HZ.out, List.length_take]; omega
      rw [hA]
      clear hA
      generalize l[j]'hlt = v at *
      obtain ⟨num, ref⟩ := v
      have c0' : wr.cell? ⟨g, o + j * 2, none⟩ = some (.int .i64 num) := c0
      have c1' : wr.cell? ⟨g, o + j * 2 + 1, none⟩ = some (.int .i64 ref) := c1
      have HRA : Hid ((wr.alloc (.cells #[.int .i64 num, .int .i64 ref] 133)).ownsRow w.heap.size 42 2 (.slice LA zs.length LC) zs.length (wcs zs)) := Lib.hid (HR.out.1.alloc _)
      have HBA : Hid (Below w.heap.size w (wr.alloc (.cells #[.int .i64 num, .int .i64 ref] 133))) := Lib.hid (HR.out.2.trans ((Below.refl _ _).alloc HR.out.2.size _))
      clear c0 c1
      go_wp2_with (at_builtin; refine app_word rfl _ _ rfl w.heap.size LA LC zs num ref rfl HRA.out rfl (by simp) hzl HBA.out.size ?_
                   intro A3 C3 ys w3 hys ho hb3
                   have HR3 : Hid (w3.ownsRow w.heap.size 42 2 (.slice A3 ys.length C3) ys.length (wcs ys) ∧ Below w.heap.size w w3) := Lib.hid ⟨ho, HBA.out.trans hb3⟩
                   have HYS := Lib.hid hys
                   clear hys ho hb3)
      go_roundw
      case rel => exact ⟨j + 1, A3, C3, ys, by omega, by go_num, rfl, Lib.hid (by rw [HYS.out, HT.out, ← HZ.out]), HR3⟩
      case measure => simp [intOf]; omega
    · obtain rfl : j = l.length := by omega
      rw [List.take_length] at HZ
      clear hlt hj
      go_wp2
      go_ret
      have e := HZ.out
      subst e
      exact ⟨LA, LC, rfl, HR.out.1, HR.out.2⟩
theorem set2_below {w W : World} (h : Below w.heap.size w W) (a b : Value) : Below w.heap.size w ((W.setCell ⟨w.heap.size + 1, 0, none⟩ a).setCell ⟨w.heap.size + 1, 1, none⟩ b) :=
  h.trans (((Mut.setCell (S := (· = w.heap.size + 1)) _ _ _ _ rfl).then (Mut.setCell (S := (· = w.heap.size + 1)) _ _ _ _ rfl)).to_below h.size fun k hk => by omega)
/-- The value of a call. -/
def opV (k r x a b : Int) (tx : ByteArray) (cls : Int) (ra : Option Addr) (rn rC : Nat) (wa : Option Addr) (wn wC : Nat) (on : Bool) : Value :=
  .agg #[.int .i64 k, .int .i64 r, .int .i64 x, .int .i64 a, .int .i64 b, .string tx, .int .i64 cls, .slice ra rn rC, .slice wa wn wC, .bool on]
theorem word17_none (k r x a b : Int) (tx : ByteArray) (cls : Int) (ra : Option Addr) (rn rC : Nat) (wa : Option Addr) (wC : Nat) (on : Bool) (w : World) :
    Calls Try.prog 83 #[opV k r x a b tx cls ra rn rC wa 0 wC on] w fun e w' => e = .returned (.agg #[.int .i64 0, .int .i64 0]) ∧ Below w.heap.size w w' := by
  unfold opV
  have HB : Hid (Below w.heap.size w ((w.alloc (.cells #[.int .i64 k, .int .i64 r, .int .i64 x, .int .i64 a, .int .i64 b, .string tx, .int .i64 cls, .slice ra rn rC, .slice wa 0 wC, .bool on] 76)).alloc (.cells #[.int .i64 0, .int .i64 0] 42))) := Lib.hid (((Below.refl _ _).alloc (Nat.le_refl _) _).alloc (by simp) _)
  have k1 := (heap2 w (.cells #[.int .i64 k, .int .i64 r, .int .i64 x, .int .i64 a, .int .i64 b, .string tx, .int .i64 cls, .slice ra rn rC, .slice wa 0 wC, .bool on] 76) (.cells #[.int .i64 0, .int .i64 0] 42)).2
  have HK1 := Lib.hid k1
  clear k1
  go_enter Try.func83, Try.ntmps83
  go_wp2
  all_goals
    have e2 := cell_of_heap (v := .int .i64 0) HK1.out (j := 0) rfl
    have e3 := cell_of_heap (v := .int .i64 0) HK1.out (j := 1) rfl
    exact bodyPost_ret (v := .agg #[.int .i64 0, .int .i64 0]) (by simp [results, Try.results83, go_sem, e2, e3]) rfl ⟨rfl, HB.out⟩
set_option maxHeartbeats 1000000 in
set_option maxRecDepth 8000 in
theorem word17_some (k r x a b : Int) (tx : ByteArray) (cls : Int) (ra : Option Addr) (rn rC : Nat) (wa : Option Addr) (wC : Nat) (on : Bool) (w : World) {v : Wd} {l : List Wd} (h : RdW w wa (v :: l)) (hl : (v :: l).length ≤ 1000000) :
    Calls Try.prog 83 #[opV k r x a b tx cls ra rn rC wa (v :: l).length wC on] w fun e w' => e = .returned (.agg #[.int .i64 v.num, .int .i64 v.ref]) ∧ Below w.heap.size w w' := by
  unfold opV
  have HB : Hid (Below w.heap.size w ((w.alloc (.cells #[.int .i64 k, .int .i64 r, .int .i64 x, .int .i64 a, .int .i64 b, .string tx, .int .i64 cls, .slice ra rn rC, .slice wa (v :: l).length wC, .bool on] 76)).alloc (.cells #[.int .i64 0, .int .i64 0] 42))) := Lib.hid (((Below.refl _ _).alloc (Nat.le_refl _) _).alloc (by simp) _)
  have HC := Lib.hid (words_calls wC (h.below HB.out) hl)
  have hpos : 0 < (v :: l).length := by simp
  obtain ⟨k0, k1⟩ := heap2 w (.cells #[.int .i64 k, .int .i64 r, .int .i64 x, .int .i64 a, .int .i64 b, .string tx, .int .i64 cls, .slice ra rn rC, .slice wa (v :: l).length wC, .bool on] 76) (.cells #[.int .i64 0, .int .i64 0] 42)
  have HK0 := Lib.hid k0
  have HK1 := Lib.hid k1
  have HWC : Hid (∀ (W : World) (A' : Option Addr) (C' : Nat), W.ownsRow ((w.alloc (.cells #[.int .i64 k, .int .i64 r, .int .i64 x, .int .i64 a, .int .i64 b, .string tx, .int .i64 cls, .slice ra rn rC, .slice wa (v :: l).length wC, .bool on] 76)).alloc (.cells #[.int .i64 0, .int .i64 0] 42)).heap.size 42 2 (.slice A' (v :: l).length C') (v :: l).length (wcs (v :: l)) → ∃ g, A' = some ⟨g, 0, none⟩ ∧ g < W.heap.size ∧ (v :: l).length ≤ C' ∧ W.cell? ⟨g, 0, none⟩ = some (.int .i64 v.num) ∧ W.cell? ⟨g, 1, none⟩ = some (.int .i64 v.ref)) := Lib.hid fun W A' C' ho => by
    obtain ⟨g, h1, h2, h3, _, h5, h6⟩ := WordsAt.cell (show WordsAt W A' C' (v :: l) from ho.mono (Nat.zero_le _)) 0 (by simp)
    exact ⟨g, h1, h2, h3, by simpa using h5, by simpa using h6⟩
  clear k0 k1 h
  generalize (v :: l).length = n at *
  have k3 : (n == 0) = false := by simp; omega
  have k4 : ((n : Int) == 0) = false := by simp; omega
  have q1 : (0 : Int) < (n : Int) := by omega
  go_enter Try.func83, Try.ntmps83
  go_wp2_with (go_at_call 82; refine HC.out.mono ?_; rintro e w3 ⟨A', C', rfl, ho, hb⟩
               obtain ⟨g, rfl, hg, hC, c0, c1⟩ := HWC.out _ _ _ ho
               have e0 := keep3 hb (cell_of_heap (v := .int .i64 0) HK1.out (j := 0) rfl)
               have e1 := keep3 hb (cell_of_heap (v := .int .i64 0) HK1.out (j := 1) rfl)
               have f0 := keepf hb (cell_of_heap (v := .int .i64 0) HK1.out (j := 0) rfl) (frozen_of_heap HK1.out 0)
               have f1 := keepf hb (cell_of_heap (v := .int .i64 0) HK1.out (j := 1) rfl) (frozen_of_heap HK1.out 1)
               have HB3 := Lib.hid hb
               clear ho hb)
  all_goals exact bodyPost_ret (v := .agg #[.int .i64 v.num, .int .i64 v.ref]) (by simp [results, Try.results83, go_sem, e0, e1]) rfl ⟨rfl, set2_below (HB.out.trans (HB3.out.mono HB.out.size)) _ _⟩
end Go.Proofs.Ytodfpclekihbhaa

