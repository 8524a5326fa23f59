/- Texts on regular expressions, merged: X14, X15. -/
import Derived.Test.YtcajnmhbkjngbaaG07
import Derived.Deep.LoopGhost
/- The compiler's branch: what its walk goes by. -/
namespace Go.Proofs.Ytcajnmhbkjngbaa
open Go.RowKit Go.Shelf
variable {w w' : World} {cb : Nat} {A : CA} {S : Nat → Prop} {cs : List Int} {ats : AT} {K : CS}

/-- The nodes that were read, ahead of those that follow. -/
def preR (ns : List Nd) : Res → Res
  | .ok ms k u => .ok (ns ++ ms) k u
  | .bad p e => .bad p e
theorem preR_nil (r : Res) : preR [] r = r := by cases r <;> rfl
/-- An operator stands there. -/
def isOp (cs : List Int) (j : Nat) : Bool := decide (cs[j]? = some 42 ∨ cs[j]? = some 43 ∨ cs[j]? = some 63)
def opS : ByteArray := ⟨#[42, 43, 63]⟩
theorem opS_asc : Asc opS := by
  intro b hb
  simp [opS] at hb
  rcases hb with rfl | rfl | rfl <;> decide
theorem hasR_op {cs : List Int} {j : Nat} {c : Int} (hc : cs[j]? = some c) (h0 : 0 ≤ c) : hasR opS c = isOp cs j := by
  unfold hasR isOp
  rw [hc]
  have e : opS.data.toList = [42, 43, 63] := rfl
  rw [e]
  by_cases h1 : c < 128
  · have hu : ∀ n : Nat, n < 256 → ((UInt8.ofNat n == c.toNat.toUInt8) = decide (c = (n : Int))) := fun n hn => by
      rw [Bool.eq_iff_iff, beq_iff_eq, decide_eq_true_eq]
      constructor
      · intro e
        have := congrArg UInt8.toNat e
        simp at this
        omega
      · intro e
        subst e
        simp
    have h42 := hu 42 (by decide)
    have h43 := hu 43 (by decide)
    have h63 := hu 63 (by decide)
    unfold Lib.indexByte Lib.indexByte Lib.indexByte Lib.indexByte
    rw [show (42 : UInt8) = UInt8.ofNat 42 from rfl, show (43 : UInt8) = UInt8.ofNat 43 from rfl, show (63 : UInt8) = UInt8.ofNat 63 from rfl, h42, h43, h63]
    by_cases a1 : c = 42
    · subst a1; simp
    · by_cases a2 : c = 43
      · subst a2; simp
      · by_cases a3 : c = 63
        · subst a3; simp
        · simp [a1, a2, a3]
  · have a1 : c ≠ 42 := by omega
    have a2 : c ≠ 43 := by omega
    have a3 : c ≠ 63 := by omega
    simp [h1, a1, a2, a3]
/-- While a branch is read. -/
structure BS (w : World) (cb : Nat) (S : Nat → Prop) (cs : List Int) (ats : AT) (K : CS) (wr : World) (A' : CA) (S' : Nat → Prop) (i t : Nat) (c : List CI) : Prop where
  cp : CpAt wr cb A' S' cs ats ⟨i, K.d, t, c⟩
  mm : Mut S w wr
  sub : ∀ k, S' k → S k ∨ w.heap.size ≤ k
  ext : Ext K.code c
  good : Good ⟨i, K.d, t, c⟩ cs.length
variable {wr w1 : World} {A' : CA} {S' : Nat → Prop} {i t : Nat} {c : List CI}
theorem BS.below (h : BS w cb S cs ats K wr A' S' i t c) (hb : Below wr.heap.size wr w1) : BS w cb S cs ats K w1 A' S' i t c := ⟨h.cp.below hb, h.mm.then (Mut.of_below hb), h.sub, h.ext, h.good⟩
/-- A call has gone on. -/
theorem BS.step (h : BS w cb S cs ats K wr A' S' i t c) {i' t' : Nat} {c' : List CI} (hp : CPo wr cb S' cs ats ⟨i', K.d, t', c'⟩ w1) (he : Ext K.code c') (hg : Good ⟨i', K.d, t', c'⟩ cs.length) : ∃ A2 S2, BS w cb S cs ats K w1 A2 S2 i' t' c' := by
  obtain ⟨A2, S2, h1, h2, h3⟩ := hp
  refine ⟨A2, S2, h1, h.mm.trans h2 h.sub, fun k hk => ?_, he, hg⟩
  rcases h3 k hk with e | e
  · exact h.sub k e
  · exact .inr (Nat.le_trans h.mm.size e)
theorem BS.cpo (h : BS w cb S cs ats K wr A' S' i t c) : CPo w cb S cs ats ⟨i, K.d, t, c⟩ wr := ⟨A', S', h.cp, h.mm, h.sub⟩
/-- What is still to be read of a branch. -/
def TodoB (cs : List Int) (R : Res) (d : Nat) (ns : List Nd) (f i t : Nat) : Prop := preR ns (pBranch cs f i d t) = R ∧ R ≠ .bad 0 0
variable {R : Res} {d f : Nat} {ns : List Nd}
theorem TodoB.pos (h : TodoB cs R d ns f i t) : ∃ f', f = f' + 1 := by
  cases f with
  | zero => exact absurd (h.1.symm.trans (show preR ns (pBranch cs 0 i d t) = .bad 0 0 by rw [pBranch]; rfl)) h.2
  | succ f => exact ⟨f, rfl⟩
theorem TodoB.stop (h : TodoB cs R d ns f i t) (hi : cs[i]? = none ∨ cs[i]? = some 124 ∨ (cs[i]? = some 41 ∧ d ≠ 0)) : R = .ok ns i t := by
  obtain ⟨f', rfl⟩ := h.pos
  have h1 := h.1
  rw [pBranch] at h1
  rcases hi with hi | hi | ⟨hi, hd⟩
  · rw [hi] at h1; simp only [preR, List.append_nil] at h1; exact h1.symm
  · rw [hi] at h1; simp only [if_pos, preR, List.append_nil] at h1; exact h1.symm
  · rw [hi] at h1
    simp only [if_neg (show ¬ (41 : Int) = 124 by decide), if_pos, if_neg hd, preR, List.append_nil] at h1
    exact h1.symm
theorem TodoB.bad (h : TodoB cs R d ns f i t) {x : Int} (hi : cs[i]? = some x) (hx : (x = 41 ∧ d = 0) ∨ x = 42 ∨ x = 43 ∨ x = 63 ∨ x = 93) : R = .bad i 9 := by
  obtain ⟨f', rfl⟩ := h.pos
  have h1 := h.1
  rw [pBranch, hi] at h1
  simp only at h1
  rcases hx with ⟨rfl, hd⟩ | hx
  · rw [if_neg (by decide), if_pos rfl, if_pos hd] at h1
    exact h1.symm
  · rw [if_neg (by omega), if_neg (by omega), if_pos hx] at h1
    exact h1.symm
/-- An atom stands there. -/
def isAtom (x : Int) : Prop := x ≠ 124 ∧ x ≠ 41 ∧ x ≠ 42 ∧ x ≠ 43 ∧ x ≠ 63 ∧ x ≠ 93
theorem TodoB.atomBad (h : TodoB cs R d ns (f + 1) i t) {x : Int} (hi : cs[i]? = some x) (hx : isAtom x) {p : Nat} {e : Int} (ha : pAtom cs f i d t = .bad p e) : R = .bad p e := by
  have h1 := h.1
  obtain ⟨a, b, c, d', e', g⟩ := hx
  rw [pBranch, hi] at h1
  simp only at h1
  rw [if_neg a, if_neg b, if_neg (by omega), ha] at h1
  exact h1.symm
theorem TodoB.atomNe (h : TodoB cs R d ns (f + 1) i t) {x : Int} (hi : cs[i]? = some x) (hx : isAtom x) : pAtom cs f i d t ≠ .bad 0 0 := fun e => h.2 (h.atomBad hi hx e)
theorem TodoB.atomOk (h : TodoB cs R d ns (f + 1) i t) {x : Int} (hi : cs[i]? = some x) (hx : isAtom x) {l : List Nd} {j u : Nat} (ha : pAtom cs f i d t = .ok l j u) : TodoB cs R d (ns ++ [(pReps cs (cs.length - j) j (hd1 l)).1]) f (pReps cs (cs.length - j) j (hd1 l)).2 u := by
  have h1 := h.1
  obtain ⟨a, b, c, d', e', g⟩ := hx
  rw [pBranch, hi] at h1
  simp only at h1
  rw [if_neg a, if_neg b, if_neg (by omega), ha] at h1
  refine ⟨?_, h.2⟩
  rw [← h1]
  show preR _ _ = preR _ (match pBranch cs f (pReps cs (cs.length - j) j (hd1 l)).2 d u with
          | .bad p e => .bad p e
          | .ok ms k u => .ok ((pReps cs (cs.length - j) j (hd1 l)).1 :: ms) k u)
  cases pBranch cs f (pReps cs (cs.length - j) j (hd1 l)).2 d u with
  | bad p e => rfl
  | ok ms k u => simp [preR]
/-- What is still to be read of operators. -/
def TodoO (cs : List Int) (N : Nd × Nat) (g j : Nat) (n : Nd) : Prop := pReps cs g j n = N ∧ cs.length - j ≤ g ∧ j ≤ cs.length
theorem TodoO.stop {N : Nd × Nat} {g j : Nat} {n : Nd} (h : TodoO cs N g j n) (hj : isOp cs j = false) : N = (n, j) := by
  have h1 := of_decide_eq_false hj
  obtain ⟨h2, h3, h4⟩ := h
  cases g with
  | zero => exact h2.symm
  | succ g =>
    unfold pReps at h2
    rw [if_neg (fun e => h1 (.inl e)), if_neg (fun e => h1 (.inr (.inl e))), if_neg (fun e => h1 (.inr (.inr e)))] at h2
    exact h2.symm
theorem TodoO.op {N : Nd × Nat} {g j : Nat} {n : Nd} (h : TodoO cs N g j n) {x : Int} (hx : cs[j]? = some x) (hop : x = 42 ∨ x = 43 ∨ x = 63) : ∃ g', TodoO cs N g' (j + 1) (repN x n) := by
  obtain ⟨h2, h3, h4⟩ := h
  have hj := (List.getElem?_eq_some_iff.1 hx).1
  obtain ⟨g', rfl⟩ : ∃ g', g = g' + 1 := ⟨g - 1, by omega⟩
  refine ⟨g', ?_, by omega, by omega⟩
  unfold pReps at h2
  rw [hx] at h2
  rcases hop with rfl | rfl | rfl
  · rw [if_pos rfl] at h2; exact h2
  · rw [if_neg (by decide), if_pos rfl] at h2; exact h2
  · rw [if_neg (by decide), if_neg (by decide), if_pos rfl] at h2; exact h2
/-- An operator is applied to what was compiled last. -/
theorem BS.rep {n : Nd} {fr : Nat} {x : Int} (hop : x = 42 ∨ x = 43 ∨ x = 63) (hg : Good ⟨i, K.d, t, c⟩ cs.length) (he : Ext K.code c) (hfr : K.code.length ≤ fr) (hfl : fr ≤ c.length) (him : Impl (toIn (riL c)) n fr c.length) (hi : i < cs.length) :
    Ext K.code (repC c fr x) ∧ Good ⟨i + 1, K.d, t, repC c fr x⟩ cs.length ∧ Impl (toIn (riL (repC c fr x))) (repN x n) fr (repC c fr x).length ∧ fr ≤ (repC c fr x).length ∧ ∀ k, k < fr → (repC c fr x)[k]? = c[k]? := by
  obtain ⟨h1, h2, h3, h4, h5⟩ := repC_ok hop hfl hg.b him
  refine ⟨⟨Nat.le_trans he.le h3, fun k hk => (h5 k (by omega)).trans (he.get k hk)⟩, ⟨hi, ?_, ?_, hg.d, h2⟩, h1, by omega, h5⟩
  · have := hg.c; simp only at this ⊢; omega
  · have := hg.s; simp only at this ⊢; omega
theorem repeat_calls (h : CpAt w cb A S cs ats K) (f : Nat) (hf : f ≤ K.code.length) (hb : NBd K.code K.code.length) (hn : K.code.length ≤ 100000) {x : Int} (hop : x = 42 ∨ x = 43 ∨ x = 63) : Calls Try.prog 99 #[.pointer (some ⟨cb, 0, none⟩), .int .i64 (f : Nat), .int .i32 x] w fun e w' => e = .returned (.tuple #[]) ∧ CPo w cb S cs ats { K with code := repC K.code f x } w' := by
  rcases hop with rfl | rfl | rfl
  · exact repeat_star h f hf hb hn
  · exact repeat_plus h f hn
  · exact repeat_opt h f hf hb hn
end Go.Proofs.Ytcajnmhbkjngbaa

/- The compiler's branch: the walk. -/
namespace Go.Proofs.Ytcajnmhbkjngbaa
open Go.RowKit Go.Shelf
variable {w w' : World} {cb : Nat} {A : CA} {S : Nat → Prop} {cs : List Int} {ats : AT} {K : CS}

set_option maxRecDepth 100000 in
set_option maxHeartbeats 4000000 in
theorem branch_calls (ht : Txt cs ats) (hcs : ∀ x ∈ cs, 0 ≤ x ∧ x ≤ 1114111) {f : Nat} (ha : ∀ g, g + 2 ≤ f → AltsOk cb cs ats g) (h : CpAt w cb A S cs ats K) (hg : Good K cs.length) (hne : pBranch cs f K.i K.d K.s ≠ .bad 0 0) :
    Calls Try.prog 81 #[.pointer (some ⟨cb, 0, none⟩)] w (Po w cb S cs ats K .cat (pBranch cs f K.i K.d K.s)) := by
  have HT := Lib.hid ht
  have HCS := Lib.hid hcs
  have HA := Lib.hid ha
  have HB0 : Hid (BS w cb S cs ats K w A S K.i K.s K.code) := Lib.hid ⟨h, Mut.refl _ _, fun _ => .inl, Ext.refl _, hg⟩
  have HTD : Hid (TodoB cs (pBranch cs f K.i K.d K.s) K.d [] f K.i K.s) := Lib.hid ⟨preR_nil _, hne⟩
  have hsm := ht.small
  generalize hR : pBranch cs f K.i K.d K.s = R at *
  have HF : Hid (f ≤ f) := Lib.hid (Nat.le_refl _)
  clear h hg hne ha hcs hR ht
  go_enter Try.func81, Try.ntmps81
  go_wp2
  go_loopg [] (cs.length - K.i) (fun k wr => ∃ (A' : CA) (S' : Nat → Prop) (i t f' : Nat) (c : List CI) (ns : List Nd), Hid (cs.length - i = k) ∧ Hid (BS w cb S cs ats K wr A' S' i t c) ∧ Hid (TodoB cs R K.d ns f' i t ∧ f' ≤ f) ∧ Hid (Impl (toIn (riL c)) (.cat ns) K.code.length c.length))
  case atStart => exact ⟨A, S, K.i, K.s, f, K.code, [], Lib.hid rfl, HB0, Lib.hid ⟨HTD.out, Nat.le_refl _⟩, Lib.hid .cat0⟩
  case round =>
    clear HB0 HTD HF
    obtain ⟨A', S', i, t, f', c, ns, HK, HB, HTD, HI⟩ := hrel
    obtain ⟨c0, c1, c2, c3, c4, c5, hf⟩ := HB.out.cp.cells
    have q0 : K.d ≤ 64 := HB.out.good.d
    have qi : i ≤ cs.length := HB.out.good.i
    by_cases hlt : i < cs.length
    · have HM := Lib.hid (more_calls HB.out.cp (b := true) (decide_eq_true hlt))
      obtain ⟨g, hA, hg, c6⟩ := HB.out.cp.chs i hlt
      have HCH := Lib.hid hA
      rw [hA] at c0
      have HIX : Hid (cs[i]? = some cs[i]) := Lib.hid (List.getElem?_eq_getElem _)
      have HX0 : Hid (0 ≤ cs[i] ∧ cs[i] ≤ 1114111) := Lib.hid (HCS.out _ (List.getElem_mem _))
      have q2 : (i : Int) < (cs.length : Int) := by omega
      clear hA
      generalize cs[i] = x at *
      by_cases h124 : x = 124
      · subst h124
        have HR := Lib.hid (HTD.out.1.stop (.inr (.inl HIX.out)))
        go_wp2_with (go_at_call 82; refine HM.out.mono ?_; rintro e w2 ⟨rfl, n, rfl⟩)
        go_quiet (fail)
        go_wp2
        (first | go_end0 | refine bodyPost_ret (results_none rfl _ _ _) rfl ?_)
        rw [HR.out]
        have hb := HB.out.below (below_dn (Below.refl _ _) (n + nq))
        exact ⟨rfl, c, hb.cpo, HB.out.ext, HI.out, HB.out.good⟩
      by_cases h41 : x = 41
      · subst h41
        by_cases hd : K.d = 0
        · have HR := Lib.hid (HTD.out.1.bad HIX.out (.inl ⟨rfl, hd⟩))
          rw [hd] at c3
          clear hd
          have hil : i < ats.l.length := by have := HT.out.len; omega
          have HAT := Lib.hid (List.getElem?_eq_getElem hil)
          generalize ats.l[i] = qe at *
          have HFC : Hid (∀ n, Calls Try.prog 97 #[.pointer (some ⟨cb, 0, none⟩), .int .i64 9, .int .i64 (i : Nat)] (wr.drewN n) fun e w' => e = thrown qe 9 ∧ wr.drewN n = w') := Lib.hid fun n => fail_calls (HB.out.cp.below (below_dn (Below.refl _ _) n)) 9 HAT.out
          clear hil
          go_wp2_with (go_at_call 82; refine HM.out.mono ?_; rintro e w2 ⟨rfl, n, rfl⟩)
          go_quiet (fail)
          go_wp2_with (go_at_call 97; refine (HFC.out _).mono ?_; rintro e w2 ⟨rfl, rfl⟩)
          rw [HR.out]
          exact ⟨rfl, qe, HAT.out, rfl, HB.out.mm.drewN _⟩
        · have HR := Lib.hid (HTD.out.1.stop (.inr (.inr ⟨HIX.out, hd⟩)))
          have hdb : ((K.d : Int) == 0) = false := by simp; omega
          have hdb2 : (K.d == 0) = false := by simp; omega
          clear hd
          go_wp2_with (go_at_call 82; refine HM.out.mono ?_; rintro e w2 ⟨rfl, n, rfl⟩)
          go_quiet (fail)
          go_wp2
          (first | go_end0 | refine bodyPost_ret (results_none rfl _ _ _) rfl ?_)
          rw [HR.out]
          have hb := HB.out.below (below_dn (Below.refl _ _) (n + nq))
          exact ⟨rfl, c, hb.cpo, HB.out.ext, HI.out, HB.out.good⟩
      by_cases h42 : x = 42
      · subst h42
        have HR := Lib.hid (HTD.out.1.bad HIX.out (.inr (.inl rfl)))
        have hil : i < ats.l.length := by have := HT.out.len; omega
        have HAT := Lib.hid (List.getElem?_eq_getElem hil)
        generalize ats.l[i] = qe at *
        have HFC : Hid (∀ n, Calls Try.prog 97 #[.pointer (some ⟨cb, 0, none⟩), .int .i64 9, .int .i64 (i : Nat)] (wr.drewN n) fun e w' => e = thrown qe 9 ∧ wr.drewN n = w') := Lib.hid fun n => fail_calls (HB.out.cp.below (below_dn (Below.refl _ _) n)) 9 HAT.out
        clear hil
        go_wp2_with (go_at_call 82; refine HM.out.mono ?_; rintro e w2 ⟨rfl, n, rfl⟩)
        go_quiet (fail)
        go_wp2_with (go_at_call 97; refine (HFC.out _).mono ?_; rintro e w2 ⟨rfl, rfl⟩)
        rw [HR.out]
        exact ⟨rfl, qe, HAT.out, rfl, HB.out.mm.drewN _⟩
      by_cases h43 : x = 43
      · subst h43
        have HR := Lib.hid (HTD.out.1.bad HIX.out (.inr (.inr (.inl rfl))))
        have hil : i < ats.l.length := by have := HT.out.len; omega
        have HAT := Lib.hid (List.getElem?_eq_getElem hil)
        generalize ats.l[i] = qe at *
        have HFC : Hid (∀ n, Calls Try.prog 97 #[.pointer (some ⟨cb, 0, none⟩), .int .i64 9, .int .i64 (i : Nat)] (wr.drewN n) fun e w' => e = thrown qe 9 ∧ wr.drewN n = w') := Lib.hid fun n => fail_calls (HB.out.cp.below (below_dn (Below.refl _ _) n)) 9 HAT.out
        clear hil
        go_wp2_with (go_at_call 82; refine HM.out.mono ?_; rintro e w2 ⟨rfl, n, rfl⟩)
        go_quiet (fail)
        go_wp2_with (go_at_call 97; refine (HFC.out _).mono ?_; rintro e w2 ⟨rfl, rfl⟩)
        rw [HR.out]
        exact ⟨rfl, qe, HAT.out, rfl, HB.out.mm.drewN _⟩
      by_cases h63 : x = 63
      · subst h63
        have HR := Lib.hid (HTD.out.1.bad HIX.out (.inr (.inr (.inr (.inl rfl)))))
        have hil : i < ats.l.length := by have := HT.out.len; omega
        have HAT := Lib.hid (List.getElem?_eq_getElem hil)
        generalize ats.l[i] = qe at *
        have HFC : Hid (∀ n, Calls Try.prog 97 #[.pointer (some ⟨cb, 0, none⟩), .int .i64 9, .int .i64 (i : Nat)] (wr.drewN n) fun e w' => e = thrown qe 9 ∧ wr.drewN n = w') := Lib.hid fun n => fail_calls (HB.out.cp.below (below_dn (Below.refl _ _) n)) 9 HAT.out
        clear hil
        go_wp2_with (go_at_call 82; refine HM.out.mono ?_; rintro e w2 ⟨rfl, n, rfl⟩)
        go_quiet (fail)
        go_wp2_with (go_at_call 97; refine (HFC.out _).mono ?_; rintro e w2 ⟨rfl, rfl⟩)
        rw [HR.out]
        exact ⟨rfl, qe, HAT.out, rfl, HB.out.mm.drewN _⟩
      by_cases h93 : x = 93
      · subst h93
        have HR := Lib.hid (HTD.out.1.bad HIX.out (.inr (.inr (.inr (.inr rfl)))))
        have hil : i < ats.l.length := by have := HT.out.len; omega
        have HAT := Lib.hid (List.getElem?_eq_getElem hil)
        generalize ats.l[i] = qe at *
        have HFC : Hid (∀ n, Calls Try.prog 97 #[.pointer (some ⟨cb, 0, none⟩), .int .i64 9, .int .i64 (i : Nat)] (wr.drewN n) fun e w' => e = thrown qe 9 ∧ wr.drewN n = w') := Lib.hid fun n => fail_calls (HB.out.cp.below (below_dn (Below.refl _ _) n)) 9 HAT.out
        clear hil
        go_wp2_with (go_at_call 82; refine HM.out.mono ?_; rintro e w2 ⟨rfl, n, rfl⟩)
        go_quiet (fail)
        go_wp2_with (go_at_call 97; refine (HFC.out _).mono ?_; rintro e w2 ⟨rfl, rfl⟩)
        rw [HR.out]
        exact ⟨rfl, qe, HAT.out, rfl, HB.out.mm.drewN _⟩
      have HAT : Hid (isAtom x) := Lib.hid ⟨h124, h41, h42, h43, h63, h93⟩
      have b1 : (x == 124) = false := by simpa using h124
      have b2 : (x == 41) = false := by simpa using h41
      have b3 : (x == 42) = false := by simpa using h42
      have b4 : (x == 43) = false := by simpa using h43
      have b5 : (x == 63) = false := by simpa using h63
      have b6 : (x == 93) = false := by simpa using h93
      obtain ⟨f2, hf2⟩ := HTD.out.1.pos
      subst hf2
      have HNE := Lib.hid (HTD.out.1.atomNe HIX.out HAT.out)
      have HF2 : Hid (f2 + 1 ≤ f) := Lib.hid HTD.out.2
      obtain ⟨f3, hf3⟩ : ∃ f3, f2 = f3 + 1 := by
        cases f2 with
        | zero => exact absurd (by rw [pAtom]) HNE.out
        | succ f3 => exact ⟨f3, rfl⟩
      have HAC : Hid (∀ n, Calls Try.prog 98 #[.pointer (some ⟨cb, 0, none⟩), .int .i32 x] (wr.drewN n) (Po (wr.drewN n) cb S' cs ats ⟨i, K.d, t, c⟩ hd1 (pAtom cs f2 i K.d t))) := Lib.hid fun n => by
        have h1 := HNE.out
        rw [hf3] at h1 ⊢
        exact atom_calls HT.out (HA.out f3 (by have := HF2.out; omega)) (HB.out.cp.below (below_dn (Below.refl _ _) n)) HB.out.good HIX.out h1
      clear hf3 h124 h41 h42 h43 h63 h93
      cases hr : pAtom cs f2 i K.d t with
      | bad p ec =>
        have HR := Lib.hid (HTD.out.1.atomBad HIX.out HAT.out hr)
        rw [hr] at HAC
        clear hr
        go_wp2_with (go_at_call 82; refine HM.out.mono ?_; rintro e w2 ⟨rfl, n, rfl⟩)
        go_quiet (fail)
        go_wp2_with (go_at_call 98; refine (HAC.out _).mono ?_; rintro e w2 ⟨q, hq, rfl, hm⟩; have HQ := Lib.hid hq; have HM2 := Lib.hid hm; clear hq hm)
        rw [HR.out]
        exact ⟨rfl, q, HQ.out, rfl, (HB.out.mm.drewN _).trans HM2.out HB.out.sub⟩
      | ok l j u =>
        have HTD2 := Lib.hid (HTD.out.1.atomOk HIX.out HAT.out hr)
        have HJ : Hid (i < j ∧ j ≤ cs.length) := Lib.hid (by have := (parse_le cs f2).2.2 _ _ _ _ _ _ hr; exact ⟨this.1, this.2.1⟩)
        rw [hr] at HAC
        clear hr
        go_wp2_with (go_at_call 82; refine HM.out.mono ?_; rintro e w2 ⟨rfl, n, rfl⟩)
        go_quiet (fail)
        go_wp2_with (go_at_call 98; refine (HAC.out _).mono ?_; rintro e w2 ⟨rfl, c2', hp, hx, him, hgd⟩
                     have HB2 := Lib.hid ((HB.out.below (below_dn (Below.refl _ _) (n + nq))).step hp (HB.out.ext.trans hx) hgd)
                     have HX2 := Lib.hid hx
                     have HI2 := Lib.hid him
                     clear hp hx him hgd)
        generalize hN : pReps cs (cs.length - j) j (hd1 l) = N at *
        have HTO : Hid (TodoO cs N (cs.length - j) j (hd1 l)) := Lib.hid ⟨hN, Nat.le_refl _, HJ.out.2⟩
        have HNL : Hid (j ≤ N.2) := Lib.hid (by rw [← hN]; exact (pReps_le (cs := cs) (cs.length - j) j (hd1 l) HJ.out.2).1)
        obtain ⟨A2, S2, hb2⟩ := HB2.out
        have HB3 := Lib.hid hb2
        clear hb2 HB2 hN c0 c1 c2 c3 c4 c5 hf c6 HM HAC HNE
        have ⟨wo, hwo⟩ : ∃ wo, wo = wr := ⟨wr, rfl⟩
        subst hwo
        go_loopg [] (cs.length - j) (fun k wr => ∃ (A3 : CA) (S3 : Nat → Prop) (j' g' : Nat) (m : Nd) (c3 : List CI), Hid (cs.length - j' = k) ∧ Hid (BS w cb S cs ats K wr A3 S3 j' u c3) ∧ Hid (TodoO cs N g' j' m) ∧ Hid (c.length ≤ c3.length ∧ Impl (toIn (riL c3)) m c.length c3.length ∧ ∀ k, k < c.length → c3[k]? = c[k]?))
        case atStart => exact ⟨A2, S2, j, _, hd1 l, c2', Lib.hid rfl, HB3, HTO, Lib.hid ⟨HX2.out.le, HI2.out, HX2.out.get⟩⟩
        case round =>
          have HKO := HK
          clear HTO HB3 HX2 HI2 HK
          obtain ⟨A3, S3, j', g', m, c3, HK, HB4, HTO, HI4⟩ := hrel
          go_upto_region 14 with (fail)
          go_cut [65] from 51 to 65 (fun s65 wx => ∃ (b : Bool), s65 = .bool b ∧ Hid (b = isOp cs j') ∧ Hid (BS w cb S cs ats K wx A3 S3 j' u c3))
          case first =>
            obtain ⟨c0, c1, c2, c3', c4, c5, hf⟩ := HB4.out.cp.cells
            have qj : j' ≤ cs.length := HB4.out.good.i
            by_cases hlt2 : j' < cs.length
            · obtain ⟨g2, hA2, hg2, c6⟩ := HB4.out.cp.chs j' hlt2
              rw [hA2] at c0
              have HM := Lib.hid (more_q HB4.out.cp (b := true) (decide_eq_true hlt2))
              have HIY : Hid (cs[j']? = some cs[j']) := Lib.hid (List.getElem?_eq_getElem _)
              have HY0 : Hid (0 ≤ cs[j'] ∧ cs[j'] ≤ 1114111) := Lib.hid (HCS.out _ (List.getElem_mem _))
              have q3 : (j' : Int) < (cs.length : Int) := by omega
              clear hA2
              generalize cs[j'] = y at *
              by_cases hbad : y = 65533
              · subst hbad
                have HO : Hid (false = isOp cs j') := Lib.hid (by unfold isOp; rw [HIY.out]; simp)
                have HMW : Hid (∀ W, Below wr.heap.size wr W → Calls Try.prog 82 #[.pointer (some ⟨cb, 0, none⟩)] W fun e w' => e = .returned (.bool true) ∧ ∃ n, w' = W.drewN n) := Lib.hid fun W hW => more_calls (HB4.out.cp.below hW) (decide_eq_true hlt2)
                have HCW : Hid (∀ W, Calls Try.prog 59 #[.string ⟨#[42, 43, 63]⟩, .int .i32 65533] W fun e w' => e = .returned (.bool false) ∧ Below W.heap.size W w') := Lib.hid fun W => containsRune_bad opS (by decide) opS_asc W
                go_region_with (first
                  | (go_at_call 82; refine (HMW.out _ (by first | exact Below.refl _ _ | exact (Below.refl _ _).drew | exact below_dn (Below.refl _ _) _)).mono ?_; rintro e w2 ⟨rfl, m2, rfl⟩)
                  | (go_at_call 59; refine (HCW.out _).mono ?_; rintro e w3 ⟨rfl, hb⟩; have HBW := Lib.hid ((show Below wr.heap.size wr _ from by first | exact below_dn (Below.refl _ _) _ | exact below_dn ((Below.refl _ _).drew) _).trans (hb.mono (by simp))); clear hb))
                all_goals go_wp2_with (fail)
                all_goals go_meet
                all_goals exact ⟨false, rfl, HO, Lib.hid (HB4.out.below HBW.out)⟩
              · have HO : Hid (hasR opS y = isOp cs j') := Lib.hid (hasR_op HIY.out HY0.out.1)
                have HC : Hid (∀ W, Calls Try.prog 59 #[.string ⟨#[42, 43, 63]⟩, .int .i32 y] W fun e w' => e = .returned (.bool (hasR opS y)) ∧ ∃ n, w' = W.drewN n) := Lib.hid fun W => containsRune_q opS (by decide) opS_asc y HY0.out.1 hbad (by have := HY0.out.2; omega) W
                generalize hasR opS y = bo at *
                go_quiet ((first | (go_at_call 82; exact Calls.quiet_of (HM.out _)) | (go_at_call 59; exact Calls.quiet_of (HC.out _))))
                go_wp2_with (fail)
                go_meet
                case rel => exact ⟨bo, rfl, HO, Lib.hid (HB4.out.below (below_dn (Below.refl _ _) nq))⟩
            · have HM := Lib.hid (more_q HB4.out.cp (b := false) (decide_eq_false hlt2))
              have HO : Hid (false = isOp cs j') := Lib.hid (by unfold isOp; rw [List.getElem?_eq_none (by omega)]; simp)
              go_quiet ((go_at_call 82; exact Calls.quiet_of (HM.out _)))
              go_wp2_with (fail)
              go_meet
              case rel => exact ⟨false, rfl, HO, Lib.hid (HB4.out.below (below_dn (Below.refl _ _) nq))⟩
          case rest =>
            obtain ⟨b, rfl, HBO, HB5⟩ := hcut
            obtain ⟨i1, i2, i3⟩ := HI4.out
            cases b
            · have HNE2 := Lib.hid (HTO.out.stop HBO.out.symm)
              have HKE : Hid (Impl (toIn (riL c3)) (.cat (ns ++ [m])) K.code.length c3.length) := Lib.hid (cat_implS i2 (HI.out.congr fun k _ hk => by rw [get_toIn, get_toIn, i3 k hk]))
              clear i1 i2 i3
              go_wp2_with (fail)
              go_roundg (cs.length - j')
              case measure => have h1 := HKO.out; have h2 := HJ.out; have h3 := HNL.out; rw [HNE2.out] at h3; simp only at h3; have h4 := HB5.out.good.i; simp only at h4; omega
              case rel => exact ⟨A3, S3, j', u, f2, c3, ns ++ [m], Lib.hid rfl, HB5, Lib.hid ⟨by have h1 := HTD2.out; rw [HNE2.out] at h1; exact h1, by have := HF2.out; omega⟩, HKE⟩
            · obtain ⟨y, hy, hop⟩ : ∃ y, cs[j']? = some y ∧ (y = 42 ∨ y = 43 ∨ y = 63) := by
                have h1 := of_decide_eq_true HBO.out.symm
                rcases h1 with h1 | h1 | h1
                · exact ⟨_, h1, .inl rfl⟩
                · exact ⟨_, h1, .inr (.inl rfl)⟩
                · exact ⟨_, h1, .inr (.inr rfl)⟩
              have hjl := (List.getElem?_eq_some_iff.1 hy).1
              obtain ⟨e1, e2, e3, e4, e5⟩ := BS.rep (K := K) (t := u) (x := y) (i := j') hop HB5.out.good HB5.out.ext HB.out.ext.le i1 i2 hjl
              obtain ⟨g3, hto⟩ := HTO.out.op hy hop
              have HE := Lib.hid (And.intro e1 (And.intro e2 (And.intro e3 (And.intro e4 e5))))
              have HTO2 := Lib.hid hto
              have HN := Lib.hid (next_ok HB5.out.cp hy HT.out.small)
              have HRP : Hid (∀ w2, CpAt w2 cb A3 S3 cs ats ⟨j' + 1, K.d, u, c3⟩ → Calls Try.prog 99 #[.pointer (some ⟨cb, 0, none⟩), .int .i64 (c.length : Nat), .int .i32 y] w2 fun e w' => e = .returned (.tuple #[]) ∧ CPo w2 cb S3 cs ats ⟨j' + 1, K.d, u, repC c3 c.length y⟩ w') := Lib.hid fun w2 h2 => repeat_calls h2 c.length i1 HB5.out.good.b (by have h3 := HB5.out.good.c; have h4 := HB5.out.good.i; have h5 := HT.out.tiny; simp only at h3 h4 ⊢; omega) hop
              clear e1 e2 e3 e4 e5 hto i1 i2 i3 hy hop
              go_wp2_with (first
                | (go_at_call 100; refine HN.out.mono ?_; rintro e w2 ⟨rfl, h2, m2⟩
                   have HR2 := Lib.hid (HRP.out w2 h2)
                   have HM2 := Lib.hid (m2.mono (S' := S3) fun k hk => .inl (hk ▸ HB5.out.cp.Sb))
                   clear h2 m2)
                | (go_at_call 99; refine HR2.out.mono ?_; rintro e w3 ⟨rfl, h3⟩
                   have HP3 := Lib.hid (CPo.trans HM2.out (fun _ => .inl) h3)
                   clear h3))
              obtain ⟨e1, e2, e3, e4, e5⟩ := HE.out
              obtain ⟨A4, S4, hb6⟩ := HB5.out.step HP3.out e1 e2
              go_roundg (cs.length - (j' + 1))
              case measure => have h1 := HK.out; omega
              case rel => exact ⟨A4, S4, j' + 1, g3, repN y m, _, Lib.hid rfl, Lib.hid hb6, HTO2, Lib.hid ⟨e4, e3, fun k hk => (e5 k hk).trans (HI4.out.2.2 k hk)⟩⟩
    · have HR := Lib.hid (HTD.out.1.stop (.inl (List.getElem?_eq_none (by omega))))
      have HM := Lib.hid (more_calls HB.out.cp (b := false) (decide_eq_false hlt))
      clear hlt
      go_wp2_with (go_at_call 82; refine HM.out.mono ?_; rintro e w2 ⟨rfl, n, rfl⟩)
      (first | go_end0 | refine bodyPost_ret (results_none rfl _ _ _) rfl ?_)
      rw [HR.out]
      have hb := HB.out.below (below_dn (Below.refl _ _) n)
      exact ⟨rfl, c, hb.cpo, HB.out.ext, HI.out, HB.out.good⟩
end Go.Proofs.Ytcajnmhbkjngbaa

