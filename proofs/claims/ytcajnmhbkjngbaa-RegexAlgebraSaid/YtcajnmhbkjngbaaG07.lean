/- Texts on regular expressions, merged: X12, X13. -/
import Derived.Test.YtcajnmhbkjngbaaG06
/- The compiler's atom. -/
namespace Go.Proofs.Ytcajnmhbkjngbaa
open Go.RowKit Go.Shelf
variable {w w' : World} {cb : Nat} {A : CA} {S : Nat → Prop} {cs : List Int} {ats : AT} {K : CS}

/-- What is known of the compiler between two calls. -/
structure Good (K : CS) (n : Nat) : Prop where
  i : K.i ≤ n
  c : K.code.length ≤ 2 * K.i
  s : K.s ≤ K.i
  d : K.d ≤ 64
  b : NBd K.code K.code.length
/-- What a part of the compiler leaves. -/
def Po (w : World) (cb : Nat) (S : Nat → Prop) (cs : List Int) (ats : AT) (K : CS) (mk : List Nd → Nd) (r : Res) (e : Ending) (w' : World) : Prop :=
  match r with
  | .ok l j t => e = .returned (.tuple #[]) ∧ ∃ c', CPo w cb S cs ats ⟨j, K.d, t, c'⟩ w' ∧ Ext K.code c' ∧ Impl (toIn (riL c')) (mk l) K.code.length c'.length ∧ Good ⟨j, K.d, t, c'⟩ cs.length
  | .bad p ec => ∃ q, ats.l[p]? = some q ∧ e = thrown q ec ∧ Mut S w w'
def hd1 (l : List Nd) : Nd := l.headD .beg
/-- The text of the compiler: its places. -/
structure Txt (cs : List Int) (ats : AT) : Prop where
  len : ats.l.length = cs.length + 1
  tiny : cs.length ≤ 10000
theorem Txt.small {cs : List Int} {ats : AT} (h : Txt cs ats) : cs.length ≤ 100000 := by have := h.tiny; omega
theorem Txt.at_ {cs : List Int} {ats : AT} (h : Txt cs ats) {p : Nat} (hp : p ≤ cs.length) : ∃ q, ats.l[p]? = some q := ⟨_, List.getElem?_eq_getElem (by have := h.len; omega)⟩
def AltsOk (cb : Nat) (cs : List Int) (ats : AT) (f : Nat) : Prop := ∀ (w : World) (A : CA) (S : Nat → Prop) (K : CS), CpAt w cb A S cs ats K → Good K cs.length → pAlts cs f K.i K.d K.s ≠ .bad 0 0 → Calls Try.prog 50 #[.pointer (some ⟨cb, 0, none⟩)] w (Po w cb S cs ats K .alt (pAlts cs f K.i K.d K.s))
/-- One instruction was added. -/
theorem Po.emit {w1 w2 : World} {S1 : Nat → Prop} {K1 : CS} {x : CI} {n : Nd} (hm : Mut S w w1) (hs : ∀ k, S1 k → S k ∨ w.heap.size ≤ k) (hK : K1.code = K.code ∧ K1.d = K.d) (hp : CPo w1 cb S1 cs ats { K1 with code := K1.code ++ [x] } w2)
    (hx : x.r.x = 0 ∧ x.r.y = 0) (hi : ∀ c : List In, c[K.code.length]? = some x.r.to → Impl c n K.code.length (K.code.length + 1)) (hg : Good K cs.length) (h1 : K.i + 1 ≤ K1.i) (h2 : K1.i ≤ cs.length) (h3 : K1.s = K.s + 1) : Po w cb S cs ats K hd1 (.ok [n] K1.i K1.s) (.returned (.tuple #[])) w2 := by
  obtain ⟨e1, e2⟩ := hK
  rw [e1] at hp
  have hl : (K.code ++ [x]).length = K.code.length + 1 := by simp
  refine ⟨rfl, K.code ++ [x], ?_, Ext.snoc _ _, ?_, ⟨h2, ?_, ?_, ?_, ?_⟩⟩
  · have := CPo.trans hm hs hp
    rw [← e2]
    exact this
  · rw [hl]
    exact hi _ (by rw [get_toIn, List.getElem?_append_right (Nat.le_refl _), Nat.sub_self]; rfl)
  · simp only [hl]; have := hg.c; omega
  · simp only; have := hg.s; omega
  · exact hg.d
  · rw [show (({ i := K1.i, d := K.d, s := K1.s, code := K.code ++ [x] } : CS).code).length = K.code.length + 1 from hl]
    exact (hg.b.mono (Nat.le_succ _)).snoc (by rw [hx.1, hx.2]; omega)
set_option maxRecDepth 100000 in
set_option maxHeartbeats 2000000 in
theorem atom_deep (h : CpAt w cb A S cs ats K) (ht : Txt cs ats) (hi : K.i < cs.length) (hd : K.d = 64) : Calls Try.prog 98 #[.pointer (some ⟨cb, 0, none⟩), .int .i32 40] w (Po w cb S cs ats K hd1 (.bad K.i 3)) := by
  obtain ⟨q, hq⟩ := ht.at_ (p := K.i) (by omega)
  have h1 := h.set 2 (.int .i64 ((K.i : Int) + 1)) { K with i := K.i + 1 } rfl rfl
  have HF := Lib.hid (fail_calls h1 3 hq)
  have HM : Hid (Mut S w (w.setCell ⟨cb, 2, none⟩ (.int .i64 ((K.i : Int) + 1)))) := Lib.hid (Mut.setCell _ _ _ _ h.Sb)
  obtain ⟨c0, c1, c2, c3, c4, c5, hf⟩ := h.cells
  rw [hd] at c3
  have q1 : K.i ≤ 100000 := by have := ht.small; omega
  have HQ := Lib.hid hq
  clear h h1 hq hd hi ht
  go_enter Try.func98, Try.ntmps98
  go_wp2_with (go_at_call 97; refine HF.out.mono ?_; rintro e w1 ⟨rfl, rfl⟩)
  exact ⟨rfl, q, HQ.out, rfl, HM.out⟩
set_option maxRecDepth 100000 in
set_option maxHeartbeats 2000000 in
theorem atom_paren (h : CpAt w cb A S cs ats K) (ht : Txt cs ats) (hg : Good K cs.length) (hi : K.i < cs.length) (hd : K.d ≠ 64) {f : Nat} (ha : AltsOk cb cs ats f) (hne : pAlts cs f (K.i + 1) (K.d + 1) K.s ≠ .bad 0 0) :
    Calls Try.prog 98 #[.pointer (some ⟨cb, 0, none⟩), .int .i32 40] w (Po w cb S cs ats K hd1 (match pAlts cs f (K.i + 1) (K.d + 1) K.s with
        | .bad p e => .bad p e
        | .ok l j t => if j < cs.length then .ok [.alt l] (j + 1) t else .bad cs.length 16)) := by
  have h1 := (h.set 2 (.int .i64 ((K.i : Int) + 1)) { K with i := K.i + 1 } rfl rfl).set 3 (.int .i64 ((K.d : Int) + 1)) { K with i := K.i + 1, d := K.d + 1 } rfl rfl
  have hd1 : K.d ≤ 64 := hg.d
  have hg1 : Good { K with i := K.i + 1, d := K.d + 1 } cs.length := ⟨hi, by have := hg.c; simp only; omega, by have := hg.s; simp only; omega, by simp only; omega, hg.b⟩
  have HA := Lib.hid (ha _ _ _ _ h1 hg1 hne)
  have HM : Hid (Mut S w ((w.setCell ⟨cb, 2, none⟩ (.int .i64 ((K.i : Int) + 1))).setCell ⟨cb, 3, none⟩ (.int .i64 ((K.d : Int) + 1)))) := Lib.hid ((Mut.setCell _ _ _ _ h.Sb).then (Mut.setCell _ _ _ _ h.Sb))
  obtain ⟨c0, c1, c2, c3, c4, c5, hf⟩ := h.cells
  have q1 : K.i ≤ 100000 := by have := ht.small; omega
  have HT := Lib.hid ht
  have HG := Lib.hid hg
  have hdb : ((K.d : Int) == 64) = false := by simp; omega
  have hdb2 : (K.d == 64) = false := by simp; omega
  clear h h1 hg hg1 ht hne
  cases hr : pAlts cs f (K.i + 1) (K.d + 1) K.s with
  | bad p ec =>
    rw [show ({ K with i := K.i + 1, d := K.d + 1 } : CS).i = K.i + 1 from rfl] at HA
    simp only [hr] at HA
    clear hr
    go_enter Try.func98, Try.ntmps98
    go_wp2_with (go_at_call 50; refine HA.out.mono ?_; rintro e w1 ⟨q, hq, rfl, hm⟩; have HQ := Lib.hid hq; have HM1 := Lib.hid hm; clear hq hm)
    exact ⟨rfl, q, HQ.out, rfl, HM.out.then HM1.out⟩
  | ok l j t =>
    simp only [hr] at HA
    clear hr
    by_cases hj : j < cs.length
    · dsimp only
      rw [if_pos hj]
      have HJ := Lib.hid (List.getElem?_eq_getElem hj)
      generalize cs[j] = cj at *
      clear hj
      go_enter Try.func98, Try.ntmps98
      go_wp2_with (first
        | (go_at_call 50; refine HA.out.mono ?_; rintro e w1 ⟨rfl, c', ⟨A1, S1, h1, m1, s1⟩, hx, him, hgd⟩
           have HN := Lib.hid (next_ok h1 HJ.out HT.out.small)
           have HS := Lib.hid (And.intro (HM.out.then m1) (show ∀ k, S1 k → S k ∨ w.heap.size ≤ k from fun k hk => (s1 k hk).imp id fun e => Nat.le_trans HM.out.size e))
           have HI := Lib.hid (And.intro hx (And.intro him hgd))
           have HSB := Lib.hid h1.Sb
           clear h1 m1 s1 hx him hgd)
        | (go_at_call 100; refine HN.out.mono ?_; rintro e w2 ⟨rfl, h2, m2⟩
           obtain ⟨d0, d1, d2, d3, d4, d5, df⟩ := h2.cells
           have H2 := Lib.hid (h2.set 3 (.int .i64 ((K.d : Int))) ⟨j + 1, K.d, t, c'⟩ rfl rfl)
           have M2 := Lib.hid ((m2.mono (S' := S1) fun k hk => .inl (hk ▸ HSB.out)).then (Mut.setCell (S := S1) w2 cb 3 (.int .i64 ((K.d : Int))) HSB.out))
           clear h2 m2 d0 d1 d2 d4 d5))
      (first | go_end0 | refine bodyPost_ret (results_none rfl _ _ _) rfl ?_)
      obtain ⟨hx, him, hgd⟩ := HI.out
      exact ⟨rfl, c', ⟨A1, S1, H2.out, HS.out.1.trans M2.out HS.out.2, HS.out.2⟩, hx, him, ⟨(List.getElem?_eq_some_iff.1 HJ.out).1, by have := hgd.c; simp only at this ⊢; omega, by have := hgd.s; simp only at this ⊢; omega, HG.out.d, hgd.b⟩⟩
    · dsimp only
      rw [if_neg hj]
      obtain ⟨q, hq⟩ := HT.out.at_ (p := cs.length) (Nat.le_refl _)
      have HQ := Lib.hid hq
      have HJ := Lib.hid hj
      clear hj hq
      go_enter Try.func98, Try.ntmps98
      go_wp2_with (first
        | (go_at_call 50; refine HA.out.mono ?_; rintro e w1 ⟨rfl, c', ⟨A1, S1, h1, m1, s1⟩, hx, him, hgd⟩
           have hje : j = cs.length := by have := hgd.i; have := HJ.out; simp only at *; omega
           have HN := Lib.hid (next_end h1 (p := q) (by simp only; omega) (by simp only; rw [hje]; exact HQ.out))
           have HS := Lib.hid (And.intro (HM.out.then m1) (show ∀ k, S1 k → S k ∨ w.heap.size ≤ k from fun k hk => (s1 k hk).imp id fun e => Nat.le_trans HM.out.size e))
           clear h1 m1 s1 hx him hgd hje)
        | (go_at_call 100; refine HN.out.mono ?_; rintro e w2 ⟨rfl, hm⟩; have HM2 := Lib.hid hm; clear hm))
      exact ⟨rfl, q, HQ.out, rfl, HS.out.1.trans HM2.out HS.out.2⟩
theorem set_one {s : CSet} {c : List In} {f : Nat} (h : c[f]? = some (.take s)) : Impl c (.set s) f (f + 1) := .set h
theorem beg_one {c : List In} {f : Nat} (h : c[f]? = some .beg) : Impl c .beg f (f + 1) := .beg h
theorem fin_one {c : List In} {f : Nat} (h : c[f]? = some .fin) : Impl c .fin f (f + 1) := .fin h
/-- The state in which an atom that is no parenthesis emits. -/
theorem Good.size {n : Nat} (hg : Good K n) (hn : n ≤ 100000) : K.code.length ≤ 1000000 := by have := hg.c; have := hg.i; omega
/-- The first two steps of an atom. -/
theorem CpAt.two (h : CpAt w cb A S cs ats K) : CpAt ((w.setCell ⟨cb, 2, none⟩ (.int .i64 ((K.i : Int) + 1))).setCell ⟨cb, 4, none⟩ (.int .i64 ((K.s : Int) + 1))) cb A S cs ats { K with i := K.i + 1, s := K.s + 1 } ∧ Mut S w ((w.setCell ⟨cb, 2, none⟩ (.int .i64 ((K.i : Int) + 1))).setCell ⟨cb, 4, none⟩ (.int .i64 ((K.s : Int) + 1))) :=
  ⟨(h.set 2 _ { K with i := K.i + 1 } rfl rfl).set 4 _ { K with i := K.i + 1, s := K.s + 1 } rfl rfl, (Mut.setCell _ _ _ _ h.Sb).then (Mut.setCell _ _ _ _ h.Sb)⟩
set_option maxRecDepth 100000 in
set_option maxHeartbeats 2000000 in
theorem atom_dot (h : CpAt w cb A S cs ats K) (ht : Txt cs ats) (hg : Good K cs.length) (hi : K.i < cs.length) : Calls Try.prog 98 #[.pointer (some ⟨cb, 0, none⟩), .int .i32 46] w (Po w cb S cs ats K hd1 (.ok [.set ⟨[], true⟩] (K.i + 1) (K.s + 1))) := by
  obtain ⟨h1, hm⟩ := h.two
  have HE := Lib.hid (emit_calls h1 ⟨⟨1, 0, 0, [], true⟩, none, 0⟩ (RdP.nil _) (fun a ha => by cases ha) (hg.size ht.small))
  have HM := Lib.hid hm
  obtain ⟨c0, c1, c2, c3, c4, c5, hf⟩ := h.cells
  have q1 : K.i ≤ 100000 := by have := ht.small; omega
  have q2 : K.s ≤ 100000 := by have := hg.s; omega
  have HG := Lib.hid hg
  have HI := Lib.hid hi
  clear h h1 hm hg hi ht
  go_enter Try.func98, Try.ntmps98
  go_wp2_with (go_at_call 51; refine HE.out.mono ?_; rintro e w1 ⟨rfl, hp⟩; have HP := Lib.hid hp; clear hp)
  (first | go_end0 | refine bodyPost_ret (results_none rfl _ _ _) rfl ?_)
  exact Po.emit (K1 := { K with i := K.i + 1, s := K.s + 1 }) HM.out (fun _ => .inl) ⟨rfl, rfl⟩ HP.out ⟨rfl, rfl⟩ (fun c hc => set_one hc) HG.out (Nat.le_refl _) HI.out rfl
set_option maxRecDepth 100000 in
set_option maxHeartbeats 2000000 in
theorem atom_beg (h : CpAt w cb A S cs ats K) (ht : Txt cs ats) (hg : Good K cs.length) (hi : K.i < cs.length) : Calls Try.prog 98 #[.pointer (some ⟨cb, 0, none⟩), .int .i32 94] w (Po w cb S cs ats K hd1 (.ok [.beg] (K.i + 1) (K.s + 1))) := by
  obtain ⟨h1, hm⟩ := h.two
  have HE := Lib.hid (emit_ci h1 4 0 0 (hg.size ht.small))
  have HM := Lib.hid hm
  obtain ⟨c0, c1, c2, c3, c4, c5, hf⟩ := h.cells
  have q1 : K.i ≤ 100000 := by have := ht.small; omega
  have q2 : K.s ≤ 100000 := by have := hg.s; omega
  have HG := Lib.hid hg
  have HI := Lib.hid hi
  clear h h1 hm hg hi ht
  go_enter Try.func98, Try.ntmps98
  go_wp2_with (go_at_call 51; refine HE.out.mono ?_; rintro e w1 ⟨rfl, hp⟩; have HP := Lib.hid hp; clear hp)
  (first | go_end0 | refine bodyPost_ret (results_none rfl _ _ _) rfl ?_)
  exact Po.emit (K1 := { K with i := K.i + 1, s := K.s + 1 }) HM.out (fun _ => .inl) ⟨rfl, rfl⟩ HP.out ⟨rfl, rfl⟩ (fun c hc => beg_one hc) HG.out (Nat.le_refl _) HI.out rfl
set_option maxRecDepth 100000 in
set_option maxHeartbeats 2000000 in
theorem atom_fin (h : CpAt w cb A S cs ats K) (ht : Txt cs ats) (hg : Good K cs.length) (hi : K.i < cs.length) : Calls Try.prog 98 #[.pointer (some ⟨cb, 0, none⟩), .int .i32 36] w (Po w cb S cs ats K hd1 (.ok [.fin] (K.i + 1) (K.s + 1))) := by
  obtain ⟨h1, hm⟩ := h.two
  have HE := Lib.hid (emit_ci h1 5 0 0 (hg.size ht.small))
  have HM := Lib.hid hm
  obtain ⟨c0, c1, c2, c3, c4, c5, hf⟩ := h.cells
  have q1 : K.i ≤ 100000 := by have := ht.small; omega
  have q2 : K.s ≤ 100000 := by have := hg.s; omega
  have HG := Lib.hid hg
  have HI := Lib.hid hi
  clear h h1 hm hg hi ht
  go_enter Try.func98, Try.ntmps98
  go_wp2_with (go_at_call 51; refine HE.out.mono ?_; rintro e w1 ⟨rfl, hp⟩; have HP := Lib.hid hp; clear hp)
  (first | go_end0 | refine bodyPost_ret (results_none rfl _ _ _) rfl ?_)
  exact Po.emit (K1 := { K with i := K.i + 1, s := K.s + 1 }) HM.out (fun _ => .inl) ⟨rfl, rfl⟩ HP.out ⟨rfl, rfl⟩ (fun c hc => fin_one hc) HG.out (Nat.le_refl _) HI.out rfl
set_option maxRecDepth 100000 in
set_option maxHeartbeats 2000000 in
theorem atom_set (h : CpAt w cb A S cs ats K) (ht : Txt cs ats) (hg : Good K cs.length) (hi : K.i < cs.length) : Calls Try.prog 98 #[.pointer (some ⟨cb, 0, none⟩), .int .i32 91] w (Po w cb S cs ats K hd1 (match pSet cs (K.i + 1) with
    | .inl (t, k) => .ok [.set t] k (K.s + 1)
    | .inr (p, e) => .bad p e)) := by
  obtain ⟨h1, hm⟩ := h.two
  have HB := Lib.hid (brackets_calls h1 hi ht.len ht.small)
  have HM := Lib.hid hm
  have HSl : Hid (∀ k, S k → k < ((w.setCell ⟨cb, 2, none⟩ (.int .i64 ((K.i : Int) + 1))).setCell ⟨cb, 4, none⟩ (.int .i64 ((K.s : Int) + 1))).heap.size) := Lib.hid h1.Slt
  obtain ⟨c0, c1, c2, c3, c4, c5, hf⟩ := h.cells
  have q1 : K.i ≤ 100000 := by have := ht.small; omega
  have q2 : K.s ≤ 100000 := by have := hg.s; omega
  have HG := Lib.hid hg
  have HI := Lib.hid hi
  have HT := Lib.hid ht
  have HSB := Lib.hid h.Sb
  clear h h1 hm hg hi ht
  rw [show ({ K with i := K.i + 1, s := K.s + 1 } : CS).i = K.i + 1 from rfl] at HB
  cases hr : pSet cs (K.i + 1) with
  | inr pe =>
    obtain ⟨p, ec⟩ := pe
    rw [hr] at HB
    clear hr
    go_enter Try.func98, Try.ntmps98
    go_wp2_with (go_at_call 115; refine HB.out.mono ?_; rintro e w1 ⟨q, hq, rfl, hm⟩; have HQ := Lib.hid hq; have HM1 := Lib.hid hm; clear hq hm)
    exact ⟨rfl, q, HQ.out, rfl, HM.out.then HM1.out⟩
  | inl tk =>
    obtain ⟨t, k⟩ := tk
    have HK := Lib.hid (pSet_le hr)
    rw [hr] at HB
    clear hr
    go_enter Try.func98, Try.ntmps98
    go_wp2_with (first
      | (go_at_call 115; refine HB.out.mono ?_; rintro e w1 ⟨sa, sc, rfl, h1, hrd, hfr, hm⟩
         have HE := Lib.hid (emit_calls h1 ⟨⟨1, 0, 0, t.spans, t.inv⟩, sa, sc⟩ hrd (fun a ha => ⟨(hfr a ha).2, fun e => by have := HSl.out _ e; have := (hfr a ha).1; omega⟩) (HG.out.size HT.out.small))
         have HM1 := Lib.hid (HM.out.then (hm.mono fun k hk => .inl (hk ▸ HSB.out)))
         clear h1 hrd hfr hm)
      | (go_at_call 51; refine HE.out.mono ?_; rintro e w2 ⟨rfl, hp⟩; have HP := Lib.hid hp; clear hp))
    (first | go_end0 | refine bodyPost_ret (results_none rfl _ _ _) rfl ?_)
    exact Po.emit (K1 := { K with i := k, s := K.s + 1 }) HM1.out (fun _ => .inl) ⟨rfl, rfl⟩ HP.out ⟨rfl, rfl⟩ (fun c hc => set_one (s := t) hc) HG.out (by have := HK.out; simp only; omega) HK.out.2 rfl
end Go.Proofs.Ytcajnmhbkjngbaa

/- The compiler's atom: one character; the whole. -/
namespace Go.Proofs.Ytcajnmhbkjngbaa
open Go.RowKit Go.Shelf
variable {w w' : World} {cb : Nat} {A : CA} {S : Nat → Prop} {cs : List Int} {ats : AT} {K : CS}

/-- The instruction for one character, its span in a block of its own. -/
def oneC (c : Int) (b : Nat) : CI := ⟨⟨1, 0, 0, [(c, c)], false⟩, some ⟨b, 0, none⟩, 1⟩
theorem rdP_one (w : World) (c : Int) : RdP (w.alloc (.cells #[.int .i32 c, .int .i32 c] 151)) (some ⟨w.heap.size, 0, none⟩) [(c, c)] :=
  have hk := heap_alloc_new w (.cells #[.int .i32 c, .int .i32 c] 151)
  ⟨fun j hj => by
    match j, hj with
    | 0, _ => exact ⟨_, rfl, by simp, cell_of_heap hk rfl, cell_of_heap hk rfl⟩, fun a ha => by
    injection ha with ha
    subst ha
    exact ⟨_, _, hk⟩⟩
theorem emit_one (h : CpAt w cb A S cs ats K) (c : Int) (hn : K.code.length ≤ 1000000) :
    Calls Try.prog 51 #[.pointer (some ⟨cb, 0, none⟩), .agg #[.int .i64 1, .int .i64 0, .int .i64 0, .slice (some ⟨w.heap.size, 0, none⟩) 1 1, .bool false]] (w.alloc (.cells #[.int .i32 c, .int .i32 c] 151)) fun e w' => e = .returned (.int .i64 (K.code.length : Nat)) ∧ CPo (w.alloc (.cells #[.int .i32 c, .int .i32 c] 151)) cb S cs ats { K with code := K.code ++ [oneC c w.heap.size] } w' :=
  emit_calls (h.below ((Below.refl _ _).alloc (Nat.le_refl _) _)) (oneC c w.heap.size) (rdP_one w c) (fun a ha => by
    injection ha with ha
    subst ha
    exact ⟨by simp, fun e => by have := h.Slt _ e; simp at this⟩) hn
set_option maxRecDepth 100000 in
set_option maxHeartbeats 2000000 in
theorem atom_one (h : CpAt w cb A S cs ats K) (ht : Txt cs ats) (hg : Good K cs.length) (hi : K.i < cs.length) {c : Int} (h1 : c ≠ 40) (h2 : c ≠ 46) (h3 : c ≠ 94) (h4 : c ≠ 36) (h5 : c ≠ 91) (h6 : c ≠ 92) : Calls Try.prog 98 #[.pointer (some ⟨cb, 0, none⟩), .int .i32 c] w (Po w cb S cs ats K hd1 (.ok [oneS c] (K.i + 1) (K.s + 1))) := by
  obtain ⟨hh, hm⟩ := h.two
  have HE := Lib.hid (emit_one hh c (hg.size ht.small))
  have HM := Lib.hid hm
  obtain ⟨c0, cc1, c2, c3, c4, c5, hf⟩ := h.cells
  have q1 : K.i ≤ 100000 := by have := ht.small; omega
  have q2 : K.s ≤ 100000 := by have := hg.s; omega
  have HG := Lib.hid hg
  have HI := Lib.hid hi
  have b1 : (c == 40) = false := by simpa using h1
  have b2 : (c == 46) = false := by simpa using h2
  have b3 : (c == 94) = false := by simpa using h3
  have b4 : (c == 36) = false := by simpa using h4
  have b5 : (c == 91) = false := by simpa using h5
  have b6 : (c == 92) = false := by simpa using h6
  have HH := Lib.hid hh
  clear h hh hm hg hi ht
  go_enter Try.func98, Try.ntmps98
  go_wp2_with (go_at_call 51
               have hsz : ((w.setCell ⟨cb, 2, none⟩ (.int .i64 ((K.i : Int) + 1))).setCell ⟨cb, 4, none⟩ (.int .i64 ((K.s : Int) + 1))).heap.size = w.heap.size := by simp
               rw [hsz] at HE
               refine HE.out.mono ?_; rintro e w1 ⟨rfl, hp⟩; have HP := Lib.hid hp; clear hp hsz)
  (first | go_end0 | refine bodyPost_ret (results_none rfl _ _ _) rfl ?_)
  exact Po.emit (K1 := { K with i := K.i + 1, s := K.s + 1 }) (HM.out.then (Mut.of_below ((Below.refl _ _).alloc (Nat.le_refl _) _))) (fun _ => .inl) ⟨rfl, rfl⟩ HP.out ⟨rfl, rfl⟩ (fun c hc => set_one hc) HG.out (Nat.le_refl _) HI.out rfl
set_option maxRecDepth 100000 in
set_option maxHeartbeats 2000000 in
theorem atom_esc (h : CpAt w cb A S cs ats K) (ht : Txt cs ats) (hg : Good K cs.length) (hi : K.i < cs.length) : Calls Try.prog 98 #[.pointer (some ⟨cb, 0, none⟩), .int .i32 92] w (Po w cb S cs ats K hd1 (match cs[K.i + 1]? with
    | none => .bad cs.length 16
    | some e => .ok [oneS (escC e)] (K.i + 2) (K.s + 1))) := by
  obtain ⟨hh, hm⟩ := h.two
  have HM := Lib.hid hm
  obtain ⟨c0, cc1, c2, c3, c4, c5, hf⟩ := h.cells
  have q1 : K.i ≤ 100000 := by have := ht.small; omega
  have q2 : K.s ≤ 100000 := by have := hg.s; omega
  have HG := Lib.hid hg
  have HT := Lib.hid ht
  have HSB := Lib.hid h.Sb
  cases hc : cs[K.i + 1]? with
  | none =>
    obtain ⟨q, hq⟩ := ht.at_ (p := cs.length) (Nat.le_refl _)
    have HQ := Lib.hid hq
    have hle : cs.length ≤ K.i + 1 := by simpa using hc
    have he : K.i + 1 = cs.length := by omega
    have HN := Lib.hid (next_end hh (p := q) hle (show ats.l[K.i + 1]? = some q by rw [he]; exact hq))
    clear h hh hm hg hi ht hc hle he hq
    go_enter Try.func98, Try.ntmps98
    go_wp2_with (go_at_call 100; refine HN.out.mono ?_; rintro e w1 ⟨rfl, hm⟩; have HM1 := Lib.hid hm; clear hm)
    exact ⟨rfl, q, HQ.out, rfl, HM.out.then HM1.out⟩
  | some d =>
    have HN := Lib.hid (next_ok hh hc ht.small)
    have HI : Hid (K.i + 2 ≤ cs.length) := Lib.hid (by have := (List.getElem?_eq_some_iff.1 hc).1; omega)
    clear h hh hm hg hi ht hc
    go_enter Try.func98, Try.ntmps98
    go_wp2_with (first
      | (go_at_call 100; refine HN.out.mono ?_; rintro e w1 ⟨rfl, h1, hm⟩
         have HE := Lib.hid (emit_one h1 (escC d) (HG.out.size HT.out.small))
         have HM1 := Lib.hid (HM.out.then (hm.mono fun k hk => .inl (hk ▸ HSB.out)))
         clear h1 hm)
      | (go_at_call 116; refine (escaped_calls _ _).mono ?_; rintro e w2 ⟨rfl, rfl⟩)
      | (go_at_call 51; refine HE.out.mono ?_; rintro e w2 ⟨rfl, hp⟩; have HP := Lib.hid hp; clear hp))
    (first | go_end0 | refine bodyPost_ret (results_none rfl _ _ _) rfl ?_)
    exact Po.emit (K1 := { K with i := K.i + 2, s := K.s + 1 }) (HM1.out.then (Mut.of_below ((Below.refl _ _).alloc (Nat.le_refl _) _))) (fun _ => .inl) ⟨rfl, rfl⟩ HP.out ⟨rfl, rfl⟩ (fun c hc => set_one hc) HG.out (by simp only; omega) HI.out rfl
/-- An atom. -/
theorem atom_calls (ht : Txt cs ats) {f : Nat} (ha : AltsOk cb cs ats f) (h : CpAt w cb A S cs ats K) (hg : Good K cs.length) {c : Int} (hc : cs[K.i]? = some c) (hne : pAtom cs (f + 1) K.i K.d K.s ≠ .bad 0 0) : Calls Try.prog 98 #[.pointer (some ⟨cb, 0, none⟩), .int .i32 c] w (Po w cb S cs ats K hd1 (pAtom cs (f + 1) K.i K.d K.s)) := by
  have hi := (List.getElem?_eq_some_iff.1 hc).1
  rw [pAtom, hc] at hne ⊢
  simp only at hne ⊢
  by_cases h40 : c = 40
  · subst h40
    rw [if_pos rfl] at hne ⊢
    by_cases hd : K.d = 64
    · rw [if_pos hd]
      exact atom_deep h ht hi hd
    · rw [if_neg hd] at hne ⊢
      exact atom_paren h ht hg hi hd ha fun e => by rw [e] at hne; exact hne rfl
  · rw [if_neg h40]
    unfold pChar
    by_cases h46 : c = 46
    · subst h46; rw [if_pos rfl]; exact atom_dot h ht hg hi
    rw [if_neg h46]
    by_cases h94 : c = 94
    · subst h94; rw [if_pos rfl]; exact atom_beg h ht hg hi
    rw [if_neg h94]
    by_cases h36 : c = 36
    · subst h36; rw [if_pos rfl]; exact atom_fin h ht hg hi
    rw [if_neg h36]
    by_cases h91 : c = 91
    · subst h91; rw [if_pos rfl]; exact atom_set h ht hg hi
    rw [if_neg h91]
    by_cases h92 : c = 92
    · subst h92; rw [if_pos rfl]; exact atom_esc h ht hg hi
    rw [if_neg h92]
    exact atom_one h ht hg hi h40 h46 h94 h36 h91 h92
end Go.Proofs.Ytcajnmhbkjngbaa

