/- Texts on regular expressions, merged: X16, X17, X18. -/
import Derived.Test.YtcajnmhbkjngbaaG08
import Derived.Recover
import Derived.Laws.Pointers
/- The compiler's alternatives: what their walk goes by. -/
namespace Go.Proofs.Ytcajnmhbkjngbaa
open Go.RowKit Go.Shelf
variable {w w' : World} {cb : Nat} {A : CA} {S : Nat → Prop} {cs : List Int} {ats : AT} {K : CS}

def nats (l : List Nat) : List Int := l.map Int.ofNat
theorem info_int : (Try.prog.info? 3).map (fun i => (i.zero, i.size, i.bytes)) = some (some (.int .i64 0), 1, 8) := by kernel_rfl
/-- While alternatives are read: the compiler, and the list of the jumps that are still to be laid. -/
structure AS (w : World) (cb : Nat) (S : Nat → Prop) (cs : List Int) (ats : AT) (K : CS) (wr : World) (A' : CA) (S' : Nat → Prop) (i t : Nat) (c : List CI) (EA : Option Addr) (EC : Nat) (ms : List Nat) : Prop where
  bs : BS w cb S cs ats K wr A' S' i t c
  own : wr.ownsRow 0 3 1 (.slice EA ms.length EC) ms.length (ints (nats ms))
  efr : ∀ a, EA = some a → w.heap.size ≤ a.block ∧ a.block < wr.heap.size ∧ ¬ S' a.block
  c0 : ∃ A0, CpAt w cb A0 S cs ats K
variable {wr w1 : World} {A' : CA} {S' : Nat → Prop} {i t : Nat} {c : List CI} {EA : Option Addr} {EC : Nat} {ms : List Nat}
theorem AS.below (h : AS w cb S cs ats K wr A' S' i t c EA EC ms) (hb : Below wr.heap.size wr w1) : AS w cb S cs ats K w1 A' S' i t c EA EC ms :=
  ⟨h.bs.below hb, own_below h.own hb, fun a ha => ⟨(h.efr a ha).1, Nat.lt_of_lt_of_le (h.efr a ha).2.1 hb.size, (h.efr a ha).2.2⟩, h.c0⟩
theorem AS.step (h : AS w cb S cs ats K wr A' S' i t c EA EC ms) {i' t' : Nat} {c' : List CI} (hp : CPo wr cb S' cs ats ⟨i', K.d, t', c'⟩ w1) (he : Ext K.code c') (hg : Good ⟨i', K.d, t', c'⟩ cs.length) : ∃ A2 S2, AS w cb S cs ats K w1 A2 S2 i' t' c' EA EC ms := by
  obtain ⟨A2, S2, h1, h2, h3⟩ := hp
  refine ⟨A2, S2, ⟨h1, h.bs.mm.trans h2 h.bs.sub, fun k hk => ?_, he, hg⟩, own_mut2 h.own h2 fun a ha e => (h.efr a ha).2.2 e, fun a ha => ⟨(h.efr a ha).1, Nat.lt_of_lt_of_le (h.efr a ha).2.1 h2.size, fun e => ?_⟩, h.c0⟩
  · rcases h3 k hk with e | e
    · exact h.bs.sub k e
    · exact .inr (Nat.le_trans h.bs.mm.size e)
  · rcases h3 _ e with e | e
    · exact (h.efr a ha).2.2 e
    · have := (h.efr a ha).2.1; omega
theorem AS.place (h : AS w cb S cs ats K wr A' S' i t c EA EC ms) (hi : i + 1 ≤ cs.length) : AS w cb S cs ats K (wr.setCell ⟨cb, 2, none⟩ (.int .i64 ((i : Int) + 1))) A' S' (i + 1) t c EA EC ms := by
  have hm : Mut S' wr (wr.setCell ⟨cb, 2, none⟩ (.int .i64 ((i : Int) + 1))) := Mut.setCell _ _ _ _ h.bs.cp.Sb
  have hg := h.bs.good
  exact ⟨⟨h.bs.cp.set 2 _ ⟨i + 1, K.d, t, c⟩ rfl rfl, h.bs.mm.trans hm h.bs.sub, h.bs.sub, h.bs.ext, ⟨hi, by have := hg.c; simp only at this ⊢; omega, by have := hg.s; simp only at this ⊢; omega, hg.d, hg.b⟩⟩, own_mut2 h.own hm fun a ha e => (h.efr a ha).2.2 e, fun a ha => ⟨(h.efr a ha).1, Nat.lt_of_lt_of_le (h.efr a ha).2.1 hm.size, (h.efr a ha).2.2⟩, h.c0⟩
theorem own_ty {w : World} {B n C size : Nat} {e : TypeId} {A : Option Addr} {xs : List Value} (h : w.ownsRow B e size (.slice A n C) n xs) : ∀ a, A = some a → ∃ cur, w.heap[a.block]? = some (.cells cur e (0, 0)) := fun a ha => by
  rcases h.2 with ⟨h1, _⟩ | ⟨g, cap, cur, h1, _, h3, _⟩
  · injection h1 with h1; rw [ha] at h1; cases h1
  · injection h1 with h1; rw [ha] at h1; injection h1 with h1; subst h1; exact ⟨cur, h3⟩
theorem AS.push (h : AS w cb S cs ats K wr A' S' i t c EA EC ms) {A1 : Option Addr} {C1 m : Nat} (hm : Mut (fun k => ∃ a, EA = some a ∧ a.block = k) wr w1) (ho : w1.ownsRow 0 3 1 (.slice A1 (ms.length + 1) C1) (ms.length + 1) (ints (nats ms) ++ [.int .i64 (m : Int)])) (hl : ∀ a1, A1 = some a1 → (∃ a, EA = some a ∧ a.block = a1.block) ∨ wr.heap.size ≤ a1.block) : AS w cb S cs ats K w1 A' S' i t c A1 C1 (ms ++ [m]) := by
  obtain ⟨A0, hc0⟩ := h.c0
  have hg : ∀ k, (∃ a, EA = some a ∧ a.block = k) → w.heap.size ≤ k ∧ ¬ S' k := fun k ⟨a, ha, e⟩ => e ▸ ⟨(h.efr a ha).1, (h.efr a ha).2.2⟩
  refine ⟨⟨h.bs.cp.mut hm (fun k _ e hs => (hg k e).2 hs) (fun a ha e => by have := (hg _ e).1; have := (hc0.nch a ha).1; omega) (fun a ha e => by have := (hg _ e).1; have := (hc0.nat a ha).1; omega) (fun x hx a ha ⟨b, hb, e⟩ => ?_), h.bs.mm.trans hm fun k e => .inr (hg k e).1, h.bs.sub, h.bs.ext, h.bs.good⟩, ?_, fun a ha => ?_, h.c0⟩
  · obtain ⟨cur, fr, hc⟩ := (h.bs.cp.sp x hx).ty a ha
    obtain ⟨cur2, hc2⟩ := own_ty h.own b hb
    rw [e] at hc2
    exact ne_ty hc2 hc (by decide) rfl
  · have e1 : ints (nats (ms ++ [m])) = ints (nats ms) ++ [.int .i64 (m : Int)] := by simp [ints, nats]
    rw [e1, List.length_append]
    exact ho
  · obtain ⟨cur, hc⟩ := own_ty ho a ha
    refine ⟨?_, lt_of_heap hc, fun e => ?_⟩
    · rcases hl a ha with ⟨b, hb, e⟩ | e
      · rw [← e]; exact (h.efr b hb).1
      · exact Nat.le_trans h.bs.mm.size e
    · rcases hl a ha with ⟨b, hb, e2⟩ | e2
      · exact (h.efr b hb).2.2 (e2 ▸ e)
      · have := h.bs.cp.Slt _ e; omega
/-- The jumps are laid. -/
def jmpC (c : List CI) (ms : List Nat) (t : Int) : List CI := ms.foldl (fun c m => c.set m (ci 3 t 0)) c
theorem jmpC_snoc (c : List CI) (ms : List Nat) (m : Nat) (t : Int) : jmpC c (ms ++ [m]) t = (jmpC c ms t).set m (ci 3 t 0) := by simp [jmpC]
theorem jmpC_len (c : List CI) (ms : List Nat) (t : Int) : (jmpC c ms t).length = c.length := by
  induction ms generalizing c with
  | nil => rfl
  | cons m ms ih => exact (ih (c.set m (ci 3 t 0))).trans List.length_set
theorem jmpC_out {c : List CI} {ms : List Nat} {t : Int} {k : Nat} (hk : k ∉ ms) : (jmpC c ms t)[k]? = c[k]? := by
  induction ms generalizing c with
  | nil => rfl
  | cons m ms ih =>
    have h1 := ih (c := c.set m (ci 3 t 0)) (fun e => hk (List.mem_cons_of_mem _ e))
    exact h1.trans (get_set_ne fun e => hk (e ▸ List.mem_cons_self))
theorem jmpC_in {c : List CI} {ms : List Nat} {t : Int} {k : Nat} (hk : k ∈ ms) (hl : k < c.length) : (jmpC c ms t)[k]? = some (ci 3 t 0) := by
  induction ms generalizing c with
  | nil => cases hk
  | cons m ms ih =>
    by_cases h : k ∈ ms
    · exact ih (c := c.set m (ci 3 t 0)) h (by rw [List.length_set]; exact hl)
    · have hkm : k = m := by rcases List.mem_cons.1 hk with e | e
                             · exact e
                             · exact absurd e h
      subst hkm
      have h1 := jmpC_out (c := c.set k (ci 3 t 0)) (t := t) h
      exact h1.trans (by rw [List.getElem?_set, if_pos rfl, if_pos hl])
theorem NBd.jmp {c : List CI} {ms : List Nat} {n t : Nat} (h : NBd c n) (ht : t ≤ n) : NBd (jmpC c ms t) n := by
  induction ms generalizing c with
  | nil => exact h
  | cons m ms ih => exact ih (h.set (by simp only [ci]; omega))
/-- What is still to be read of alternatives. -/
def TodoA (cs : List Int) (R : Res) (d : Nat) (ns : List Nd) (f i t : Nat) : Prop := preR ns (pAlts cs f i d t) = R ∧ R ≠ .bad 0 0
variable {R : Res} {d f : Nat} {ns : List Nd}
theorem TodoA.pos (h : TodoA cs R d ns f i t) : ∃ f', f = f' + 1 := by
  cases f with
  | zero => exact absurd (h.1.symm.trans (show preR ns (pAlts cs 0 i d t) = .bad 0 0 by rw [pAlts]; rfl)) h.2
  | succ f => exact ⟨f, rfl⟩
theorem TodoA.bad (h : TodoA cs R d ns (f + 1) i t) {p : Nat} {e : Int} (hb : pBranch cs f i d t = .bad p e) : R = .bad p e := by
  have h1 := h.1
  rw [pAlts, hb] at h1
  exact h1.symm
theorem TodoA.ne (h : TodoA cs R d ns (f + 1) i t) : pBranch cs f i d t ≠ .bad 0 0 := fun e => h.2 (h.bad e)
theorem TodoA.last (h : TodoA cs R d ns (f + 1) i t) {l : List Nd} {j u : Nat} (hb : pBranch cs f i d t = .ok l j u) (hj : cs[j]? ≠ some 124) : R = .ok (ns ++ [.cat l]) j u := by
  have h1 := h.1
  rw [pAlts, hb] at h1
  simp only [if_neg hj, preR] at h1
  exact h1.symm
theorem TodoA.next (h : TodoA cs R d ns (f + 1) i t) {l : List Nd} {j u : Nat} (hb : pBranch cs f i d t = .ok l j u) (hj : cs[j]? = some 124) : TodoA cs R d (ns ++ [.cat l]) f (j + 1) u := by
  have h1 := h.1
  rw [pAlts, hb] at h1
  simp only [if_pos hj] at h1
  refine ⟨?_, h.2⟩
  rw [← h1]
  cases pAlts cs f (j + 1) d u with
  | bad p e => rfl
  | ok ms k u => simp [preR]
/-- The code when a further alternative begins. -/
def barC (c0 c2 : List CI) : List CI := (insC c2 c0.length (ci 2 0 0) ++ [ci 3 0 0]).set c0.length (ci 2 ((c0.length : Int) + 1) ((c2.length : Int) + 2))
theorem barC_ok {c0 c2 : List CI} {n : Nd} {b : Nat} {ns : List Nd} {ms : List Nat} (hx : Ext c0 c2) (hb : NBd c2 c2.length) (hi : Impl (toIn (riL c2)) n c0.length c2.length) (hp : Pre (toIn (riL c0)) ns b c0.length ms) (hm : ∀ m ∈ ms, c0[m]? = some (ci 3 0 0)) :
    (barC c0 c2).length = c2.length + 2 ∧ NBd (barC c0 c2) (barC c0 c2).length ∧ Ext c0 (barC c0 c2) ∧ Pre (toIn (riL (barC c0 c2))) (ns ++ [n]) b (c2.length + 2) (ms ++ [c2.length + 1]) ∧ (∀ m ∈ ms ++ [c2.length + 1], (barC c0 c2)[m]? = some (ci 3 0 0)) ∧ (insC c2 c0.length (ci 2 0 0) ++ [ci 3 0 0])[c0.length]? = some (ci 2 0 0) := by
  have hle := hx.le
  have hil := len_insC (x := ci 2 0 0) hle
  have el : (barC c0 c2).length = c2.length + 2 := by unfold barC; rw [List.length_set, List.length_append, hil]; rfl
  have g0 : (barC c0 c2)[c0.length]? = some (ci 2 ((c0.length : Int) + 1) ((c2.length : Int) + 2)) := by unfold barC; rw [List.getElem?_set, if_pos rfl, if_pos (by rw [List.length_append, hil, List.length_singleton]; omega)]
  have g1 : (barC c0 c2)[c2.length + 1]? = some (ci 3 0 0) := by
    unfold barC
    rw [get_set_ne (by omega), List.getElem?_append_right (by omega), hil, Nat.sub_self]; rfl
  have gk : ∀ k, c0.length < k → k < c2.length + 1 → (barC c0 c2)[k]? = (insC c2 c0.length (ci 2 0 0))[k]? := fun k h1 h2 => by unfold barC; rw [get_set_ne (by omega), List.getElem?_append_left (by omega)]
  have gl : ∀ k, k < c0.length → (barC c0 c2)[k]? = c0[k]? := fun k hk => by unfold barC; rw [get_set_ne (by omega), List.getElem?_append_left (by omega), ext_insC hle hk, hx.get k hk]
  have hins : Impl (toIn (riL (insC c2 c0.length (ci 2 0 0)))) n (c0.length + 1) (c2.length + 1) := by
    rw [riL_insC]
    exact hi.ins (nn_of hb) (Nat.le_refl _) (by rw [riL_len]; exact hle)
  have hml : ∀ m ∈ ms, m < c0.length := fun m h => (List.getElem?_eq_some_iff.1 (hm m h)).1
  refine ⟨el, ?_, ⟨by omega, gl⟩, ?_, fun m h => ?_, ?_⟩
  · rw [el]
    unfold barC
    refine NBd.set (NBd.snoc ((hb.ins (by simp only [ci]; omega)).mono (by omega)) (by simp only [ci]; omega)) (by simp only [ci]; omega)
  · have hp2 : Pre (toIn (riL (barC c0 c2))) ns b c0.length ms := hp.congr fun k _ hk _ => by rw [get_toIn, get_toIn, gl k hk]
    refine hp2.snoc (n := n) (m := c2.length + 1) ?_ (hins.congr fun k h1 h2 => by rw [get_toIn, get_toIn, gk k (by omega) h2])
    rw [get_toIn, g0]
    exact congrArg some (to_split (x := c0.length + 1) (y := c2.length + 1 + 1))
  · rcases List.mem_append.1 h with h | h
    · rw [gl m (hml m h)]; exact hm m h
    · rw [List.mem_singleton] at h; subst h; exact g1
  · rw [List.getElem?_append_left (by omega)]; exact get_insC hle
/-- What lies where while the jumps are laid. -/
structure Jm (K : CS) (c c2 : List CI) (ms : List Nat) (ns : List Nd) (l : List Nd) : Prop where
  pre : Pre (toIn (riL c)) ns K.code.length c.length ms
  jm : ∀ m ∈ ms, c[m]? = some (ci 3 0 0)
  ext : Ext c c2
  ext0 : Ext K.code c2
  im : Impl (toIn (riL c2)) (.cat l) c.length c2.length
variable {c2 : List CI} {l : List Nd} {j u : Nat}
theorem Jm.lo (h : Jm K c c2 ms ns l) {m : Nat} (hm : m ∈ ms) : K.code.length ≤ m ∧ m < c.length := h.pre.le.2 m hm
theorem Jm.extJ (h : Jm K c c2 ms ns l) (q : Nat) (t : Int) : Ext K.code (jmpC c2 (ms.take q) t) :=
  ⟨by rw [jmpC_len]; exact h.ext0.le, fun k hk => (jmpC_out fun e => by have := h.lo (List.mem_of_mem_take e); omega).trans (h.ext0.get k hk)⟩
/-- One jump is laid. -/
theorem AS.jump (h : AS w cb S cs ats K wr A' S' i t (jmpC c2 (ms.take j) c2.length) EA EC ms) (hj : Jm K c c2 ms ns l) (hq : j < ms.length) :
    ∃ g ge m, A'.cd = some ⟨g, 0, none⟩ ∧ EA = some ⟨ge, 0, none⟩ ∧ m < c2.length ∧ g < wr.heap.size ∧ ge < wr.heap.size ∧ g ≠ cb ∧ wr.cell? ⟨ge, j, none⟩ = some (.int .i64 (m : Int)) ∧ (∃ v, wr.cell? ⟨g, m * 5 + 1, none⟩ = some (.int .i64 v)) ∧ wr.frozen? ⟨g, m * 5 + 1, none⟩ = false ∧
      AS w cb S cs ats K (wr.setCell ⟨g, m * 5 + 1, none⟩ (.int .i64 (c2.length : Int))) A' S' i t (jmpC c2 (ms.take (j + 1)) c2.length) EA EC ms := by
  have hm : ms[j] ∈ ms := List.getElem_mem hq
  have hml := (hj.lo hm).2
  have hle := hj.ext.le
  have hc2 : c2[ms[j]]? = some (ci 3 0 0) := (hj.ext.get _ hml).trans (hj.jm _ hm)
  obtain ⟨v, hv⟩ : ∃ v, (jmpC c2 (ms.take j) c2.length)[ms[j]]? = some (ci 3 v 0) := by
    by_cases e : ms[j] ∈ ms.take j
    · exact ⟨_, jmpC_in e (by omega)⟩
    · exact ⟨0, (jmpC_out e).trans hc2⟩
  obtain ⟨g, hA, hg, hcell, hfz, hu⟩ := h.bs.cp.upd (j := 1) (v := .int .i64 (c2.length : Int)) (ci 3 (c2.length : Int) 0) hv (by omega) rfl rfl rfl
  obtain ⟨ge, hE, _, hge, hec, _⟩ := own_cell h.own j (by omega)
  obtain ⟨cur, hcur, _⟩ := h.bs.cp.row _ hA
  have hS : S' g := h.bs.cp.Sc _ hA
  have hms : Mut S' wr (wr.setCell ⟨g, ms[j] * 5 + 1, none⟩ (.int .i64 (c2.length : Int))) := Mut.setCell _ _ _ _ hS
  have e1 : (jmpC c2 (ms.take j) c2.length).set ms[j] (ci 3 (c2.length : Int) 0) = jmpC c2 (ms.take (j + 1)) c2.length := by
    rw [List.take_succ_eq_append_getElem hq, jmpC_snoc]
  refine ⟨g, ge, ms[j], hA, hE, by omega, hg, hge, ne_ty hcur h.bs.cp.blk (by decide), ?_, ⟨v, hcell⟩, hfz, ⟨⟨?_, h.bs.mm.trans hms h.bs.sub, h.bs.sub, hj.extJ _ _, ?_⟩, own_mut2 h.own hms fun a ha e => (h.efr a ha).2.2 e, fun a ha => ⟨(h.efr a ha).1, Nat.lt_of_lt_of_le (h.efr a ha).2.1 hms.size, (h.efr a ha).2.2⟩, h.c0⟩⟩
  · rw [hec]; simp [ints, nats, hq]
  · rw [← e1]; exact hu
  · have hgd := h.bs.good
    refine ⟨hgd.i, ?_, hgd.s, hgd.d, ?_⟩
    · have := hgd.c; simp only [jmpC_len] at this ⊢; exact this
    · have hb := hgd.b
      simp only [jmpC_len] at hb ⊢
      rw [← e1]
      exact hb.set (by simp only [ci]; omega)
/-- All jumps are laid. -/
theorem Jm.done (hj : Jm K c c2 ms ns l) : Impl (toIn (riL (jmpC c2 ms c2.length))) (.alt (ns ++ [.cat l])) K.code.length (jmpC c2 ms c2.length).length := by
  rw [jmpC_len]
  have hlt : ∀ m ∈ ms, m < c.length := fun m h => (hj.lo h).2
  have hle := hj.ext.le
  refine Pre.close (hj.pre.congr fun k _ h2 h3 => ?_) (hj.im.congr fun k h1 h2 => ?_) fun m hm => ?_
  · rw [get_toIn, get_toIn, jmpC_out h3, hj.ext.get k h2]
  · rw [get_toIn, get_toIn, jmpC_out fun e => by have := hlt k e; omega]
  · rw [get_toIn, jmpC_in hm (by have := hlt m hm; omega)]
    exact congrArg some to_jump
end Go.Proofs.Ytcajnmhbkjngbaa

/- The compiler's alternatives: the walk. -/
namespace Go.Proofs.Ytcajnmhbkjngbaa
open Go.RowKit Go.Shelf
variable {w w' : World} {cb : Nat} {A : CA} {S : Nat → Prop} {cs : List Int} {ats : AT} {K : CS}

theorem Ext.insC {a c : List CI} {f : Nat} {x : CI} (h : Ext a c) (h1 : a.length ≤ f) (h2 : f ≤ c.length) : Ext a (insC c f x) := ⟨by rw [len_insC h2]; have := h.le; omega, fun k hk => (ext_insC h2 (by omega)).trans (h.get k hk)⟩
set_option maxRecDepth 100000 in
set_option maxHeartbeats 4000000 in
theorem alts_calls (ht : Txt cs ats) (hcs : ∀ x ∈ cs, 0 ≤ x ∧ x ≤ 1114111) {f : Nat} (ha : ∀ g, g + 3 ≤ f → AltsOk cb cs ats g) (h : CpAt w cb A S cs ats K) (hg : Good K cs.length) (hne : pAlts cs f K.i K.d K.s ≠ .bad 0 0) :
    Calls Try.prog 50 #[.pointer (some ⟨cb, 0, none⟩)] w (Po w cb S cs ats K .alt (pAlts cs f K.i K.d K.s)) := by
  have HT := Lib.hid ht
  have HCS := Lib.hid hcs
  have HA := Lib.hid ha
  have HB0 : Hid (AS w cb S cs ats K w A S K.i K.s K.code none 0 []) := Lib.hid ⟨⟨h, Mut.refl _ _, fun _ => .inl, Ext.refl _, hg⟩, World.ownsRow_nil _ _ _ _, fun a ha => (by cases ha), A, h⟩
  have HTD : Hid (TodoA cs (pAlts cs f K.i K.d K.s) K.d [] f K.i K.s) := Lib.hid ⟨preR_nil _, hne⟩
  have hsm := ht.tiny
  obtain ⟨c0, c1, c2, c3, c4, c5, hf⟩ := h.cells
  generalize hR : pAlts cs f K.i K.d K.s = R at *
  clear h hg hne ha hcs hR ht
  go_enter Try.func50, Try.ntmps50
  go_wp2
  clear c0 c1 c2 c3 c4 c5 hf
  go_loopg [2, 3] (cs.length + 1 - K.i) (fun k s2 s3 wr => ∃ (A' : CA) (S' : Nat → Prop) (i t f' : Nat) (c : List CI) (EA : Option Addr) (EC : Nat) (ms : List Nat) (ns : List Nd), s2 = .int .i64 (c.length : Int) ∧ s3 = .slice EA ms.length EC ∧ Hid (cs.length + 1 - i = k) ∧ Hid (AS w cb S cs ats K wr A' S' i t c EA EC ms) ∧ Hid (TodoA cs R K.d ns f' i t ∧ f' ≤ f) ∧ Hid (Pre (toIn (riL c)) ns K.code.length c.length ms ∧ (∀ m ∈ ms, c[m]? = some (ci 3 0 0)) ∧ ms.length ≤ i))
  case atStart => exact ⟨A, S, K.i, K.s, f, K.code, none, 0, [], [], rfl, rfl, Lib.hid rfl, HB0, Lib.hid ⟨HTD.out, Nat.le_refl _⟩, Lib.hid ⟨.nil, fun m h => (by cases h), Nat.zero_le _⟩⟩
  case round =>
    clear HB0 HTD
    obtain ⟨A', S', i, t, f', c, EA, EC, ms, ns, rfl, rfl, HK, HB, HTD, HI⟩ := hrel
    obtain ⟨f2, hf2⟩ := HTD.out.1.pos
    subst hf2
    have HF2 : Hid (f2 + 1 ≤ f) := Lib.hid HTD.out.2
    have HBR := Lib.hid (branch_calls HT.out HCS.out (fun g hg => HA.out g (by have := HF2.out; omega)) HB.out.bs.cp HB.out.bs.good HTD.out.1.ne)
    simp only at HBR
    cases hr : pBranch cs f2 i K.d t with
    | bad p ec =>
      have HR := Lib.hid (HTD.out.1.bad hr)
      rw [hr] at HBR
      clear hr
      go_wp2_with (go_at_call 81; refine HBR.out.mono ?_; rintro e w2 ⟨q, hq, rfl, hm⟩; have HQ := Lib.hid hq; have HM2 := Lib.hid hm; clear hq hm)
      rw [HR.out]
      exact ⟨rfl, q, HQ.out, rfl, HB.out.bs.mm.trans HM2.out HB.out.bs.sub⟩
    | ok l j u =>
      have HRB := Lib.hid hr
      have HJL : Hid (i ≤ j ∧ j ≤ cs.length) := Lib.hid ((parse_le cs f2).2.1 _ _ _ _ _ _ HB.out.bs.good.i hr)
      rw [hr] at HBR
      clear hr
      go_upto_region 3 with (first
        | (go_at_call 81; refine HBR.out.mono ?_; rintro e w2 ⟨rfl, c2, hp, hx, him, hgd⟩
           have HB2 := Lib.hid (HB.out.step hp (HB.out.bs.ext.trans hx) hgd)
           have HX2 := Lib.hid hx
           have HI2 := Lib.hid him
           clear hp hx him hgd))
      obtain ⟨A2, S2, hb2⟩ := HB2.out
      have HB3 := Lib.hid hb2
      clear hb2 HB2 HBR
      go_cut [28] from 13 to 28 (fun s28 wx => ∃ (b : Bool), s28 = .bool b ∧ Hid (b = !decide (cs[j]? = some 124)) ∧ Hid (AS w cb S cs ats K wx A2 S2 j u c2 EA EC ms))
      case first =>
        obtain ⟨d0, d1, d2, d3, d4, d5, df⟩ := HB3.out.bs.cp.cells
        by_cases hlt : j < cs.length
        · obtain ⟨g, hA, hg, c6⟩ := HB3.out.bs.cp.chs j hlt
          rw [hA] at d0
          have HM := Lib.hid (more_q HB3.out.bs.cp (b := true) (decide_eq_true hlt))
          have HIG : Hid (cs[j]? = some cs[j]) := Lib.hid (List.getElem?_eq_getElem _)
          have q3 : (j : Int) < (cs.length : Int) := by omega
          clear hA
          generalize cs[j] = y at *
          by_cases h124 : y = 124
          · subst h124
            have HO : Hid (false = !decide (cs[j]? = some 124)) := Lib.hid (by rw [HIG.out]; rfl)
            go_quiet ((go_at_call 82; exact Calls.quiet_of (HM.out _)))
            go_wp2_with (fail)
            go_meet
            case rel => exact ⟨false, rfl, HO, Lib.hid (HB3.out.below (below_dn (Below.refl _ _) nq))⟩
          · have HO : Hid (true = !decide (cs[j]? = some 124)) := Lib.hid (by rw [HIG.out]; simp [h124])
            have hb1 : (y == 124) = false := by simpa using h124
            have hb2 : (y != 124) = true := by simpa using h124
            go_quiet ((go_at_call 82; exact Calls.quiet_of (HM.out _)))
            go_wp2_with (fail)
            go_meet
            case rel => exact ⟨true, rfl, HO, Lib.hid (HB3.out.below (below_dn (Below.refl _ _) nq))⟩
        · have HM := Lib.hid (more_q HB3.out.bs.cp (b := false) (decide_eq_false hlt))
          have HO : Hid (true = !decide (cs[j]? = some 124)) := Lib.hid (by rw [List.getElem?_eq_none (by omega)]; simp)
          go_quiet ((go_at_call 82; exact Calls.quiet_of (HM.out _)))
          go_wp2_with (fail)
          go_meet
          case rel => exact ⟨true, rfl, HO, Lib.hid (HB3.out.below (below_dn (Below.refl _ _) nq))⟩
      case rest =>
        obtain ⟨b, rfl, HBO, HB5⟩ := hcut
        clear HB3
        cases b
        · have HJB : Hid (cs[j]? = some 124) := Lib.hid (by
            have h1 := HBO.out
            by_cases e : cs[j]? = some 124
            · exact e
            · rw [decide_eq_false e] at h1; cases h1)
          have HTD2 := Lib.hid (HTD.out.1.next HRB.out HJB.out)
          have hle : c.length ≤ c2.length := HX2.out.le
          have hj1 : j + 1 ≤ cs.length := (List.getElem?_eq_some_iff.1 HJB.out).1
          have HP := Lib.hid (HB5.out.place hj1)
          obtain ⟨b1, b2, b3, b4, b5, b6⟩ := barC_ok HX2.out HB5.out.bs.good.b HI2.out HI.out.1 HI.out.2.1
          have HBC := Lib.hid (And.intro b1 (And.intro b2 (And.intro b3 (And.intro b4 (And.intro b5 b6)))))
          have hn2 : c2.length ≤ 20000 := by have h1 := HB5.out.bs.good.c; simp only at h1; omega
          have HIN := Lib.hid (insert_ci HP.out.bs.cp 2 0 0 c.length hle HP.out.bs.good.b (show c2.length ≤ 1000000 by omega))
          have HG3 : Hid (Good ⟨j + 1, K.d, u, insC c2 c.length (ci 2 0 0)⟩ cs.length ∧ Ext K.code (insC c2 c.length (ci 2 0 0))) := Lib.hid ⟨⟨hj1, by have h1 := HB5.out.bs.good.c; simp only [len_insC hle] at h1 ⊢; omega, HP.out.bs.good.s, HP.out.bs.good.d, by simp only [len_insC hle]; exact HB5.out.bs.good.b.ins (by simp only [ci]; omega)⟩, HB5.out.bs.ext.insC HB.out.bs.ext.le hle⟩
          have HG4 : Hid (Good ⟨j + 1, K.d, u, insC c2 c.length (ci 2 0 0) ++ [ci 3 0 0]⟩ cs.length ∧ Ext K.code (insC c2 c.length (ci 2 0 0) ++ [ci 3 0 0])) := Lib.hid ⟨⟨hj1, by have h1 := HB5.out.bs.good.c; simp only [List.length_append, len_insC hle, List.length_singleton] at h1 ⊢; omega, HP.out.bs.good.s, HP.out.bs.good.d, by simp only [List.length_append, len_insC hle, List.length_singleton]; exact (((show NBd c2 c2.length from HB5.out.bs.good.b).ins (by simp only [ci]; omega)).mono (m := c2.length + 1 + 1) (by omega)).snoc (by simp only [ci]; omega)⟩, HG3.out.2.trans (Ext.snoc _ _)⟩
          have HG5 : Hid (Good ⟨j + 1, K.d, u, barC c c2⟩ cs.length ∧ Ext K.code (barC c c2)) := Lib.hid ⟨⟨hj1, by have h1 : c2.length ≤ 2 * j := HB5.out.bs.good.c; simp only [b1]; omega, HP.out.bs.good.s, HP.out.bs.good.d, b2⟩, HB.out.bs.ext.trans b3⟩
          have HLI := Lib.hid (len_insC (x := ci 2 0 0) hle)
          obtain ⟨d0, d1, d2, d3, d4, d5, df⟩ := HB5.out.bs.cp.cells
          have q1 : j ≤ 10000 := by omega
          have q2 : (c.length : Int) ≤ (c2.length : Int) := by omega
          have HMS : Hid (ms.length ≤ 10000) := Lib.hid (by have h1 := HI.out.2.2; have h2 := HJL.out; omega)
          clear b1 b2 b3 b4 b5 b6 hj1
          go_wp2_with (first
            | (go_at_call 83; refine HIN.out.mono ?_; rintro e w3 ⟨rfl, hp⟩
               obtain ⟨A3, S3, hb3⟩ := HP.out.step hp HG3.out.2 HG3.out.1
               have HB6 := Lib.hid hb3
               have he := emit_ci hb3.bs.cp 3 0 0 (by have := HLI.out; simp only; omega)
               simp only [HLI.out] at he
               have HE := Lib.hid he
               clear hp hb3 he)
            | (go_at_call 51; refine HE.out.mono ?_; rintro e w4 ⟨rfl, hp⟩
               obtain ⟨A4, S4, hb4⟩ := HB6.out.step hp HG4.out.2 HG4.out.1
               have HB7 := Lib.hid hb4
               clear hp hb4)
            | (at_builtin
               refine app_gen Try.underlying24 info_int rfl (by decide) (by decide) rfl _ _ rfl 0 EA EC ms.length (ints (nats ms)) #[.int .i64 ((c2.length + 1 : Nat) : Int)] rfl HB7.out.own rfl rfl rfl ?k1 (by have := HMS.out; omega) (Nat.zero_le _) ?_
               case k1 => intro u hu; simp only [List.mem_cons, List.not_mem_nil, or_false] at hu; rcases hu with rfl; rfl
               intro E1 F1 w5 ho hm hl
               have hb5 := HB7.out.push (m := c2.length + 1) hm ho hl
               obtain ⟨g, hA, hne, hg, ⟨v1, r1⟩, ⟨v2, r2⟩, r3, r4, p1, p2⟩ := hb5.bs.cp.set2 HBC.out.2.2.2.2.2 ((c.length : Int) + 1) ((c2.length : Int) + 2)
               obtain ⟨e0, e1, e2, e3, e4, e5, ef⟩ := hb5.bs.cp.cells
               have HB8 := Lib.hid (hb5.step p1.drew HG5.out.2 HG5.out.1)
               simp only [List.length_append, List.length_singleton, HLI.out] at e5
               rw [hA] at e5
               clear ho hm hl hb5 p1 p2 hA e0 e1 e2 e3 e4))
          have HJ2 : Hid (i < j + 1) := Lib.hid (by have := HJL.out; omega)
          go_region
          go_wp2
          obtain ⟨A5, S5, hb9⟩ := HB8.out
          go_roundg (cs.length - j)
          case measure => have h1 := HK.out; have h2 := HJL.out; have h3 := (List.getElem?_eq_some_iff.1 HJB.out).1; omega
          case rel => exact ⟨A5, S5, j + 1, u, f2, barC c c2, E1, F1, ms ++ [c2.length + 1], ns ++ [.cat l], by rw [HBC.out.1]; go_num, by rw [List.length_append]; rfl, Lib.hid (by omega), Lib.hid hb9, Lib.hid ⟨HTD2.out, by have := HF2.out; omega⟩, Lib.hid ⟨by rw [HBC.out.1]; exact HBC.out.2.2.2.1, HBC.out.2.2.2.2.1, by have h1 := HI.out.2.2; have h2 := HJL.out; rw [List.length_append, List.length_singleton]; omega⟩⟩
        · have HR := Lib.hid (HTD.out.1.last HRB.out (by have h1 := HBO.out; intro e; rw [e] at h1; exact absurd h1 (by decide)))
          have HJM : Hid (Jm K c c2 ms ns l) := Lib.hid ⟨HI.out.1, HI.out.2.1, HX2.out, HB5.out.bs.ext, HI2.out⟩
          go_wp2_with (fail)
          go_loopw [74] (fun p wr => ∃ q : Nat, q ≤ ms.length ∧ p = .int .i64 (q : Int) ∧ Hid (AS w cb S cs ats K wr A2 S2 j u (jmpC c2 (ms.take q) c2.length) EA EC ms)) (fun p _ => ms.length - (intOf p).toNat)
          case atStart => exact ⟨0, Nat.zero_le _, rfl, HB5⟩
          case round =>
            obtain ⟨q, hq, rfl, HB6⟩ := hrel
            by_cases hlt : q < ms.length
            · obtain ⟨g, ge, m, hA, hE, hm2, hg, hge, hne, r1, ⟨v, r2⟩, r3, hb7⟩ := HB6.out.jump HJM.out hlt
              rw [hE] at hb7
              have HB7 := Lib.hid hb7
              obtain ⟨d0, d1, d2, d3, d4, d5, df⟩ := HB6.out.bs.cp.cells
              simp only [jmpC_len] at d5
              rw [hA] at d5
              rw [hE]
              have q1 : (q : Int) < (ms.length : Int) := by omega
              have q2 : (m : Int) < (c2.length : Int) := by omega
              have q3 : ms.length ≤ 10000 := by have h1 := HI.out.2.2; have h2 := HJL.out; omega
              clear hb7 hA hE HB5
              go_wp2
              go_region
              go_wp2
              go_roundw
              case rel => exact ⟨q + 1, by omega, by go_num, Lib.hid (HB7.out.below (Below.refl _ _).drew)⟩
              case measure => simp [intOf]; omega
            · obtain rfl : q = ms.length := by omega
              have HB8 : Hid (AS w cb S cs ats K wr A2 S2 j u (jmpC c2 ms c2.length) EA EC ms) := Lib.hid (by have := HB6.out; rwa [List.take_length] at this)
              clear hlt hq HB6
              go_wp2
              (first | go_end0 | refine bodyPost_ret (results_none rfl _ _ _) rfl ?_)
              rw [HR.out]
              exact ⟨rfl, _, HB8.out.bs.cpo, HB8.out.bs.ext, HJM.out.done, HB8.out.bs.good⟩
end Go.Proofs.Ytcajnmhbkjngbaa

/- Compile's deferred closure; the recursion closed. -/
namespace Go.Proofs.Ytcajnmhbkjngbaa
open Go.RowKit Go.Shelf
variable {w w' : World} {cb : Nat} {A : CA} {S : Nat → Prop} {cs : List Int} {ats : AT} {K : CS}

theorem alts_ok (ht : Txt cs ats) (hcs : ∀ x ∈ cs, 0 ≤ x ∧ x ≤ 1114111) (f : Nat) : AltsOk cb cs ats f := by
  induction f using Nat.strongRecOn with
  | ind f ih => exact fun w A S K h hg hne => alts_calls ht hcs (fun g hg => ih g (by omega)) h hg hne
set_option maxRecDepth 100000 in
theorem catch_idle (a b : Addr) (w : World) :
    CallsD Try.prog 49 #[.pointer (some a), .pointer (some b)] .returning w fun e u' w' => e = .returned (.tuple #[]) ∧ u' = .returning ∧ w' = w := by
  refine callsD_of_wpS Try.func49 rfl fun c₀ cs hu => ?_
  simp only [Try.ntmps49, List.size_toArray, List.length_cons, List.length_nil, Nat.reduceAdd, Nat.reduceSub, Array.replicate_succ, Array.replicate_zero, List.push_toArray, List.append_toArray, List.nil_append, List.cons_append]
  apply wpS_seq
  apply wpS_region
  simp [wpOpsS, go_sem, recoverD, hu, Exit.thenS]
  refine wpS_of_wp ?_
  go_wp2
  cases c₀
  simp_all [bodyPostS, results, Try.results49]
set_option maxRecDepth 100000 in
theorem catch_fault (rb fb : Nat) (p c : Int) (older : List PanicEntry) (w : World) (vr v0 v1 : Value) (hne : rb ≠ fb) (c0 : w.cell? ⟨rb, 0, none⟩ = some vr) (c1 : w.cell? ⟨fb, 0, none⟩ = some v0) (c2 : w.cell? ⟨fb, 1, none⟩ = some v1) (f0 : ∀ i, w.frozen? ⟨rb, i, none⟩ = false) (f1 : ∀ i, w.frozen? ⟨fb, i, none⟩ = false) (l0 : rb < w.heap.size) (l1 : fb < w.heap.size) :
    CallsD Try.prog 49 #[.pointer (some ⟨rb, 0, none⟩), .pointer (some ⟨fb, 0, none⟩)] (.panicking ({ v := .iface 30 (.agg #[.int .i64 p, .int .i64 c]), recovered := false } :: older)) w fun e u' w' =>
      e = .returned (.tuple #[]) ∧ u' = .panicking ({ v := .iface 30 (.agg #[.int .i64 p, .int .i64 c]), recovered := true } :: older) ∧ w' = ((((w.setCell ⟨rb, 0, none⟩ (.pointer none)).setCell ⟨fb, 0, none⟩ (.int .i64 p)).setCell ⟨fb, 1, none⟩ (.int .i64 c)).alloc (.cells #[.int .i64 p, .int .i64 c] 30)).drew := by
  refine callsD_of_wpS Try.func49 rfl fun c₀ cs hu => ?_
  simp only [Try.ntmps49, List.size_toArray, List.length_cons, List.length_nil, Nat.reduceAdd, Nat.reduceSub, Array.replicate_succ, Array.replicate_zero, List.push_toArray, List.append_toArray, List.nil_append, List.cons_append]
  apply wpS_seq
  apply wpS_region
  simp [wpOpsS, go_sem, recoverD, hu, Exit.thenS]
  have hta : ∀ W : World, (Instr.typeAssert (Value.iface 30 (.agg #[.int .i64 p, .int .i64 c])) 20 30 true).run Try.prog W = .ok (.tuple #[.agg #[.int .i64 p, .int .i64 c], .bool true]) W := fun W => by kernel_rfl
  refine wpS_of_wp ?_
  go_wp2
  go_region
  go_wp2
  simp [bodyPostS, results, Try.results49]
end Go.Proofs.Ytcajnmhbkjngbaa

