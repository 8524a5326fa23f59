/- Contract of the reference: Kill. -/
import Derived.Test.YtnbjknjnpfmklaaP34
namespace Go.Proofs.Ytnbjknjnpfmklaa
open Go.RowKit

/-- What the loop of the reference's Kill carries. -/
structure RKill (w wr : World) (m : Nat) (p p' : RA) (c : Int) (S : Tb) (A3 : Option Addr) (C3 : Nat) (out : List Int) : Prop where
  tab : RefAt wr m p' c S
  mm : Mut (p.fp m) w wr
  fp : ∀ k, p'.fp m k → p.fp m k ∨ w.heap.size ≤ k
  sA : p'.sA = p.sA
  own : wr.ownsRow w.heap.size 3 1 (.slice A3 out.length C3) out.length (ints out)
  d3 : ∀ a, A3 = some a → ¬ p'.fp m a.block
  sl : ∀ a, p.sA = some a → a.block < w.heap.size
theorem RKill.alloc {w wr : World} {m : Nat} {p p' : RA} {c : Int} {S : Tb} {A3 : Option Addr} {C3 : Nat} {out : List Int} (h : RKill w wr m p p' c S A3 C3 out) (o : Obj) : RKill w (wr.alloc o) m p p' c S A3 C3 out :=
  ⟨h.tab.below ((Below.refl _ _).alloc (Nat.le_refl _) o), h.mm.alloc o, h.fp, h.sA, h.own.alloc o, h.d3, h.sl⟩
theorem RKill.lt3 {w wr : World} {m : Nat} {p p' : RA} {c : Int} {S : Tb} {A3 : Option Addr} {C3 : Nat} {out : List Int} (h : RKill w wr m p p' c S A3 C3 out) (a : Addr) (ha : A3 = some a) : w.heap.size ≤ a.block ∧ a.block < wr.heap.size := own_blk h.own a ha
theorem RKill.step {w W W' : World} {m : Nat} {p p' p2 : RA} {c c2 : Int} {S S2 : Tb} {A3 : Option Addr} {C3 : Nat} {out : List Int} (h : RKill w W m p p' c S A3 C3 out) (ht : RefAt W' m p2 c2 S2) (hm : Mut (p'.fp m) W W')
    (hf : ∀ k, p2.fp m k → p'.fp m k ∨ W.heap.size ≤ k) (hs : p2.sA = p'.sA) : RKill w W' m p p2 c2 S2 A3 C3 out where
  tab := ht
  mm := h.mm.trans hm h.fp
  fp := fun k hk => (hf k hk).elim (h.fp k) (fun h1 => .inr (Nat.le_trans h.mm.size h1))
  sA := hs.trans h.sA
  own := own_mut2 h.own hm fun a ha => h.d3 a ha
  d3 := fun a ha hk => (hf _ hk).elim (h.d3 a ha) (fun h1 => by have := (h.lt3 a ha).2; omega)
  sl := h.sl
theorem RKill.push {w W W' : World} {m : Nat} {p p' : RA} {c : Int} {S : Tb} {A3 : Option Addr} {C3 : Nat} {out : List Int} {x : Int} {g cap : Nat} (h : RKill w W m p p' c S A3 C3 out)
    (ho : W'.ownsRow w.heap.size 3 1 (.slice (some ⟨g, 0, none⟩) (out.length + 1) cap) (out.length + 1) (ints (out ++ [x]))) (hg : W.grownBy W' (Value.slice A3 out.length C3).ownBlock) (hl : (Value.slice A3 out.length C3).ownBlock = some g ∨ g = W.heap.size) :
    RKill w W' m p p' c S (some ⟨g, 0, none⟩) cap (out ++ [x]) := by
  have hm : Mut (fun k => ∃ a, A3 = some a ∧ a.block = k) W W' := Mut.of_grown hg fun k hk => .inl (ownB hk)
  have e : (out ++ [x]).length = out.length + 1 := by simp
  refine ⟨h.tab.mut hm (fun k hk => ?_) (fun a ha => ?_), h.mm.trans hm (fun k hk => ?_), h.fp, h.sA, by rw [e]; exact ho, fun a ha hk => ?_, h.sl⟩
  · rintro ⟨a, ha, rfl⟩; exact h.d3 a ha hk
  · rintro ⟨b, hb, e⟩; have h1 := h.sl a (h.sA ▸ ha); have h2 := (h.lt3 b hb).1; omega
  · obtain ⟨a, ha, rfl⟩ := hk; exact .inr (h.lt3 a ha).1
  · injection ha with ha
    subst ha
    rcases hl with h1 | h1
    · obtain ⟨b, hb, e⟩ := ownB h1
      exact h.d3 b hb (by rw [e]; exact hk)
    · have := h.tab.fp_lt _ hk
      simp at this
      omega
theorem Cnt.kill1 {c : Int} {S : Tb} (h : Cnt c S) (id : Int) : Cnt c (kill1 S id) := by
  obtain ⟨_, _, k3, k4, k5, _⟩ := kill1_P S id
  intro hne
  rw [k3] at hne
  rw [k4, k5]
  by_cases e : id = S.cur
  · rw [if_pos e] at hne; exact absurd rfl hne
  · rw [if_neg e] at hne ⊢; exact h hne
/-- Both cells of an ended process are written. -/
theorem RefAt.endP {w : World} {m : Nat} {p : RA} {c : Int} {S : Tb} (h : RefAt w m p c S) (g j : Nat) (hA : p.pA = some ⟨g, 0, none⟩) (hj : j < S.P.length) :
    RefAt ((w.setCell ⟨g, j * 5 + 2, none⟩ (.int .i64 6)).setCell ⟨g, j * 5 + 3, none⟩ (.string ⟨#[]⟩)) m p c (endP S ((j : Int) + 1)) := by
  have h2 := (h.put g j 2 hA hj (by omega) (.int .i64 6) (fun p => { p with state := 6 }) rfl).put g j 3 hA (by show j < (setP S.P _ _).length; rw [len_setP]; exact hj) (by omega) (.string ⟨#[]⟩) (fun p => { p with why := ⟨#[]⟩ }) rfl
  refine h2.as rfl rfl rfl rfl ?_ rfl rfl
  show setP S.P _ _ = setP (setP S.P ((j : Int) + 1) _) ((j : Int) + 1) _
  rw [setP_setP]
def RKillR (w : World) (m : Nat) (p : RA) (T : Tb) (pid : Int) (grp : Bool) (e : Ending) (w' : World) : Prop := ∃ A C, e = .returned (.tuple #[.slice A (killL T pid grp).length C, .int .i64 (killE T pid grp)]) ∧ RowI w' A (killL T pid grp) ∧ Rx w m p (killT T pid grp) w'
theorem rkill_none {w w' : World} {m : Nat} {p p' : RA} {c : Int} {T : Tb} {pid : Int} {grp : Bool} {A3 : Option Addr} {C3 : Nat} (hK : RKill w w' m p p' c (killT T pid grp) A3 C3 (killL T pid grp)) (hc : Cnt c (killT T pid grp)) (h0 : killL T pid grp = []) : RKillR w m p T pid grp (.returned (.tuple #[.slice none 0 0, .int .i64 4])) w' :=
  ⟨none, 0, by rw [show killE T pid grp = 4 from if_pos h0, h0]; rfl, fun j hj => by rw [h0] at hj; exact absurd hj (Nat.not_lt_zero _), p', c, hK.tab, hc, hK.mm, hK.fp, hK.sA⟩
theorem rkill_some {w w' : World} {m : Nat} {p p' : RA} {c : Int} {T : Tb} {pid : Int} {grp : Bool} {A3 : Option Addr} {C3 : Nat} (hK : RKill w w' m p p' c (killT T pid grp) A3 C3 (killL T pid grp)) (hc : Cnt c (killT T pid grp)) (h0 : killL T pid grp ≠ []) (k : Nat) (hm : (killL T pid grp).length = k) : RKillR w m p T pid grp (.returned (.tuple #[.slice A3 k C3, .int .i64 0])) w' := by
  subst hm
  exact ⟨A3, C3, by rw [show killE T pid grp = 0 from if_neg h0], RowI.of_own hK.own, p', c, hK.tab, hc, hK.mm, hK.fp, hK.sA⟩
theorem Good.killS {T : Tb} (g : Good T) (pid : Int) (grp : Bool) (j : Nat) : Good (killS T pid grp j).1 := by
  induction j with
  | zero => exact g
  | succ j ih =>
    unfold Proofs.Ytnbjknjnpfmklaa.killS
    split
    · exact ih.kill1 _
    · exact ih
set_option maxRecDepth 100000 in
set_option maxHeartbeats 8000000 in
theorem rkill_calls (T : Tb) (m : Nat) (p : RA) (c : Int) (pid : Int) (grp : Bool) (w : World) (h : RefAt w m p c T) (hc : Cnt c T) (gd : Good T) (hn : T.P.length ≤ 90000) (hr : T.ready.length ≤ 90000) :
    Calls Try.prog 48 #[.pointer (some ⟨m, 0, none⟩), .int .i64 pid, .bool grp] w fun e w' => RKillR w m p T pid grp e w' := by
  have HSL := Lib.hid (fun j => killS_len T pid grp j)
  have H0 : Hid (RKill w w m p p c T none 0 []) := Lib.hid ⟨h, Mut.refl _ _, fun _ => .inl, rfl, World.ownsRow_nil _ _ _ _, (fun _ h => by cases h), h.sl⟩
  have HC0 := Lib.hid hc
  have HGD := Lib.hid (fun j => gd.killS pid grp j)
  clear h hc gd
  go_enter Try.func48, Try.ntmps48
  go_wp2
  go_loopw [8, 9] (fun l i wr => ∃ j : Nat, j ≤ T.P.length ∧ i = .int .i64 j ∧ ∃ p' c' A3 C3, l = .slice A3 (killS T pid grp j).2.length C3 ∧ Hid (RKill w wr m p p' c' (killS T pid grp j).1 A3 C3 (killS T pid grp j).2) ∧ Hid (Cnt c' (killS T pid grp j).1)) (fun _ i _ => T.P.length - (intOf i).toNat)
  case atStart => exact ⟨0, by omega, rfl, p, c, none, 0, rfl, H0, HC0⟩
  case round =>
    obtain ⟨j, hj, rfl, p', c', A3, C3, rfl, hK, hC⟩ := hrel
    obtain ⟨c0, c1, c2, c3, c4, c5, c6, c7, hf⟩ := hK.out.tab.cells
    have hlt2 := hK.out.tab.lt
    by_cases hlt : j < T.P.length
    · have hjS : j < (killS T pid grp j).1.P.length := by rw [HSL.out]; exact hlt
      obtain ⟨bl, hA, hbl, hbm, _, hfb, p0, p1, p2, p3, p4⟩ := hK.out.tab.pcells j hjS
      rw [hA] at c7
      rw [HSL.out] at c7
      have HA := Lib.hid hA
      have hpid := (HGD.out j).pid j hjS
      rw [hpid] at p0
      have HPD : Hid (prD (killS T pid grp j).1.P ((j : Int) + 1) = (killS T pid grp j).1.P[j]) := Lib.hid (prD_at _ j hjS)
      have hSel : Hid (killS T pid grp (j + 1) = if selB pid grp ((j : Int) + 1) (killS T pid grp j).1.P[j] = true then (kill1 (killS T pid grp j).1 ((j : Int) + 1), (killS T pid grp j).2 ++ [(j : Int) + 1]) else killS T pid grp j) := Lib.hid (by rw [← HPD.out]; rfl)
      have j0 : (0 : Int) ≤ (j : Int) := by omega
      have j1 : (j : Int) < (T.P.length : Int) := by omega
      obtain ⟨SS, hSS⟩ : ∃ SS, SS = killS T pid grp (j + 1) := ⟨_, rfl⟩
      rw [← hSS] at hSel
      have HSS := Lib.hid hSS
      clear hSS hpid HPD hA
      have hol := kill_outlen T pid grp j
      have HRL := Lib.hid (kill_ready T pid grp j)
      have HG := Lib.hid (HGD.out j)
      have HJS := Lib.hid hjS
      generalize killS T pid grp j = SP at *
      obtain ⟨S, out⟩ := SP
      simp only at *
      generalize S.P[j] = q at *
      obtain ⟨q0, q1, q2, q3, q4⟩ := q
      simp only at p0 p1 p2 p3 p4
      cases hsel : selB pid grp ((j : Int) + 1) ⟨q0, q1, q2, q3, q4⟩ with
      | false =>
        rw [hsel, if_neg (by decide)] at hSel
        have hNext : Hid (SS = (S, out)) := Lib.hid hSel.out
        by_cases h6 : q2 = 6
        · subst h6
          go_wp2
          go_roundw
          case rel =>
            refine ⟨j + 1, by omega, by go_num, ?_⟩
            rw [← HSS.out, hNext.out]
            exact ⟨p', c', A3, C3, rfl, Lib.hid (hK.out.alloc _), hC⟩
          case measure => simp [intOf]; omega
        · have h7 : (q2 != 6) = true := by simpa using h6
          cases grp with
          | false =>
            have h8 : ((j : Int) + 1 == pid) = false := by simpa [selB, h6] using hsel
            go_wp2
            go_roundw
            case rel =>
              refine ⟨j + 1, by omega, by go_num, ?_⟩
              rw [← HSS.out, hNext.out]
              exact ⟨p', c', A3, C3, rfl, Lib.hid (hK.out.alloc _), hC⟩
            case measure => simp [intOf]; omega
          | true =>
            have h8 : (q1 == pid) = false := by simpa [selB, h6] using hsel
            go_wp2
            go_roundw
            case rel =>
              refine ⟨j + 1, by omega, by go_num, ?_⟩
              rw [← HSS.out, hNext.out]
              exact ⟨p', c', A3, C3, rfl, Lib.hid (hK.out.alloc _), hC⟩
            case measure => simp [intOf]; omega
      | true =>
        have h6 : ¬ q2 = 6 := fun e => by rw [e] at hsel; simp [selB] at hsel
        have h7 : (q2 != 6) = true := by simpa using h6
        have HN : Hid (SS = (kill1 S ((j : Int) + 1), out ++ [(j : Int) + 1])) := Lib.hid (by rw [hSel.out, hsel, if_pos rfl])
        have hLo : out.length ≤ 100000 := by omega
        by_cases hcur : S.cur = (j : Int) + 1
        · cases grp with
          | false =>
            have h8 : (j : Int) + 1 = pid := by simpa [selB, h6] using hsel
            have h9 : ((j : Int) + 1 == pid) = true := by simp [h8]
            clear h8 hSel hsel
            have hne : ¬ bl = wr.heap.size := by omega
            have hne2 : ¬ m = wr.heap.size := by omega
            go_wp2
            go_region
            have HM7 : Hid (Mut (p'.fp m) wr ((wr.setCell ⟨bl, j * 5 + 2, none⟩ (.int .i64 6)).setCell ⟨bl, j * 5 + 3, none⟩ (.string ⟨#[]⟩))) := Lib.hid ((Mut.setCell _ _ _ _ (.inr (.inr ⟨_, HA.out, rfl⟩))).then (Mut.setCell _ _ _ _ (.inr (.inr ⟨_, HA.out, rfl⟩))))
            have HBX : Hid (((((wr.setCell ⟨bl, j * 5 + 2, none⟩ (.int .i64 6)).setCell ⟨bl, j * 5 + 3, none⟩ (.string ⟨#[]⟩)).alloc (.cells #[.int .i64 ((j : Int) + 1), .int .i64 q1, .int .i64 q2, .string q3, .int .i64 q4] 45)).drew).heap[wr.heap.size]? = some (.cells #[.int .i64 ((j : Int) + 1), .int .i64 q1, .int .i64 q2, .string q3, .int .i64 q4] 45 (0, 0))) := Lib.hid (by have h1 := heap_alloc_new ((wr.setCell ⟨bl, j * 5 + 2, none⟩ (.int .i64 6)).setCell ⟨bl, j * 5 + 3, none⟩ (.string ⟨#[]⟩)) (.cells #[.int .i64 ((j : Int) + 1), .int .i64 q1, .int .i64 q2, .string q3, .int .i64 q4] 45); rw [show ((wr.setCell ⟨bl, j * 5 + 2, none⟩ (.int .i64 6)).setCell ⟨bl, j * 5 + 3, none⟩ (.string ⟨#[]⟩)).heap.size = wr.heap.size by simp] at h1; exact h1)
            have HK7 : Hid (RKill w ((((wr.setCell ⟨bl, j * 5 + 2, none⟩ (.int .i64 6)).setCell ⟨bl, j * 5 + 3, none⟩ (.string ⟨#[]⟩)).alloc (.cells #[.int .i64 ((j : Int) + 1), .int .i64 q1, .int .i64 q2, .string q3, .int .i64 q4] 45)).drew) m p p' c' (endP S ((j : Int) + 1)) A3 C3 out) := Lib.hid (((hK.out.step (hK.out.tab.endP bl j HA.out HJS.out) HM7.out (fun _ => .inl) rfl).alloc (.cells #[.int .i64 ((j : Int) + 1), .int .i64 q1, .int .i64 q2, .string q3, .int .i64 q4] 45)).step ((((hK.out.step (hK.out.tab.endP bl j HA.out HJS.out) HM7.out (fun _ => .inl) rfl).alloc (.cells #[.int .i64 ((j : Int) + 1), .int .i64 q1, .int .i64 q2, .string q3, .int .i64 q4] 45)).tab).below (Below.refl _ _).drew) (Mut.of_below (Below.refl _ _).drew) (fun _ => .inl) rfl)
            have HRB : Hid (S.ready.length ≤ 90000) := Lib.hid (Nat.le_trans HRL.out hr)
            have HSZ : Hid (wr.heap.size < ((((wr.setCell ⟨bl, j * 5 + 2, none⟩ (.int .i64 6)).setCell ⟨bl, j * 5 + 3, none⟩ (.string ⟨#[]⟩)).alloc (.cells #[.int .i64 ((j : Int) + 1), .int .i64 q1, .int .i64 q2, .string q3, .int .i64 q4] 45)).drew).heap.size) := Lib.hid (by simp)
            clear c0 c1 c2 c3 c4 c5 c6 c7 hf p0 p1 p2 p3 p4 hfb
            have HK1 := Lib.hid (kill1_P S ((j : Int) + 1))
            have HCU := Lib.hid hcur
            go_wp2_with (go_at_call 59; refine (rwithout_calls _ m p' c' ((j : Int) + 1) _ HK7.out.tab (show S.ready.length ≤ 100000 by have := HRB.out; omega)).mono ?_; rintro e w9 ⟨A9, C9, rfl, ho, hb⟩; have HK9 := Lib.hid (HK7.out.step (HK7.out.tab.list A9 C9 _ (ho.mono (Nat.zero_le _)) (Mut.of_below hb) (fun a ha => .inr (own_blk ho a ha).1)) ((Mut.of_below hb).then (Mut.setCell _ _ _ _ (.inl rfl))) (rlist_fp (Nat.le_refl _) ho) rfl); have hbx := (hb.block wr.heap.size HSZ.out).trans HBX.out; have HBX9 := Lib.hid hbx; have HT8 := Lib.hid (HK7.out.tab.below hb); have hne3 : ¬ m = w9.heap.size := Nat.ne_of_lt HT8.out.lt; have hsz9 : wr.heap.size < w9.heap.size := Nat.lt_of_lt_of_le HSZ.out hb.size; clear ho hb hbx; obtain ⟨e0, e1, e2, e3, e4, e5, e6, e7, ef⟩ := HT8.out.cells; clear e0 e1 e2 e3 e4 e5 e7)
            obtain ⟨wx, hwx⟩ : ∃ wx, wx = (w9.setCell ⟨m, 6, none⟩ (.slice A9 (dropF (endP S ((j : Int) + 1)).ready ((j : Int) + 1)).length C9)) := ⟨_, rfl⟩
            rw [← hwx]
            replace HK9 : Hid (RKill w wx m p { p' with lA := A9, lC := C9 } c' { endP S ((j : Int) + 1) with ready := dropF S.ready ((j : Int) + 1) } A3 C3 out) := Lib.hid (hwx ▸ HK9.out)
            have hbx : wx.heap[wr.heap.size]? = _ := (hwx ▸ ((Mut.setCell (S := (· = m)) w9 m 6 _ rfl).block wr.heap.size hsz9 (fun e => hne2 e.symm))).trans HBX9.out
            have hsx : wr.heap.size < wx.heap.size := by rw [hwx]; simpa using hsz9
            obtain ⟨r0, r1, r2, r3, r4, rf⟩ := blk5 hbx
            clear hwx e6 ef r1 r2 r3 r4
            obtain ⟨e0, e1, e2, e3, e4, e5, e6, e7, ef⟩ := HK9.out.tab.cells
            rw [show (endP S ((j : Int) + 1)).cur = (j : Int) + 1 from hcur] at e1
            clear e0 e2 e3 e4 e5 e6 e7
            go_quiet (fail)
            obtain ⟨wy, hwy⟩ : ∃ wy, wy = wx.drewN nq := ⟨_, rfl⟩
            rw [← hwy]
            replace HK9 : Hid (RKill w wy m p { p' with lA := A9, lC := C9 } c' { endP S ((j : Int) + 1) with ready := dropF S.ready ((j : Int) + 1) } A3 C3 out) := Lib.hid (hwy ▸ HK9.out.step (HK9.out.tab.below ((Below.refl _ _).dn nq)) (Mut.of_below ((Below.refl _ _).dn nq)) (fun _ => .inl) rfl)
            have hby : wy.heap[wr.heap.size]? = some (.cells #[.int .i64 ((j : Int) + 1), .int .i64 q1, .int .i64 q2, .string q3, .int .i64 q4] 45 (0, 0)) := by rw [hwy]; exact hbx
            have hsy : wr.heap.size < wy.heap.size := by rw [hwy]; exact hsx
            clear hwy hbx hsx r0 rf e1 ef
            obtain ⟨r0, r1, r2, r3, r4, rf⟩ := blk5 hby
            obtain ⟨e0, e1, e2, e3, e4, e5, e6, e7, ef⟩ := HK9.out.tab.cells
            clear hby r1 r2 r3 r4 e0 e2 e3 e4 e5 e6 e7
            have HK10 : Hid (RKill w (wy.setCell ⟨m, 1, none⟩ (.int .i64 0)) m p { p' with lA := A9, lC := C9 } c' (kill1 S ((j : Int) + 1)) A3 C3 out) := Lib.hid (HK9.out.step ((HK9.out.tab.upd 1 (.int .i64 0) c' { endP S ((j : Int) + 1) with ready := dropF S.ready ((j : Int) + 1), cur := 0 } (by unfold refC; simp [endP]) rfl rfl rfl).as HK1.out.2.2.2.2.1 HK1.out.2.2.2.2.2.1 HK1.out.2.2.2.2.2.2.1 HK1.out.2.2.2.2.2.2.2.1 HK1.out.1 (HK1.out.2.1.trans (dropF_eq _ _ HG.out.nd)) (HK1.out.2.2.1.trans (if_pos HCU.out.symm))) (Mut.setCell _ _ _ _ (.inl rfl)) (fun _ => .inl) rfl)
            have HQ : Hid (((wy.setCell ⟨m, 1, none⟩ (.int .i64 0)).alloc (.cells #[.int .i64 ((j : Int) + 1)] 3)).cell? ⟨wy.heap.size, 0, none⟩ = some (.int .i64 ((j : Int) + 1))) := Lib.hid (by have := cell_of_heap (j := 0) (heap_alloc_new (wy.setCell ⟨m, 1, none⟩ (.int .i64 0)) (.cells #[.int .i64 ((j : Int) + 1)] 3)) rfl; first | exact this | simpa using this)
            have HLE : Hid (w.heap.size ≤ ((wy.setCell ⟨m, 1, none⟩ (.int .i64 0)).alloc (.cells #[.int .i64 ((j : Int) + 1)] 3)).heap.size) := Lib.hid ((HK10.out.alloc _).mm.size)
            go_wp2_with (at_builtin; refine app_wB rfl _ _ rfl w.heap.size A3 C3 out ((j : Int) + 1) rfl (HK10.out.alloc _).own _ rfl HQ.out hLo HLE.out ?_; intro g4 cap w11 ho hg hl4; have HK11 := Lib.hid ((HK10.out.alloc (.cells #[.int .i64 ((j : Int) + 1)] 3)).push ho.out hg.out hl4.out); clear ho hg hl4)
            go_roundw
            case rel =>
              refine ⟨j + 1, by omega, by go_num, ?_⟩
              rw [← HSS.out, HN.out]
              exact ⟨_, c', some ⟨g4, 0, none⟩, cap, by simp, HK11, Lib.hid (hC.out.kill1 _)⟩
            case measure => simp [intOf]; omega
          | true =>
            have h8 : q1 = pid := by simpa [selB, h6] using hsel
            have h9 : (q1 == pid) = true := by simp [h8]
            clear h8 hSel hsel
            have hne : ¬ bl = wr.heap.size := by omega
            have hne2 : ¬ m = wr.heap.size := by omega
            go_wp2
            go_region
            have HM7 : Hid (Mut (p'.fp m) wr ((wr.setCell ⟨bl, j * 5 + 2, none⟩ (.int .i64 6)).setCell ⟨bl, j * 5 + 3, none⟩ (.string ⟨#[]⟩))) := Lib.hid ((Mut.setCell _ _ _ _ (.inr (.inr ⟨_, HA.out, rfl⟩))).then (Mut.setCell _ _ _ _ (.inr (.inr ⟨_, HA.out, rfl⟩))))
            have HBX : Hid (((((wr.setCell ⟨bl, j * 5 + 2, none⟩ (.int .i64 6)).setCell ⟨bl, j * 5 + 3, none⟩ (.string ⟨#[]⟩)).alloc (.cells #[.int .i64 ((j : Int) + 1), .int .i64 q1, .int .i64 q2, .string q3, .int .i64 q4] 45)).drew).heap[wr.heap.size]? = some (.cells #[.int .i64 ((j : Int) + 1), .int .i64 q1, .int .i64 q2, .string q3, .int .i64 q4] 45 (0, 0))) := Lib.hid (by have h1 := heap_alloc_new ((wr.setCell ⟨bl, j * 5 + 2, none⟩ (.int .i64 6)).setCell ⟨bl, j * 5 + 3, none⟩ (.string ⟨#[]⟩)) (.cells #[.int .i64 ((j : Int) + 1), .int .i64 q1, .int .i64 q2, .string q3, .int .i64 q4] 45); rw [show ((wr.setCell ⟨bl, j * 5 + 2, none⟩ (.int .i64 6)).setCell ⟨bl, j * 5 + 3, none⟩ (.string ⟨#[]⟩)).heap.size = wr.heap.size by simp] at h1; exact h1)
            have HK7 : Hid (RKill w ((((wr.setCell ⟨bl, j * 5 + 2, none⟩ (.int .i64 6)).setCell ⟨bl, j * 5 + 3, none⟩ (.string ⟨#[]⟩)).alloc (.cells #[.int .i64 ((j : Int) + 1), .int .i64 q1, .int .i64 q2, .string q3, .int .i64 q4] 45)).drew) m p p' c' (endP S ((j : Int) + 1)) A3 C3 out) := Lib.hid (((hK.out.step (hK.out.tab.endP bl j HA.out HJS.out) HM7.out (fun _ => .inl) rfl).alloc (.cells #[.int .i64 ((j : Int) + 1), .int .i64 q1, .int .i64 q2, .string q3, .int .i64 q4] 45)).step ((((hK.out.step (hK.out.tab.endP bl j HA.out HJS.out) HM7.out (fun _ => .inl) rfl).alloc (.cells #[.int .i64 ((j : Int) + 1), .int .i64 q1, .int .i64 q2, .string q3, .int .i64 q4] 45)).tab).below (Below.refl _ _).drew) (Mut.of_below (Below.refl _ _).drew) (fun _ => .inl) rfl)
            have HRB : Hid (S.ready.length ≤ 90000) := Lib.hid (Nat.le_trans HRL.out hr)
            have HSZ : Hid (wr.heap.size < ((((wr.setCell ⟨bl, j * 5 + 2, none⟩ (.int .i64 6)).setCell ⟨bl, j * 5 + 3, none⟩ (.string ⟨#[]⟩)).alloc (.cells #[.int .i64 ((j : Int) + 1), .int .i64 q1, .int .i64 q2, .string q3, .int .i64 q4] 45)).drew).heap.size) := Lib.hid (by simp)
            clear c0 c1 c2 c3 c4 c5 c6 c7 hf p0 p1 p2 p3 p4 hfb
            have HK1 := Lib.hid (kill1_P S ((j : Int) + 1))
            have HCU := Lib.hid hcur
            go_wp2_with (go_at_call 59; refine (rwithout_calls _ m p' c' ((j : Int) + 1) _ HK7.out.tab (show S.ready.length ≤ 100000 by have := HRB.out; omega)).mono ?_; rintro e w9 ⟨A9, C9, rfl, ho, hb⟩; have HK9 := Lib.hid (HK7.out.step (HK7.out.tab.list A9 C9 _ (ho.mono (Nat.zero_le _)) (Mut.of_below hb) (fun a ha => .inr (own_blk ho a ha).1)) ((Mut.of_below hb).then (Mut.setCell _ _ _ _ (.inl rfl))) (rlist_fp (Nat.le_refl _) ho) rfl); have hbx := (hb.block wr.heap.size HSZ.out).trans HBX.out; have HBX9 := Lib.hid hbx; have HT8 := Lib.hid (HK7.out.tab.below hb); have hne3 : ¬ m = w9.heap.size := Nat.ne_of_lt HT8.out.lt; have hsz9 : wr.heap.size < w9.heap.size := Nat.lt_of_lt_of_le HSZ.out hb.size; clear ho hb hbx; obtain ⟨e0, e1, e2, e3, e4, e5, e6, e7, ef⟩ := HT8.out.cells; clear e0 e1 e2 e3 e4 e5 e7)
            obtain ⟨wx, hwx⟩ : ∃ wx, wx = (w9.setCell ⟨m, 6, none⟩ (.slice A9 (dropF (endP S ((j : Int) + 1)).ready ((j : Int) + 1)).length C9)) := ⟨_, rfl⟩
            rw [← hwx]
            replace HK9 : Hid (RKill w wx m p { p' with lA := A9, lC := C9 } c' { endP S ((j : Int) + 1) with ready := dropF S.ready ((j : Int) + 1) } A3 C3 out) := Lib.hid (hwx ▸ HK9.out)
            have hbx : wx.heap[wr.heap.size]? = _ := (hwx ▸ ((Mut.setCell (S := (· = m)) w9 m 6 _ rfl).block wr.heap.size hsz9 (fun e => hne2 e.symm))).trans HBX9.out
            have hsx : wr.heap.size < wx.heap.size := by rw [hwx]; simpa using hsz9
            obtain ⟨r0, r1, r2, r3, r4, rf⟩ := blk5 hbx
            clear hwx e6 ef r1 r2 r3 r4
            obtain ⟨e0, e1, e2, e3, e4, e5, e6, e7, ef⟩ := HK9.out.tab.cells
            rw [show (endP S ((j : Int) + 1)).cur = (j : Int) + 1 from hcur] at e1
            clear e0 e2 e3 e4 e5 e6 e7
            go_quiet (fail)
            obtain ⟨wy, hwy⟩ : ∃ wy, wy = wx.drewN nq := ⟨_, rfl⟩
            rw [← hwy]
            replace HK9 : Hid (RKill w wy m p { p' with lA := A9, lC := C9 } c' { endP S ((j : Int) + 1) with ready := dropF S.ready ((j : Int) + 1) } A3 C3 out) := Lib.hid (hwy ▸ HK9.out.step (HK9.out.tab.below ((Below.refl _ _).dn nq)) (Mut.of_below ((Below.refl _ _).dn nq)) (fun _ => .inl) rfl)
            have hby : wy.heap[wr.heap.size]? = some (.cells #[.int .i64 ((j : Int) + 1), .int .i64 q1, .int .i64 q2, .string q3, .int .i64 q4] 45 (0, 0)) := by rw [hwy]; exact hbx
            have hsy : wr.heap.size < wy.heap.size := by rw [hwy]; exact hsx
            clear hwy hbx hsx r0 rf e1 ef
            obtain ⟨r0, r1, r2, r3, r4, rf⟩ := blk5 hby
            obtain ⟨e0, e1, e2, e3, e4, e5, e6, e7, ef⟩ := HK9.out.tab.cells
            clear hby r1 r2 r3 r4 e0 e2 e3 e4 e5 e6 e7
            have HK10 : Hid (RKill w (wy.setCell ⟨m, 1, none⟩ (.int .i64 0)) m p { p' with lA := A9, lC := C9 } c' (kill1 S ((j : Int) + 1)) A3 C3 out) := Lib.hid (HK9.out.step ((HK9.out.tab.upd 1 (.int .i64 0) c' { endP S ((j : Int) + 1) with ready := dropF S.ready ((j : Int) + 1), cur := 0 } (by unfold refC; simp [endP]) rfl rfl rfl).as HK1.out.2.2.2.2.1 HK1.out.2.2.2.2.2.1 HK1.out.2.2.2.2.2.2.1 HK1.out.2.2.2.2.2.2.2.1 HK1.out.1 (HK1.out.2.1.trans (dropF_eq _ _ HG.out.nd)) (HK1.out.2.2.1.trans (if_pos HCU.out.symm))) (Mut.setCell _ _ _ _ (.inl rfl)) (fun _ => .inl) rfl)
            have HQ : Hid (((wy.setCell ⟨m, 1, none⟩ (.int .i64 0)).alloc (.cells #[.int .i64 ((j : Int) + 1)] 3)).cell? ⟨wy.heap.size, 0, none⟩ = some (.int .i64 ((j : Int) + 1))) := Lib.hid (by have := cell_of_heap (j := 0) (heap_alloc_new (wy.setCell ⟨m, 1, none⟩ (.int .i64 0)) (.cells #[.int .i64 ((j : Int) + 1)] 3)) rfl; first | exact this | simpa using this)
            have HLE : Hid (w.heap.size ≤ ((wy.setCell ⟨m, 1, none⟩ (.int .i64 0)).alloc (.cells #[.int .i64 ((j : Int) + 1)] 3)).heap.size) := Lib.hid ((HK10.out.alloc _).mm.size)
            go_wp2_with (at_builtin; refine app_wB rfl _ _ rfl w.heap.size A3 C3 out ((j : Int) + 1) rfl (HK10.out.alloc _).own _ rfl HQ.out hLo HLE.out ?_; intro g4 cap w11 ho hg hl4; have HK11 := Lib.hid ((HK10.out.alloc (.cells #[.int .i64 ((j : Int) + 1)] 3)).push ho.out hg.out hl4.out); clear ho hg hl4)
            go_roundw
            case rel =>
              refine ⟨j + 1, by omega, by go_num, ?_⟩
              rw [← HSS.out, HN.out]
              exact ⟨_, c', some ⟨g4, 0, none⟩, cap, by simp, HK11, Lib.hid (hC.out.kill1 _)⟩
            case measure => simp [intOf]; omega
        · have hcur2 : (S.cur == (j : Int) + 1) = false := by simpa using hcur
          cases grp with
          | false =>
            have h8 : (j : Int) + 1 = pid := by simpa [selB, h6] using hsel
            have h9 : ((j : Int) + 1 == pid) = true := by simp [h8]
            clear h8 hSel hsel
            have hne : ¬ bl = wr.heap.size := by omega
            have hne2 : ¬ m = wr.heap.size := by omega
            go_wp2
            go_region
            have HM7 : Hid (Mut (p'.fp m) wr ((wr.setCell ⟨bl, j * 5 + 2, none⟩ (.int .i64 6)).setCell ⟨bl, j * 5 + 3, none⟩ (.string ⟨#[]⟩))) := Lib.hid ((Mut.setCell _ _ _ _ (.inr (.inr ⟨_, HA.out, rfl⟩))).then (Mut.setCell _ _ _ _ (.inr (.inr ⟨_, HA.out, rfl⟩))))
            have HBX : Hid (((((wr.setCell ⟨bl, j * 5 + 2, none⟩ (.int .i64 6)).setCell ⟨bl, j * 5 + 3, none⟩ (.string ⟨#[]⟩)).alloc (.cells #[.int .i64 ((j : Int) + 1), .int .i64 q1, .int .i64 q2, .string q3, .int .i64 q4] 45)).drew).heap[wr.heap.size]? = some (.cells #[.int .i64 ((j : Int) + 1), .int .i64 q1, .int .i64 q2, .string q3, .int .i64 q4] 45 (0, 0))) := Lib.hid (by have h1 := heap_alloc_new ((wr.setCell ⟨bl, j * 5 + 2, none⟩ (.int .i64 6)).setCell ⟨bl, j * 5 + 3, none⟩ (.string ⟨#[]⟩)) (.cells #[.int .i64 ((j : Int) + 1), .int .i64 q1, .int .i64 q2, .string q3, .int .i64 q4] 45); rw [show ((wr.setCell ⟨bl, j * 5 + 2, none⟩ (.int .i64 6)).setCell ⟨bl, j * 5 + 3, none⟩ (.string ⟨#[]⟩)).heap.size = wr.heap.size by simp] at h1; exact h1)
            have HK7 : Hid (RKill w ((((wr.setCell ⟨bl, j * 5 + 2, none⟩ (.int .i64 6)).setCell ⟨bl, j * 5 + 3, none⟩ (.string ⟨#[]⟩)).alloc (.cells #[.int .i64 ((j : Int) + 1), .int .i64 q1, .int .i64 q2, .string q3, .int .i64 q4] 45)).drew) m p p' c' (endP S ((j : Int) + 1)) A3 C3 out) := Lib.hid (((hK.out.step (hK.out.tab.endP bl j HA.out HJS.out) HM7.out (fun _ => .inl) rfl).alloc (.cells #[.int .i64 ((j : Int) + 1), .int .i64 q1, .int .i64 q2, .string q3, .int .i64 q4] 45)).step ((((hK.out.step (hK.out.tab.endP bl j HA.out HJS.out) HM7.out (fun _ => .inl) rfl).alloc (.cells #[.int .i64 ((j : Int) + 1), .int .i64 q1, .int .i64 q2, .string q3, .int .i64 q4] 45)).tab).below (Below.refl _ _).drew) (Mut.of_below (Below.refl _ _).drew) (fun _ => .inl) rfl)
            have HRB : Hid (S.ready.length ≤ 90000) := Lib.hid (Nat.le_trans HRL.out hr)
            have HSZ : Hid (wr.heap.size < ((((wr.setCell ⟨bl, j * 5 + 2, none⟩ (.int .i64 6)).setCell ⟨bl, j * 5 + 3, none⟩ (.string ⟨#[]⟩)).alloc (.cells #[.int .i64 ((j : Int) + 1), .int .i64 q1, .int .i64 q2, .string q3, .int .i64 q4] 45)).drew).heap.size) := Lib.hid (by simp)
            clear c0 c1 c2 c3 c4 c5 c6 c7 hf p0 p1 p2 p3 p4 hfb
            have HK1 := Lib.hid (kill1_P S ((j : Int) + 1))
            have HCU := Lib.hid hcur
            go_wp2_with (go_at_call 59; refine (rwithout_calls _ m p' c' ((j : Int) + 1) _ HK7.out.tab (show S.ready.length ≤ 100000 by have := HRB.out; omega)).mono ?_; rintro e w9 ⟨A9, C9, rfl, ho, hb⟩; have HK9 := Lib.hid (HK7.out.step (HK7.out.tab.list A9 C9 _ (ho.mono (Nat.zero_le _)) (Mut.of_below hb) (fun a ha => .inr (own_blk ho a ha).1)) ((Mut.of_below hb).then (Mut.setCell _ _ _ _ (.inl rfl))) (rlist_fp (Nat.le_refl _) ho) rfl); have hbx := (hb.block wr.heap.size HSZ.out).trans HBX.out; have HBX9 := Lib.hid hbx; have HT8 := Lib.hid (HK7.out.tab.below hb); have hne3 : ¬ m = w9.heap.size := Nat.ne_of_lt HT8.out.lt; have hsz9 : wr.heap.size < w9.heap.size := Nat.lt_of_lt_of_le HSZ.out hb.size; clear ho hb hbx; obtain ⟨e0, e1, e2, e3, e4, e5, e6, e7, ef⟩ := HT8.out.cells; clear e0 e1 e2 e3 e4 e5 e7)
            obtain ⟨wx, hwx⟩ : ∃ wx, wx = (w9.setCell ⟨m, 6, none⟩ (.slice A9 (dropF (endP S ((j : Int) + 1)).ready ((j : Int) + 1)).length C9)) := ⟨_, rfl⟩
            rw [← hwx]
            replace HK9 : Hid (RKill w wx m p { p' with lA := A9, lC := C9 } c' { endP S ((j : Int) + 1) with ready := dropF S.ready ((j : Int) + 1) } A3 C3 out) := Lib.hid (hwx ▸ HK9.out)
            have hbx : wx.heap[wr.heap.size]? = _ := (hwx ▸ ((Mut.setCell (S := (· = m)) w9 m 6 _ rfl).block wr.heap.size hsz9 (fun e => hne2 e.symm))).trans HBX9.out
            have hsx : wr.heap.size < wx.heap.size := by rw [hwx]; simpa using hsz9
            obtain ⟨r0, r1, r2, r3, r4, rf⟩ := blk5 hbx
            clear hwx e6 ef r1 r2 r3 r4
            obtain ⟨e0, e1, e2, e3, e4, e5, e6, e7, ef⟩ := HK9.out.tab.cells
            replace e1 : wx.cell? ⟨m, 1, none⟩ = some (.int .i64 S.cur) := e1
            clear e0 e2 e3 e4 e5 e6 e7
            go_quiet (fail)
            obtain ⟨wy, hwy⟩ : ∃ wy, wy = wx.drewN nq := ⟨_, rfl⟩
            rw [← hwy]
            replace HK9 : Hid (RKill w wy m p { p' with lA := A9, lC := C9 } c' { endP S ((j : Int) + 1) with ready := dropF S.ready ((j : Int) + 1) } A3 C3 out) := Lib.hid (hwy ▸ HK9.out.step (HK9.out.tab.below ((Below.refl _ _).dn nq)) (Mut.of_below ((Below.refl _ _).dn nq)) (fun _ => .inl) rfl)
            have hby : wy.heap[wr.heap.size]? = some (.cells #[.int .i64 ((j : Int) + 1), .int .i64 q1, .int .i64 q2, .string q3, .int .i64 q4] 45 (0, 0)) := by rw [hwy]; exact hbx
            have hsy : wr.heap.size < wy.heap.size := by rw [hwy]; exact hsx
            clear hwy hbx hsx r0 rf e1 ef
            obtain ⟨r0, r1, r2, r3, r4, rf⟩ := blk5 hby
            obtain ⟨e0, e1, e2, e3, e4, e5, e6, e7, ef⟩ := HK9.out.tab.cells
            clear hby r1 r2 r3 r4 e0 e2 e3 e4 e5 e6 e7
            have HK10 : Hid (RKill w wy m p { p' with lA := A9, lC := C9 } c' (kill1 S ((j : Int) + 1)) A3 C3 out) := Lib.hid (HK9.out.step (HK9.out.tab.as HK1.out.2.2.2.2.1 HK1.out.2.2.2.2.2.1 HK1.out.2.2.2.2.2.2.1 HK1.out.2.2.2.2.2.2.2.1 HK1.out.1 (HK1.out.2.1.trans (dropF_eq _ _ HG.out.nd)) (HK1.out.2.2.1.trans (if_neg (fun e => HCU.out e.symm)))) (Mut.refl _ _) (fun _ => .inl) rfl)
            have HQ : Hid ((wy.alloc (.cells #[.int .i64 ((j : Int) + 1)] 3)).cell? ⟨wy.heap.size, 0, none⟩ = some (.int .i64 ((j : Int) + 1))) := Lib.hid (by have := cell_of_heap (j := 0) (heap_alloc_new wy (.cells #[.int .i64 ((j : Int) + 1)] 3)) rfl; first | exact this | simpa using this)
            have HLE : Hid (w.heap.size ≤ (wy.alloc (.cells #[.int .i64 ((j : Int) + 1)] 3)).heap.size) := Lib.hid ((HK10.out.alloc _).mm.size)
            go_wp2_with (at_builtin; refine app_wB rfl _ _ rfl w.heap.size A3 C3 out ((j : Int) + 1) rfl (HK10.out.alloc _).own _ rfl HQ.out hLo HLE.out ?_; intro g4 cap w11 ho hg hl4; have HK11 := Lib.hid ((HK10.out.alloc (.cells #[.int .i64 ((j : Int) + 1)] 3)).push ho.out hg.out hl4.out); clear ho hg hl4)
            go_roundw
            case rel =>
              refine ⟨j + 1, by omega, by go_num, ?_⟩
              rw [← HSS.out, HN.out]
              exact ⟨_, c', some ⟨g4, 0, none⟩, cap, by simp, HK11, Lib.hid (hC.out.kill1 _)⟩
            case measure => simp [intOf]; omega
          | true =>
            have h8 : q1 = pid := by simpa [selB, h6] using hsel
            have h9 : (q1 == pid) = true := by simp [h8]
            clear h8 hSel hsel
            have hne : ¬ bl = wr.heap.size := by omega
            have hne2 : ¬ m = wr.heap.size := by omega
            go_wp2
            go_region
            have HM7 : Hid (Mut (p'.fp m) wr ((wr.setCell ⟨bl, j * 5 + 2, none⟩ (.int .i64 6)).setCell ⟨bl, j * 5 + 3, none⟩ (.string ⟨#[]⟩))) := Lib.hid ((Mut.setCell _ _ _ _ (.inr (.inr ⟨_, HA.out, rfl⟩))).then (Mut.setCell _ _ _ _ (.inr (.inr ⟨_, HA.out, rfl⟩))))
            have HBX : Hid (((((wr.setCell ⟨bl, j * 5 + 2, none⟩ (.int .i64 6)).setCell ⟨bl, j * 5 + 3, none⟩ (.string ⟨#[]⟩)).alloc (.cells #[.int .i64 ((j : Int) + 1), .int .i64 q1, .int .i64 q2, .string q3, .int .i64 q4] 45)).drew).heap[wr.heap.size]? = some (.cells #[.int .i64 ((j : Int) + 1), .int .i64 q1, .int .i64 q2, .string q3, .int .i64 q4] 45 (0, 0))) := Lib.hid (by have h1 := heap_alloc_new ((wr.setCell ⟨bl, j * 5 + 2, none⟩ (.int .i64 6)).setCell ⟨bl, j * 5 + 3, none⟩ (.string ⟨#[]⟩)) (.cells #[.int .i64 ((j : Int) + 1), .int .i64 q1, .int .i64 q2, .string q3, .int .i64 q4] 45); rw [show ((wr.setCell ⟨bl, j * 5 + 2, none⟩ (.int .i64 6)).setCell ⟨bl, j * 5 + 3, none⟩ (.string ⟨#[]⟩)).heap.size = wr.heap.size by simp] at h1; exact h1)
            have HK7 : Hid (RKill w ((((wr.setCell ⟨bl, j * 5 + 2, none⟩ (.int .i64 6)).setCell ⟨bl, j * 5 + 3, none⟩ (.string ⟨#[]⟩)).alloc (.cells #[.int .i64 ((j : Int) + 1), .int .i64 q1, .int .i64 q2, .string q3, .int .i64 q4] 45)).drew) m p p' c' (endP S ((j : Int) + 1)) A3 C3 out) := Lib.hid (((hK.out.step (hK.out.tab.endP bl j HA.out HJS.out) HM7.out (fun _ => .inl) rfl).alloc (.cells #[.int .i64 ((j : Int) + 1), .int .i64 q1, .int .i64 q2, .string q3, .int .i64 q4] 45)).step ((((hK.out.step (hK.out.tab.endP bl j HA.out HJS.out) HM7.out (fun _ => .inl) rfl).alloc (.cells #[.int .i64 ((j : Int) + 1), .int .i64 q1, .int .i64 q2, .string q3, .int .i64 q4] 45)).tab).below (Below.refl _ _).drew) (Mut.of_below (Below.refl _ _).drew) (fun _ => .inl) rfl)
            have HRB : Hid (S.ready.length ≤ 90000) := Lib.hid (Nat.le_trans HRL.out hr)
            have HSZ : Hid (wr.heap.size < ((((wr.setCell ⟨bl, j * 5 + 2, none⟩ (.int .i64 6)).setCell ⟨bl, j * 5 + 3, none⟩ (.string ⟨#[]⟩)).alloc (.cells #[.int .i64 ((j : Int) + 1), .int .i64 q1, .int .i64 q2, .string q3, .int .i64 q4] 45)).drew).heap.size) := Lib.hid (by simp)
            clear c0 c1 c2 c3 c4 c5 c6 c7 hf p0 p1 p2 p3 p4 hfb
            have HK1 := Lib.hid (kill1_P S ((j : Int) + 1))
            have HCU := Lib.hid hcur
            go_wp2_with (go_at_call 59; refine (rwithout_calls _ m p' c' ((j : Int) + 1) _ HK7.out.tab (show S.ready.length ≤ 100000 by have := HRB.out; omega)).mono ?_; rintro e w9 ⟨A9, C9, rfl, ho, hb⟩; have HK9 := Lib.hid (HK7.out.step (HK7.out.tab.list A9 C9 _ (ho.mono (Nat.zero_le _)) (Mut.of_below hb) (fun a ha => .inr (own_blk ho a ha).1)) ((Mut.of_below hb).then (Mut.setCell _ _ _ _ (.inl rfl))) (rlist_fp (Nat.le_refl _) ho) rfl); have hbx := (hb.block wr.heap.size HSZ.out).trans HBX.out; have HBX9 := Lib.hid hbx; have HT8 := Lib.hid (HK7.out.tab.below hb); have hne3 : ¬ m = w9.heap.size := Nat.ne_of_lt HT8.out.lt; have hsz9 : wr.heap.size < w9.heap.size := Nat.lt_of_lt_of_le HSZ.out hb.size; clear ho hb hbx; obtain ⟨e0, e1, e2, e3, e4, e5, e6, e7, ef⟩ := HT8.out.cells; clear e0 e1 e2 e3 e4 e5 e7)
            obtain ⟨wx, hwx⟩ : ∃ wx, wx = (w9.setCell ⟨m, 6, none⟩ (.slice A9 (dropF (endP S ((j : Int) + 1)).ready ((j : Int) + 1)).length C9)) := ⟨_, rfl⟩
            rw [← hwx]
            replace HK9 : Hid (RKill w wx m p { p' with lA := A9, lC := C9 } c' { endP S ((j : Int) + 1) with ready := dropF S.ready ((j : Int) + 1) } A3 C3 out) := Lib.hid (hwx ▸ HK9.out)
            have hbx : wx.heap[wr.heap.size]? = _ := (hwx ▸ ((Mut.setCell (S := (· = m)) w9 m 6 _ rfl).block wr.heap.size hsz9 (fun e => hne2 e.symm))).trans HBX9.out
            have hsx : wr.heap.size < wx.heap.size := by rw [hwx]; simpa using hsz9
            obtain ⟨r0, r1, r2, r3, r4, rf⟩ := blk5 hbx
            clear hwx e6 ef r1 r2 r3 r4
            obtain ⟨e0, e1, e2, e3, e4, e5, e6, e7, ef⟩ := HK9.out.tab.cells
            replace e1 : wx.cell? ⟨m, 1, none⟩ = some (.int .i64 S.cur) := e1
            clear e0 e2 e3 e4 e5 e6 e7
            go_quiet (fail)
            obtain ⟨wy, hwy⟩ : ∃ wy, wy = wx.drewN nq := ⟨_, rfl⟩
            rw [← hwy]
            replace HK9 : Hid (RKill w wy m p { p' with lA := A9, lC := C9 } c' { endP S ((j : Int) + 1) with ready := dropF S.ready ((j : Int) + 1) } A3 C3 out) := Lib.hid (hwy ▸ HK9.out.step (HK9.out.tab.below ((Below.refl _ _).dn nq)) (Mut.of_below ((Below.refl _ _).dn nq)) (fun _ => .inl) rfl)
            have hby : wy.heap[wr.heap.size]? = some (.cells #[.int .i64 ((j : Int) + 1), .int .i64 q1, .int .i64 q2, .string q3, .int .i64 q4] 45 (0, 0)) := by rw [hwy]; exact hbx
            have hsy : wr.heap.size < wy.heap.size := by rw [hwy]; exact hsx
            clear hwy hbx hsx r0 rf e1 ef
            obtain ⟨r0, r1, r2, r3, r4, rf⟩ := blk5 hby
            obtain ⟨e0, e1, e2, e3, e4, e5, e6, e7, ef⟩ := HK9.out.tab.cells
            clear hby r1 r2 r3 r4 e0 e2 e3 e4 e5 e6 e7
            have HK10 : Hid (RKill w wy m p { p' with lA := A9, lC := C9 } c' (kill1 S ((j : Int) + 1)) A3 C3 out) := Lib.hid (HK9.out.step (HK9.out.tab.as HK1.out.2.2.2.2.1 HK1.out.2.2.2.2.2.1 HK1.out.2.2.2.2.2.2.1 HK1.out.2.2.2.2.2.2.2.1 HK1.out.1 (HK1.out.2.1.trans (dropF_eq _ _ HG.out.nd)) (HK1.out.2.2.1.trans (if_neg (fun e => HCU.out e.symm)))) (Mut.refl _ _) (fun _ => .inl) rfl)
            have HQ : Hid ((wy.alloc (.cells #[.int .i64 ((j : Int) + 1)] 3)).cell? ⟨wy.heap.size, 0, none⟩ = some (.int .i64 ((j : Int) + 1))) := Lib.hid (by have := cell_of_heap (j := 0) (heap_alloc_new wy (.cells #[.int .i64 ((j : Int) + 1)] 3)) rfl; first | exact this | simpa using this)
            have HLE : Hid (w.heap.size ≤ (wy.alloc (.cells #[.int .i64 ((j : Int) + 1)] 3)).heap.size) := Lib.hid ((HK10.out.alloc _).mm.size)
            go_wp2_with (at_builtin; refine app_wB rfl _ _ rfl w.heap.size A3 C3 out ((j : Int) + 1) rfl (HK10.out.alloc _).own _ rfl HQ.out hLo HLE.out ?_; intro g4 cap w11 ho hg hl4; have HK11 := Lib.hid ((HK10.out.alloc (.cells #[.int .i64 ((j : Int) + 1)] 3)).push ho.out hg.out hl4.out); clear ho hg hl4)
            go_roundw
            case rel =>
              refine ⟨j + 1, by omega, by go_num, ?_⟩
              rw [← HSS.out, HN.out]
              exact ⟨_, c', some ⟨g4, 0, none⟩, cap, by simp, HK11, Lib.hid (hC.out.kill1 _)⟩
            case measure => simp [intOf]; omega
    · obtain rfl : j = T.P.length := by omega
      have HK : Hid (RKill w wr m p p' c' (killT T pid grp) A3 C3 (killL T pid grp)) := hK
      have HCE : Hid (Cnt c' (killT T pid grp)) := hC
      have HLN : Hid ((killS T pid grp T.P.length).2.length = (killL T pid grp).length) := Lib.hid rfl
      rw [HSL.out] at c7
      rw [HLN.out]
      by_cases h0 : killL T pid grp = []
      · have H0 := Lib.hid h0
        have hl0 : (killL T pid grp).length = 0 := by rw [h0]; rfl
        clear h0
        go_wp2
        go_ret2
        exact rkill_none HK.out HCE.out H0.out
      · have H0 := Lib.hid h0
        obtain ⟨k, hm⟩ : ∃ k, (killL T pid grp).length = k := ⟨_, rfl⟩
        have HM := Lib.hid hm
        have hm0 : ¬ (k : Int) = 0 := fun e => h0 (List.eq_nil_of_length_eq_zero (by omega))
        have hm1 : ((k : Int) == 0) = false := by simpa using hm0
        have hm2 : ¬ k = 0 := by omega
        rw [hm]
        clear h0 hm
        go_wp2
        go_ret2
        exact rkill_some HK.out HCE.out H0.out k HM.out
end Go.Proofs.Ytnbjknjnpfmklaa
