/- The contract of the law's few. -/
import Derived.Test.YtadkbcdopcehhaaDoorE4
namespace Go.Proofs.YtadkbcdopcehhaaDoor
open Go.RowKit

theorem JumpsAt.below {w w' : World} {B : Option Addr} {n : Nat} {pc : Nat → Int} (h : JumpsAt w B n pc) (hb : Below w.heap.size w w') : JumpsAt w' B n pc := fun j hj => by
  obtain ⟨b, o, h1, h2, l, u, h3, h4, h5⟩ := h j hj
  exact ⟨b, o, h1, Nat.lt_of_lt_of_le h2 hb.size, l, u, (hb.cell (p := ⟨b, _, none⟩) h2).trans h3, (hb.cell (p := ⟨b, _, none⟩) h2).trans h4, (hb.cell (p := ⟨b, _, none⟩) h2).trans h5⟩
theorem JumpsCAt.below {w w' : World} {B : Option Addr} {n : Nat} {pc : Nat → Int} (h : JumpsCAt w B n pc) (hb : Below w.heap.size w w') : JumpsCAt w' B n pc := fun j hj => by
  obtain ⟨b, o, h1, h2, l, u, h3, h4, h5⟩ := h j hj
  exact ⟨b, o, h1, Nat.lt_of_lt_of_le h2 hb.size, l, u, (hb.cell (p := ⟨b, _, none⟩) h2).trans h3, (hb.cell (p := ⟨b, _, none⟩) h2).trans h4, (hb.cell (p := ⟨b, _, none⟩) h2).trans h5⟩
theorem PatsAt.below {w w' : World} {B : Option Addr} {n : Nat} {pc : Nat → Int} (h : PatsAt w B n pc) (hb : Below w.heap.size w w') : PatsAt w' B n pc := fun j hj => by
  obtain ⟨b, o, h1, h2, l, h3, h4⟩ := h j hj
  exact ⟨b, o, h1, Nat.lt_of_lt_of_le h2 hb.size, l, (hb.cell (p := ⟨b, _, none⟩) h2).trans h3, (hb.cell (p := ⟨b, _, none⟩) h2).trans h4⟩
theorem MdIs.below {w w' : World} {q : MdA} {m : MdV} (h : MdIs w q m) (hb : Below w.heap.size w w') : MdIs w' q m where
  code := fun k hk => by
    obtain ⟨b, o, h1, h2, h3⟩ := h.code k hk
    exact ⟨b, o, h1, Nat.lt_of_lt_of_le h2 hb.size, fun i hi => (hb.cell (p := ⟨b, _, none⟩) h2).trans (h3 i hi)⟩
  cases := fun k hk => by
    obtain ⟨b, o, h1, h2, B, C, h3, h4⟩ := h.cases k hk
    exact ⟨b, o, h1, Nat.lt_of_lt_of_le h2 hb.size, B, C, (hb.cell (p := ⟨b, _, none⟩) h2).trans h3, h4.below hb⟩
  casesC := fun k hk => by
    obtain ⟨b, o, h1, h2, B, C, h3, h4⟩ := h.casesC k hk
    exact ⟨b, o, h1, Nat.lt_of_lt_of_le h2 hb.size, B, C, (hb.cell (p := ⟨b, _, none⟩) h2).trans h3, h4.below hb⟩
  hand := fun k hk => by
    obtain ⟨b, o, h1, h2, h3, h4, h5, B, C, h6, h7⟩ := h.hand k hk
    exact ⟨b, o, h1, Nat.lt_of_lt_of_le h2 hb.size, (hb.cell (p := ⟨b, _, none⟩) h2).trans h3, (hb.cell (p := ⟨b, _, none⟩) h2).trans h4, (hb.cell (p := ⟨b, _, none⟩) h2).trans h5, B, C, (hb.cell (p := ⟨b, _, none⟩) h2).trans h6, h7.below hb⟩
  lc := h.lc
  ls := h.ls
  lt := h.lt
  lh := h.lh
  lsn := h.lsn
  ltn := h.ltn
  lhn := h.lhn

/-- The module is small. -/
structure Few (m : MdV) : Prop where
  nc : m.nc ≤ 40
  ns : m.ns ≤ 6
  nt : m.nt ≤ 6
  nh : m.nh ≤ 8
  sn : ∀ k, k < m.ns → m.sn k ≤ 12
  tn : ∀ k, k < m.nt → m.tn k ≤ 12
  hn : ∀ k, k < m.nh → m.hn k ≤ 6

def FewR (m : MdV) (e : Ending) : Prop := ∃ b, e = .returned (.bool b) ∧ (b = true → Few m)

set_option maxHeartbeats 1000000 in
theorem few_big (q : MdA) (m : MdV) (w : World) (h : 40 < m.nc ∨ 6 < m.ns ∨ 6 < m.nt ∨ 8 < m.nh) :
    Calls Tryd.prog 25 #[.agg #[.string q.s, .slice q.a1 q.n1 q.c1, .slice q.a2 q.n2 q.c2, .slice q.a3 q.n3 q.c3, .slice q.a4 m.nc q.c4, .slice q.a5 q.n5 q.c5, .slice q.a6 q.n6 q.c6, .slice q.a7 m.ns q.c7, .slice q.a8 m.nt q.c8, .slice q.a9 q.n9 q.c9, .slice q.a10 m.nh q.c10]] w fun e w' => e = .returned (.bool false) ∧ Below w.heap.size w w' := by
  have HB := Lib.hid ((Below.refl w.heap.size w).alloc (Nat.le_refl _) (.cells #[.string q.s, .slice q.a1 q.n1 q.c1, .slice q.a2 q.n2 q.c2, .slice q.a3 q.n3 q.c3, .slice q.a4 m.nc q.c4, .slice q.a5 q.n5 q.c5, .slice q.a6 q.n6 q.c6, .slice q.a7 m.ns q.c7, .slice q.a8 m.nt q.c8, .slice q.a9 q.n9 q.c9, .slice q.a10 m.nh q.c10] 60))
  by_cases c1 : m.nc ≤ 40
  · by_cases c2 : m.ns ≤ 6
    · by_cases c3 : m.nt ≤ 6
      · have c4 : 8 < m.nh := by omega
        clear h
        go_enter Tryd.func25, Tryd.ntmps25
        go_wp2
        go_ret
        exact ⟨rfl, HB.out⟩
      · clear h
        go_enter Tryd.func25, Tryd.ntmps25
        go_wp2
        go_ret
        exact ⟨rfl, HB.out⟩
    · clear h
      go_enter Tryd.func25, Tryd.ntmps25
      go_wp2
      go_ret
      exact ⟨rfl, HB.out⟩
  · clear h
    go_enter Tryd.func25, Tryd.ntmps25
    go_wp2
    go_ret
    exact ⟨rfl, HB.out⟩

set_option maxHeartbeats 1000000 in
theorem few_small (q : MdA) (m : MdV) (w : World) (hm : MdIs w q m) (c1 : m.nc ≤ 40) (c2 : m.ns ≤ 6) (c3 : m.nt ≤ 6) (c4 : m.nh ≤ 8) :
    Calls Tryd.prog 25 #[.agg #[.string q.s, .slice q.a1 q.n1 q.c1, .slice q.a2 q.n2 q.c2, .slice q.a3 q.n3 q.c3, .slice q.a4 m.nc q.c4, .slice q.a5 q.n5 q.c5, .slice q.a6 q.n6 q.c6, .slice q.a7 m.ns q.c7, .slice q.a8 m.nt q.c8, .slice q.a9 q.n9 q.c9, .slice q.a10 m.nh q.c10]] w fun e w' => FewR m e ∧ Below w.heap.size w w' := by
  have HB := Lib.hid ((Below.refl w.heap.size w).alloc (Nat.le_refl _) (.cells #[.string q.s, .slice q.a1 q.n1 q.c1, .slice q.a2 q.n2 q.c2, .slice q.a3 q.n3 q.c3, .slice q.a4 m.nc q.c4, .slice q.a5 q.n5 q.c5, .slice q.a6 q.n6 q.c6, .slice q.a7 m.ns q.c7, .slice q.a8 m.nt q.c8, .slice q.a9 q.n9 q.c9, .slice q.a10 m.nh q.c10] 60))
  have HM := Lib.hid (hm.below HB.out)
  have hbox : ∀ (j : Nat) (v : Value), (#[.string q.s, .slice q.a1 q.n1 q.c1, .slice q.a2 q.n2 q.c2, .slice q.a3 q.n3 q.c3, .slice q.a4 m.nc q.c4, .slice q.a5 q.n5 q.c5, .slice q.a6 q.n6 q.c6, .slice q.a7 m.ns q.c7, .slice q.a8 m.nt q.c8, .slice q.a9 q.n9 q.c9, .slice q.a10 m.nh q.c10] : Array Value)[j]? = some v → (w.alloc (.cells #[.string q.s, .slice q.a1 q.n1 q.c1, .slice q.a2 q.n2 q.c2, .slice q.a3 q.n3 q.c3, .slice q.a4 m.nc q.c4, .slice q.a5 q.n5 q.c5, .slice q.a6 q.n6 q.c6, .slice q.a7 m.ns q.c7, .slice q.a8 m.nt q.c8, .slice q.a9 q.n9 q.c9, .slice q.a10 m.nh q.c10] 60)).cell? ⟨w.heap.size, j, none⟩ = some v := fun j v hv => by
    rw [cell_new]; exact hv
  have HX := Lib.hid hbox
  clear hm hbox
  go_enter Tryd.func25, Tryd.ntmps25
  go_wp2
  generalize w.alloc (.cells #[.string q.s, .slice q.a1 q.n1 q.c1, .slice q.a2 q.n2 q.c2, .slice q.a3 q.n3 q.c3, .slice q.a4 m.nc q.c4, .slice q.a5 q.n5 q.c5, .slice q.a6 q.n6 q.c6, .slice q.a7 m.ns q.c7, .slice q.a8 m.nt q.c8, .slice q.a9 q.n9 q.c9, .slice q.a10 m.nh q.c10] 60) = w1 at *
  have x7 : w1.cell? ⟨w.heap.size, 7, none⟩ = some (.slice q.a7 m.ns q.c7) := HX.out 7 _ rfl
  have x8 : w1.cell? ⟨w.heap.size, 8, none⟩ = some (.slice q.a8 m.nt q.c8) := HX.out 8 _ rfl
  have x10 : w1.cell? ⟨w.heap.size, 10, none⟩ = some (.slice q.a10 m.nh q.c10) := HX.out 10 _ rfl
  go_loop [3] (fun i => ∃ k : Nat, k ≤ m.ns ∧ i = .int .i64 k ∧ Hid (∀ j, j < k → m.sn j ≤ 12)) (fun i => m.ns - (intOf i).toNat)
  case atStart => exact ⟨0, by omega, rfl, fun j hj => by omega⟩
  case round =>
    obtain ⟨k, hk, rfl, hz⟩ := hrel
    by_cases hlt : k < m.ns
    · obtain ⟨b, o, ha, _, B, C, k1, _⟩ := HM.out.cases k hlt
      rw [ha] at x7 ⊢
      have g0 : (0 : Int) ≤ (k : Int) := by omega
      have g1 : (k : Int) < (m.ns : Int) := by omega
      by_cases hc : m.sn k ≤ 12
      · have HZ : Hid (∀ j, j < k + 1 → m.sn j ≤ 12) := fun j hj => by
          by_cases e : j = k
          · subst e; exact hc
          · exact hz.out j (by omega)
        clear hz
        go_wp2
        go_round
        case rel => exact ⟨k + 1, by omega, by go_num, HZ⟩
        case measure => simp [intOf]; omega
      · clear hz
        go_wp2
        go_ret
        exact ⟨⟨false, rfl, nofun⟩, HB.out⟩
    · obtain rfl : k = m.ns := by omega
      have HS := hz
      clear hz
      go_wp2
      go_loop [4] (fun i => ∃ k : Nat, k ≤ m.nt ∧ i = .int .i64 k ∧ Hid (∀ j, j < k → m.tn j ≤ 12)) (fun i => m.nt - (intOf i).toNat)
      case atStart => exact ⟨0, by omega, rfl, fun j hj => by omega⟩
      case round =>
        obtain ⟨k, hk, rfl, hz⟩ := hrel
        by_cases hlt : k < m.nt
        · obtain ⟨b, o, ha, _, B, C, k1, _⟩ := HM.out.casesC k hlt
          rw [ha] at x8 ⊢
          have g0 : (0 : Int) ≤ (k : Int) := by omega
          have g1 : (k : Int) < (m.nt : Int) := by omega
          by_cases hc : m.tn k ≤ 12
          · have HZ : Hid (∀ j, j < k + 1 → m.tn j ≤ 12) := fun j hj => by
              by_cases e : j = k
              · subst e; exact hc
              · exact hz.out j (by omega)
            clear hz
            go_wp2
            go_round
            case rel => exact ⟨k + 1, by omega, by go_num, HZ⟩
            case measure => simp [intOf]; omega
          · clear hz
            go_wp2
            go_ret
            exact ⟨⟨false, rfl, nofun⟩, HB.out⟩
        · obtain rfl : k = m.nt := by omega
          have HT := hz
          clear hz
          go_wp2
          go_loop [5] (fun i => ∃ k : Nat, k ≤ m.nh ∧ i = .int .i64 k ∧ Hid (∀ j, j < k → m.hn j ≤ 6)) (fun i => m.nh - (intOf i).toNat)
          case atStart => exact ⟨0, by omega, rfl, fun j hj => by omega⟩
          case round =>
            obtain ⟨k, hk, rfl, hz⟩ := hrel
            by_cases hlt : k < m.nh
            · obtain ⟨b, o, ha, _, _, _, _, B, C, k1, _⟩ := HM.out.hand k hlt
              rw [ha] at x10 ⊢
              have g0 : (0 : Int) ≤ (k : Int) := by omega
              have g1 : (k : Int) < (m.nh : Int) := by omega
              by_cases hc : m.hn k ≤ 6
              · have HZ : Hid (∀ j, j < k + 1 → m.hn j ≤ 6) := fun j hj => by
                  by_cases e : j = k
                  · subst e; exact hc
                  · exact hz.out j (by omega)
                clear hz
                go_wp2
                go_round
                case rel => exact ⟨k + 1, by omega, by go_num, HZ⟩
                case measure => simp [intOf]; omega
              · clear hz
                go_wp2
                go_ret
                exact ⟨⟨false, rfl, nofun⟩, HB.out⟩
            · obtain rfl : k = m.nh := by omega
              have HH := hz
              clear hz
              go_wp2
              go_ret
              exact ⟨⟨true, rfl, fun _ => ⟨c1, c2, c3, c4, HS.out, HT.out, HH.out⟩⟩, HB.out⟩
theorem few_calls (q : MdA) (m : MdV) (w : World) (hm : MdIs w q m) : Calls Tryd.prog 25 #[.agg #[.string q.s, .slice q.a1 q.n1 q.c1, .slice q.a2 q.n2 q.c2, .slice q.a3 q.n3 q.c3, .slice q.a4 m.nc q.c4, .slice q.a5 q.n5 q.c5, .slice q.a6 q.n6 q.c6, .slice q.a7 m.ns q.c7, .slice q.a8 m.nt q.c8, .slice q.a9 q.n9 q.c9, .slice q.a10 m.nh q.c10]] w fun e w' => FewR m e ∧ Below w.heap.size w w' := by
  by_cases h : 40 < m.nc ∨ 6 < m.ns ∨ 6 < m.nt ∨ 8 < m.nh
  · exact (few_big q m w h).mono fun e w' ⟨h1, h2⟩ => ⟨⟨false, h1, nofun⟩, h2⟩
  · exact few_small q m w hm (by omega) (by omega) (by omega) (by omega)
end Go.Proofs.YtadkbcdopcehhaaDoor
