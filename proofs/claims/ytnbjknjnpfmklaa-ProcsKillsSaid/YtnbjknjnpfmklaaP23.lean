/- Kill: what it computes; slices.Index over the ready list. -/
import Derived.Test.YtnbjknjnpfmklaaP21
import Derived.Test.YtnbjknjnpfmklaaP19
namespace Go.Proofs.Ytnbjknjnpfmklaa
open Go.RowKit

/-- Whether Kill ends the process with this number. -/
def selB (pid : Int) (grp : Bool) (id : Int) (q : Pr) : Bool := !(q.state == 6) && (if grp then q.group == pid else id == pid)
def dropI (r : List Int) (id : Int) : List Int := if 0 ≤ Lib.idxOf r id then r.eraseIdx (Lib.idxOf r id).toNat else r
def endP (T : Tb) (id : Int) : Tb := { T with P := setP T.P id (fun p => { p with state := 6, why := ⟨#[]⟩ }) }
def offT (T : Tb) (id : Int) : Tb := if id = T.cur then overT T else T
def kill1 (T : Tb) (id : Int) : Tb := { offT (endP T id) id with ready := dropI T.ready id }
/-- The table and the list behind j processes. -/
def killS (T : Tb) (pid : Int) (grp : Bool) : Nat → Tb × List Int
  | 0 => (T, [])
  | j + 1 => if selB pid grp ((j : Int) + 1) (prD (killS T pid grp j).1.P ((j : Int) + 1)) = true then (kill1 (killS T pid grp j).1 ((j : Int) + 1), (killS T pid grp j).2 ++ [(j : Int) + 1]) else killS T pid grp j
def killT (T : Tb) (pid : Int) (grp : Bool) : Tb := (killS T pid grp T.P.length).1
def killL (T : Tb) (pid : Int) (grp : Bool) : List Int := (killS T pid grp T.P.length).2
def killE (T : Tb) (pid : Int) (grp : Bool) : Int := if killL T pid grp = [] then 4 else 0
theorem kill1_len (T : Tb) (id : Int) : (kill1 T id).P.length = T.P.length := by
  unfold kill1 offT
  split <;> simp [overT, endP, len_setP]
theorem killS_len (T : Tb) (pid : Int) (grp : Bool) (j : Nat) : (killS T pid grp j).1.P.length = T.P.length := by
  induction j with
  | zero => rfl
  | succ j ih =>
    unfold killS
    split
    · rw [kill1_len, ih]
    · exact ih

theorem idx_calls {w : World} {tb : Nat} {p : TA} {T : Tb} (h : TabAt w tb p T) (x : Int) (hr : T.ready.length ≤ 100000) :
    Calls Try.prog 39 #[.slice p.rA T.ready.length p.rC, .int .i64 x] w fun e w' => e = .returned (.int .i64 (Lib.idxOf T.ready x)) ∧ w' = w := by
  cases hl : T.ready with
  | nil => exact Try.slices_Index_int_empty p.rA p.rC x w
  | cons z zs =>
    rw [← hl]
    obtain ⟨g, hA, _, _, _, _⟩ := own_cell h.rdy 0 (by rw [hl]; simp)
    rw [hA]
    have := Try.slices_Index_int g 0 T.ready.length p.rC T.ready x w (Nat.le_refl _) (by omega) (fun j hj => rdy_cells h hA rfl j hj)
    rw [List.take_length] at this
    exact this
end Go.Proofs.Ytnbjknjnpfmklaa
