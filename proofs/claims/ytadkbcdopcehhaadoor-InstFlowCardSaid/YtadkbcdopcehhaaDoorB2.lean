/- Contracts of the reference's Find, within, Kind, Uses, most, inside. -/
import Derived.Test.YtadkbcdopcehhaaDoorB1
import Derived.Test.YtadkbcdopcehhaaDoorA6
namespace Go.Proofs.YtadkbcdopcehhaaDoor
open Go.RowKit Mp

theorem Below.step {w0 w w' : World} (h : Below w0.heap.size w0 w) (hb : Below w.heap.size w w') : Below w0.heap.size w0 w' := h.trans (hb.mono h.size)
theorem str_ne {a b : ByteArray} (h : a ≠ b) : (a.toList == b.toList) = false := by
  rw [← beq_toListBytes, Bool.eq_false_iff]
  exact fun e => h ((MapKept.bytes_beq a b).1 e)
theorem get_upto_none (k : Nat) (s : ByteArray) (h : ∀ j, j < k → nm j ≠ s) : get (nmsUpto k) s = none := by
  rw [get_none_iff]
  intro p hp
  obtain ⟨i, hi, rfl⟩ := List.mem_map.1 hp
  exact h i (List.mem_range.1 hi)
set_option maxHeartbeats 1000000 in
theorem rfind_calls (s : ByteArray) (w : World) :
    Calls Tryd.prog 15 #[.string s] w fun e w' => e = .returned (.tuple #[.int .i64 ((findI s).getD 0), .bool (findI s).isSome]) ∧ Below w.heap.size w w' := by
  go_enter Tryd.func15, Tryd.ntmps15
  go_wp2
  go_loopw [4, 5, 6, 11, 14, 15] (fun i _ _ _ _ _ wr => ∃ k : Nat, k ≤ 111 ∧ i = .int .i64 k ∧ Hid (∀ j, j < k → nm j ≠ s) ∧ Hid (Below w.heap.size w wr)) (fun i _ _ _ _ _ _ => 111 - (intOf i).toNat)
  case atStart => exact ⟨0, by omega, rfl, fun j hj => by omega, Below.refl _ _⟩
  case round =>
    obtain ⟨k, hk, rfl, hz, hB⟩ := hrel
    by_cases hlt : k < 111
    · have HE := Lib.hid (entry_in k wr hlt)
      by_cases he : nm k = s
      · have hf : findI s = some (k : Int) := by rw [← he]; unfold findI; rw [get_upto 111 (by omega) k hlt, if_pos hlt]
        have HF := Lib.hid hf
        rw [he] at HE
        clear hf hz he
        go_wp2_with (go_at_call 13; refine HE.out.mono ?_; rintro e w1 ⟨rfl, hb⟩; have HB1 := Lib.hid (Below.step hB.out hb); clear hb)
        go_ret2
        rw [HF.out]
        exact ⟨rfl, HB1.out⟩
      · have he' := str_ne he
        have HZ : Hid (∀ j, j < k + 1 → nm j ≠ s) := fun j hj => by
          by_cases e : j = k
          · subst e; exact he
          · exact hz.out j (by omega)
        clear he hz
        go_wp2_with (go_at_call 13; refine HE.out.mono ?_; rintro e w1 ⟨rfl, hb⟩; have HB1 := Lib.hid (Below.step hB.out hb); clear hb)
        go_roundw
        case rel => exact ⟨k + 1, by omega, by go_num, HZ, HB1⟩
        case measure => simp [intOf]; omega
    · obtain rfl : k = 111 := by omega
      have hf : findI s = none := get_upto_none 111 s hz.out
      have HF := Lib.hid hf
      clear hf hz
      go_wp2
      go_ret2
      rw [HF.out]
      exact ⟨rfl, hB.out⟩

def win (c : UInt8) (l : List UInt8) : Bool := l.any fun x => x == c
theorem win_calls (c : UInt8) (l : List UInt8) (w : World) (hl : l.length ≤ 9223372036854775807) :
    Calls Tryd.prog 37 #[.int .u8 (c.toNat : Int), .string ⟨l.toArray⟩] w fun e w' => e = .returned (.bool (win c l)) ∧ w = w' := by
  go_enter Tryd.func37, Tryd.ntmps37
  go_wp2
  go_loop [5] (fun i => ∃ k : Nat, k ≤ l.length ∧ i = .int .i64 k ∧ Hid (∀ j, j < k → l.getD j 0 ≠ c)) (fun i => l.length - (intOf i).toNat)
  case atStart => exact ⟨0, by omega, rfl, fun j hj => by omega⟩
  case round =>
    obtain ⟨k, hk, rfl, hz⟩ := hrel
    by_cases hlt : k < l.length
    · obtain ⟨v, hv⟩ : ∃ v : Int, ((l.getD k 0).toNat : Int) = v := ⟨_, rfl⟩
      have hx := fun w => run_index_lit l k v hlt hv w
      by_cases he : l.getD k 0 = c
      · have hw : win c l = true := by
          unfold win
          rw [List.any_eq_true]
          refine ⟨l.getD k 0, ?_, by rw [he]; simp⟩
          exact List.mem_of_getElem? (i := k) (by simp [List.getD, List.getElem?_eq_getElem hlt])
        rw [he] at hv
        have HW := Lib.hid hw
        clear hw he hz
        go_wp2
        go_ret
        rw [HW.out]
        exact ⟨rfl, rfl⟩
      · have hv' : (v == (c.toNat : Int)) = false := by
          rw [← hv, beq_eq_false_iff_ne]
          intro e
          exact he (UInt8.toNat.inj (by omega))
        have HZ : Hid (∀ j, j < k + 1 → l.getD j 0 ≠ c) := fun j hj => by
          by_cases e : j = k
          · subst e; exact he
          · exact hz.out j (by omega)
        clear hv he hz
        go_wp2
        go_round
        case rel => exact ⟨k + 1, by omega, by go_num, HZ⟩
        case measure => simp [intOf]; omega
    · have hw : win c l = false := by
        unfold win
        rw [List.any_eq_false]
        intro x hx
        obtain ⟨j, hj, rfl⟩ := List.getElem_of_mem hx
        have := hz.out j (by omega)
        simp only [List.getD, List.getElem?_eq_getElem hj, Option.getD_some] at this
        simpa using this
      have HW := Lib.hid hw
      clear hw hz
      go_wp2
      go_ret
      rw [HW.out]
      exact ⟨rfl, rfl⟩

/-- The reference's most. -/
def rmost (c : Int) : Int := if c = 100 then 1023 else if c = 102 ∨ c = 101 ∨ c = 105 then 255 else if c = 107 ∨ c = 103 then 255 else if c = 119 then 1 else 16383
theorem rmost_calls (c : Int) (w : World) :
    Calls Tryd.prog 56 #[.int .u8 c] w fun e w' => e = .returned (.int .i64 (rmost c)) ∧ w = w' := by
  go_enter Tryd.func56, Tryd.ntmps56
  go_wp2
  all_goals go_ret
  all_goals exact ⟨ret_int (by unfold rmost; simp_all), rfl⟩

/-- The reference's inside. -/
def ins (A B l a b : Int) : Bool := decide (l ≤ A ∧ A ≤ a ∧ 0 ≤ B ∧ B ≤ b)
theorem ins_calls (md A B l a b : Int) (w : World) :
    Calls Tryd.prog 55 #[.agg #[.int .i64 md, .int .i64 A, .int .i64 B], .int .i64 l, .int .i64 a, .int .i64 b] w fun e w' => e = .returned (.bool (ins A B l a b)) ∧ Below w.heap.size w w' := by
  go_enter Tryd.func55, Tryd.ntmps55
  go_wp2
  all_goals go_ret
  all_goals refine ⟨ret_bool (by unfold ins; first | (simp_all; done) | (simp_all; omega)), (Below.refl _ _).alloc (Nat.le_refl _) _⟩

def usR : List UInt8 := [110, 99, 88, 118, 112, 113, 97, 89, 108, 90, 104, 114, 109, 98]
def usW : List UInt8 := [78, 67, 88, 86, 65, 89, 76, 90, 72, 82, 77, 66]
def usN : List UInt8 := [118, 113]
theorem uses_calls (c : UInt8) (w : World) :
    Calls Tryd.prog 20 #[.int .u8 (c.toNat : Int)] w fun e w' => e = .returned (.tuple #[.bool (win c usR), .bool (win c usW), .bool (win c usN)]) ∧ w = w' := by
  have t1 : True := trivial
  have t2 : True := trivial
  go_enter Tryd.func20, Tryd.ntmps20
  go_wp2_with (first
    | (go_at_call 37; have _t := t1; refine (win_calls c usR _ (by decide)).mono ?_; rintro e w' ⟨rfl, rfl⟩; clear t1)
    | (go_at_call 37; have _t := t2; refine (win_calls c usW _ (by decide)).mono ?_; rintro e w' ⟨rfl, rfl⟩; clear t2)
    | (go_at_call 37; refine (win_calls c usN _ (by decide)).mono ?_; rintro e w' ⟨rfl, rfl⟩))
  go_ret3
  exact ⟨rfl, rfl⟩

def kindsR : List (List UInt8) := [[45], [110, 78], [99, 67, 88], [97, 65, 89], [108, 76, 90], [104, 72], [114, 82], [109, 77], [112, 113], [118, 86], [98, 66], [100, 106, 115, 116, 117, 102, 101, 105, 107, 103, 119]]
def kindsRC : List Value := [.string ⟨#[45]⟩, .string ⟨#[110, 78]⟩, .string ⟨#[99, 67, 88]⟩, .string ⟨#[97, 65, 89]⟩, .string ⟨#[108, 76, 90]⟩, .string ⟨#[104, 72]⟩, .string ⟨#[114, 82]⟩, .string ⟨#[109, 77]⟩, .string ⟨#[112, 113]⟩, .string ⟨#[118, 86]⟩, .string ⟨#[98, 66]⟩, .string ⟨#[100, 106, 115, 116, 117, 102, 101, 105, 107, 103, 119]⟩]
theorem kindsRC_len : kindsRC.length = 12 := rfl
theorem kindsRC_at (k : Nat) (h : k < 12) : kindsRC[k]'(by rw [kindsRC_len]; exact h) = .string ⟨(kindsR.getD k []).toArray⟩ := by
  have : ∀ k : Fin 12, kindsRC[k.val]'(by rw [kindsRC_len]; exact k.isLt) = .string ⟨(kindsR.getD k.val []).toArray⟩ := by
    intro k
    match k with
    | ⟨0, _⟩ => rfl
    | ⟨1, _⟩ => rfl
    | ⟨2, _⟩ => rfl
    | ⟨3, _⟩ => rfl
    | ⟨4, _⟩ => rfl
    | ⟨5, _⟩ => rfl
    | ⟨6, _⟩ => rfl
    | ⟨7, _⟩ => rfl
    | ⟨8, _⟩ => rfl
    | ⟨9, _⟩ => rfl
    | ⟨10, _⟩ => rfl
    | ⟨11, _⟩ => rfl
    | ⟨n + 12, h⟩ => omega
  exact this ⟨k, h⟩
/-- The reference's Kind, from an index on. -/
def kindFrom (c : UInt8) : List (List UInt8) → Int → Int
  | [], _ => -1
  | l :: r, i => if win c l then i else kindFrom c r (i + 1)
def kindRv (c : UInt8) : Int := kindFrom c kindsR 0
theorem kindFrom_skip (c : UInt8) (ls : List (List UInt8)) : ∀ k i, (∀ j, j < k → win c (ls.getD j []) = false) → kindFrom c ls i = kindFrom c (ls.drop k) (i + (min k ls.length : Nat)) := by
  induction ls with
  | nil => intro k i _; simp [kindFrom]
  | cons l r ih =>
    intro k i h
    cases k with
    | zero => simp
    | succ k =>
      have h0 := h 0 (by omega)
      simp at h0
      simp only [kindFrom, h0, Bool.false_eq_true, if_false, List.drop_succ_cons]
      rw [ih k (i + 1) (fun j hj => by have := h (j + 1) (by omega); simpa using this)]
      congr 1
      simp only [List.length_cons]
      omega
theorem kinds_len : kindsR.length = 12 := rfl
theorem kinds_small (k : Nat) : (kindsR.getD k []).length ≤ 9223372036854775807 := by
  have : ∀ l ∈ kindsR, l.length ≤ 9223372036854775807 := by decide
  rcases Nat.lt_or_ge k kindsR.length with h | h
  · exact this _ (List.mem_of_getElem? (i := k) (by simp [List.getD, List.getElem?_eq_getElem h]))
  · simp [List.getD, List.getElem?_eq_none h]
set_option maxHeartbeats 1000000 in
theorem rkind_calls (c : UInt8) (w : World) :
    Calls Tryd.prog 19 #[.int .u8 (c.toNat : Int)] w fun e w' => e = .returned (.int .i64 (kindRv c)) ∧ Below w.heap.size w w' := by
  go_enter Tryd.func19, Tryd.ntmps19
  go_wp2
  go_loop [4] (fun i => ∃ k : Nat, k ≤ 12 ∧ i = .int .i64 k ∧ Hid (∀ j, j < k → win c (kindsR.getD j []) = false)) (fun i => 12 - (intOf i).toNat)
  case atStart => exact ⟨0, by omega, rfl, fun j hj => by omega⟩
  case round =>
    obtain ⟨k, hk, rfl, hz⟩ := hrel
    by_cases hlt : k < 12
    · have hx := kindsRC_at k hlt
      simp only [kindsRC] at hx
      have HW := Lib.hid (fun w => win_calls c (kindsR.getD k []) w (kinds_small k))
      cases he : win c (kindsR.getD k []) with
      | true =>
        have hv : kindRv c = k := by
          unfold kindRv
          rw [kindFrom_skip c kindsR k 0 hz.out, List.drop_eq_getElem_cons (by rw [kinds_len]; omega)]
          have e : kindsR[k]'(by rw [kinds_len]; omega) = kindsR.getD k [] := by simp [List.getD, List.getElem?_eq_getElem (show k < kindsR.length by rw [kinds_len]; omega)]
          rw [kindFrom, e, he, if_pos rfl, kinds_len]
          omega
        have HV := Lib.hid hv
        rw [he] at HW
        clear hv he hz
        generalize kindsR.getD k [] = l at *
        go_wp2_with (go_at_call 37; refine (HW.out _).mono ?_; rintro e w' ⟨rfl, rfl⟩)
        go_ret
        rw [HV.out]
        exact ⟨rfl, (Below.refl _ _).alloc (Nat.le_refl _) _⟩
      | false =>
        have HZ : Hid (∀ j, j < k + 1 → win c (kindsR.getD j []) = false) := fun j hj => by
          by_cases e : j = k
          · subst e; exact he
          · exact hz.out j (by omega)
        rw [he] at HW
        clear he hz
        obtain ⟨l, hl⟩ : ∃ l, l = kindsR.getD k [] := ⟨_, rfl⟩
        rw [← hl] at hx HW
        clear hl
        go_wp2_with (go_at_call 37; refine (HW.out _).mono ?_; rintro e w' ⟨rfl, rfl⟩)
        go_round
        case rel => exact ⟨k + 1, by omega, by go_num, HZ⟩
        case measure => simp [intOf]; omega
    · obtain rfl : k = 12 := by omega
      have hv : kindRv c = -1 := by
        unfold kindRv
        rw [kindFrom_skip c kindsR 12 0 hz.out, List.drop_of_length_le (by rw [kinds_len]; omega)]
        rfl
      have HV := Lib.hid hv
      clear hv hz
      go_wp2
      go_ret
      rw [HV.out]
      exact ⟨rfl, (Below.refl _ _).alloc (Nat.le_refl _) _⟩
end Go.Proofs.YtadkbcdopcehhaaDoor
