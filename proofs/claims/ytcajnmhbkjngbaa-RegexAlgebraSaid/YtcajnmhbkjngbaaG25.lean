/- Texts on regular expressions, merged: R13, HG. -/
import Derived.Test.YtcajnmhbkjngbaaG23
import Derived.Test.YtcajnmhbkjngbaaG24
import Derived.Lib.TrimUEq
import Derived.Lib.MapLaws
/- The characters of texts that are joined. -/
namespace Go.Proofs.Ytcajnmhbkjngbaa
open Go.Lib

def scanB : Nat → List UInt8 → List Int
  | 0, _ => []
  | f + 1, l => if l = [] then [] else ((decodeL l).1 : Int) :: scanB f (l.drop (decodeL l).2)
theorem scanB_nil (f : Nat) : scanB f [] = [] := by cases f <;> simp [scanB]
theorem scanB_fuel : ∀ {f f' : Nat} {l : List UInt8}, l.length ≤ f → l.length ≤ f' → scanB f l = scanB f' l
  | 0, f', l, h, _ => by
    have : l = [] := List.length_eq_zero_iff.1 (by omega)
    subst this
    rw [scanB_nil, scanB_nil]
  | f + 1, 0, l, _, h => by
    have : l = [] := List.length_eq_zero_iff.1 (by omega)
    subst this
    rw [scanB_nil, scanB_nil]
  | f + 1, f' + 1, l, h, h' => by
    unfold scanB
    by_cases e : l = []
    · rw [if_pos e, if_pos e]
    · rw [if_neg e, if_neg e]
      have hw := decodeL_width l
      congr 1
      exact scanB_fuel (by rw [List.length_drop]; omega) (by rw [List.length_drop]; omega)
theorem scanL_B (s : ByteArray) : ∀ (f i : Nat), (scanL s f i).map (·.2) = scanB f (s.data.toList.drop i)
  | 0, i => rfl
  | f + 1, i => by
    have hsz : s.size = s.data.toList.length := by simp
    unfold scanL scanB
    by_cases h : i < s.size
    · have hne : ¬ s.data.toList.drop i = [] := by
        rw [List.drop_eq_nil_iff]
        omega
      rw [if_pos h, if_neg hne, List.map_cons, scanL_B s f _, decodeL_drop, List.drop_drop]
    · have hne : s.data.toList.drop i = [] := by
        rw [List.drop_eq_nil_iff]
        omega
      rw [if_neg h, if_pos hne]
      rfl
/-- The characters of some bytes. -/
def charsB (l : List UInt8) : List Int := scanB l.length l
theorem charsS_B (s : ByteArray) : charsS s = charsB s.data.toList := by
  have hsz : s.size = s.data.toList.length := by simp
  unfold charsS scanS charsB
  rw [scanL_B, List.drop_zero, hsz]
set_option maxRecDepth 100000 in
set_option maxHeartbeats 2000000 in
theorem decode_app {l post : List UInt8} (hl : l ≠ []) (hp : ∀ b, post[0]? = some b → b.toNat < 128) : decodeL (l ++ post) = decodeL l := by
  rw [decodeL_N, decodeL_N]
  have hn : 0 < l.length := List.length_pos_iff.2 hl
  have g : ∀ k, k < l.length → (l ++ post).getD k 0 = l.getD k 0 := fun k hk => by
    rw [List.getD_eq_getElem?_getD, List.getD_eq_getElem?_getD, List.getElem?_append_left hk]
  have e : ((l ++ post).getD l.length 0).toNat < 128 := by
    rw [List.getD_eq_getElem?_getD, List.getElem?_append_right (Nat.le_refl _), Nat.sub_self]
    cases hq : post[0]? with
    | none => decide
    | some b => exact hp b hq
  rw [List.length_append, g 0 hn]
  have h0 := (l.getD 0 0).toNat_lt
  generalize (l.getD 0 0).toNat = b0 at *
  by_cases hb : b0 < 128
  · rw [decodeN_ascii _ _ _ _ _ hb, decodeN_ascii _ _ _ _ _ hb]
  · rcases (show l.length = 1 ∨ l.length = 2 ∨ l.length = 3 ∨ 4 ≤ l.length by omega) with h1 | h1 | h1 | h1
    · rw [h1] at e ⊢
      rw [decodeN_alone _ _ _ _ _ (by omega) (.inr (by omega)), decodeN_alone _ _ _ _ _ (by omega) (.inl (by omega))]
    · rw [g 1 (by omega)]
      rw [h1] at e ⊢
      generalize ((l ++ post).getD 2 0).toNat = c2 at *
      generalize ((l ++ post).getD 3 0).toNat = c3 at *
      unfold decodeN
      repeat' split
      all_goals first | rfl | (exfalso; omega)
    · rw [g 1 (by omega), g 2 (by omega)]
      rw [h1] at e ⊢
      generalize ((l ++ post).getD 3 0).toNat = c3 at *
      unfold decodeN
      repeat' split
      all_goals first | rfl | (exfalso; omega)
    · rw [g 1 (by omega), g 2 (by omega), g 3 (by omega)]
      unfold decodeN
      repeat' split
      all_goals first | rfl | (exfalso; omega)
theorem scanB_app {post : List UInt8} (hp : ∀ b, post[0]? = some b → b.toNat < 128) : ∀ (f : Nat) (l : List UInt8), l.length ≤ f → charsB (l ++ post) = scanB f l ++ charsB post
  | 0, l, h => by
    have : l = [] := List.length_eq_zero_iff.1 (by omega)
    subst this
    rfl
  | f + 1, l, h => by
    by_cases e : l = []
    · subst e; rw [scanB_nil]; rfl
    · have hw := decodeL_width l
      have hle := decodeL_le l e
      have hlen : (l ++ post).length = (l ++ post).length - 1 + 1 := by
        have := List.length_pos_iff.2 e
        rw [List.length_append]
        omega
      have hne : ¬ l ++ post = [] := by simp [e]
      unfold charsB
      rw [hlen, scanB, if_neg hne, decode_app e hp, scanB, if_neg e, List.drop_append_of_le_length hle, List.cons_append]
      congr 1
      have := List.length_pos_iff.2 e
      exact (scanB_fuel (f' := (l.drop (decodeL l).2 ++ post).length) (by simp only [List.length_append, List.length_drop]; omega) (Nat.le_refl _)).trans (scanB_app hp f _ (by rw [List.length_drop]; omega))
theorem charsB_app {l post : List UInt8} (hp : ∀ b, post[0]? = some b → b.toNat < 128) : charsB (l ++ post) = charsB l ++ charsB post := scanB_app hp _ l (Nat.le_refl _)
theorem charsB_ascii {b : UInt8} (hb : b.toNat < 128) (l : List UInt8) : charsB (b :: l) = (b.toNat : Int) :: charsB l := by
  have hd : decodeL (b :: l) = (b.toNat, 1) := by
    rw [decodeL_N]
    exact decodeN_ascii _ _ _ _ _ hb
  unfold charsB
  rw [List.length_cons, scanB, if_neg (by simp), hd]
  rfl
/-- The texts of the law. -/
theorem chars_alt (p q : ByteArray) : charsS ((((⟨#[40]⟩ : ByteArray) ++ p ++ ⟨#[41, 124, 40]⟩) ++ q) ++ ⟨#[41]⟩) = 40 :: (charsS p ++ 41 :: 124 :: 40 :: (charsS q ++ [41])) := by
  have e : ((((⟨#[40]⟩ : ByteArray) ++ p ++ ⟨#[41, 124, 40]⟩) ++ q) ++ ⟨#[41]⟩).data.toList = 40 :: (p.data.toList ++ 41 :: 124 :: 40 :: (q.data.toList ++ [41])) := by simp [ByteArray.data_append]
  rw [charsS_B, e, charsB_ascii (by decide), charsB_app (by intro b hb; simp at hb; subst hb; decide), charsB_ascii (by decide), charsB_ascii (by decide), charsB_ascii (by decide), charsB_app (by intro b hb; simp at hb; subst hb; decide), charsB_ascii (by decide), charsS_B, charsS_B]
  rfl
theorem chars_cat (p q : ByteArray) : charsS ((((⟨#[40]⟩ : ByteArray) ++ p ++ ⟨#[41, 40]⟩) ++ q) ++ ⟨#[41]⟩) = 40 :: (charsS p ++ 41 :: 40 :: (charsS q ++ [41])) := by
  have e : ((((⟨#[40]⟩ : ByteArray) ++ p ++ ⟨#[41, 40]⟩) ++ q) ++ ⟨#[41]⟩).data.toList = 40 :: (p.data.toList ++ 41 :: 40 :: (q.data.toList ++ [41])) := by simp [ByteArray.data_append]
  rw [charsS_B, e, charsB_ascii (by decide), charsB_app (by intro b hb; simp at hb; subst hb; decide), charsB_ascii (by decide), charsB_ascii (by decide), charsB_app (by intro b hb; simp at hb; subst hb; decide), charsB_ascii (by decide), charsS_B, charsS_B]
  rfl
theorem chars_star (p : ByteArray) : charsS (((⟨#[40]⟩ : ByteArray) ++ p) ++ ⟨#[41, 42]⟩) = 40 :: (charsS p ++ [41, 42]) := by
  have e : (((⟨#[40]⟩ : ByteArray) ++ p) ++ ⟨#[41, 42]⟩).data.toList = 40 :: (p.data.toList ++ [41, 42]) := by simp [ByteArray.data_append]
  rw [charsS_B, e, charsB_ascii (by decide), charsB_app (by intro b hb; simp at hb; subst hb; decide), charsB_ascii (by decide), charsB_ascii (by decide), charsS_B]
  rfl
theorem chars_plus (p : ByteArray) : charsS (((⟨#[40]⟩ : ByteArray) ++ p) ++ ⟨#[41, 43, 124]⟩) = 40 :: (charsS p ++ [41, 43, 124]) := by
  have e : (((⟨#[40]⟩ : ByteArray) ++ p) ++ ⟨#[41, 43, 124]⟩).data.toList = 40 :: (p.data.toList ++ [41, 43, 124]) := by simp [ByteArray.data_append]
  rw [charsS_B, e, charsB_ascii (by decide), charsB_app (by intro b hb; simp at hb; subst hb; decide), charsB_ascii (by decide), charsB_ascii (by decide), charsB_ascii (by decide), charsS_B]
  rfl
/-- What Compile gives for a text that is not too long. -/
def GotS (s : ByteArray) (l : List Nd) : Prop := (∃ t, compM s = .inr (l, t)) ∨ ∃ q, compM s = .inl (q, 3)
theorem gotS_of {s : ByteArray} {cs : List Int} {l : List Nd} (hc : charsS s = cs) (h : Got cs l) : GotS s l := by
  unfold GotS compM
  by_cases hs : 1000 < s.size
  · rw [if_pos hs]; exact .inr ⟨_, rfl⟩
  · rw [if_neg hs, hc]
    rcases h with ⟨j, t, e⟩ | ⟨q, e⟩
    · rw [e]; exact .inl ⟨t, rfl⟩
    · rw [e]; exact .inr ⟨_, rfl⟩
end Go.Proofs.Ytcajnmhbkjngbaa

/- A region that draws, gone through by hand under a condition that is held. -/
namespace Go.Proofs.Ytcajnmhbkjngbaa
open Go.RowKit Go.Shelf
section
variable {P : Program} {ops : Array Oper} {Q : Exit → Act → World → Prop} {md : Region.Mode} {S : World → Prop}
/-- One is taken first. -/
theorem wpH_take {i : Nat} {oi : Oper} {v : Value} {fuel : Nat} {listed : Array Bool} {a : Act} {w : World} (hi : ops[i]? = some oi) (hs : Region.noSelect ops = true) (hf : Region.free md ops listed i = true) (hr : (Region.ready md ops listed).contains i = true)
    (d : Option Tmp) (hd : oi.dst = d) (hQ : ∀ c a w, Q (.panic c) (a.put d v) w → Q (.panic c) a w) (hy : YieldsIf P ops S oi v a) (hS : S w)
    (h : wpAnyH P md ops Q S fuel (listed.setIfInBounds i true) (a.put d v) w) : wpAnyH P md ops Q S (fuel + 1) listed a w :=
  wpAnyH_take hi hs hf hr (hd ▸ hQ) hy hS (hd ▸ h)
/-- One alone may come up. -/
theorem wpH_one {i : Nat} {o : Oper} {fuel : Nat} {listed : Array Bool} {a : Act} {w : World} (hr : Region.ready md ops listed = [i]) (ho : ops[i]? = some o)
    (h : ∀ K : Act → World → Prop, (∀ a' w', S w' → wpAnyH P md ops Q S fuel (listed.setIfInBounds i true) a' w' → K a' w') → if Region.wanted o (yielded ops a.tmps) = true then Oper.wp P o a w K Q else K (a.put o.dst undef) w) : wpAnyH P md ops Q S (fuel + 1) listed a w := by
  refine wpAnyH_all hr (by simp) fun j hj => ?_
  obtain rfl : j = i := by simpa using hj
  exact wpOp_step ho fun K hK => h K fun a' w' h1 h2 => hK _ _ ⟨h1, h2⟩
end
end Go.Proofs.Ytcajnmhbkjngbaa

