/- The card of InstRaises: the walk, lifted to the row, and the row's card. -/
import Derived.Test.YtadkbcdopcehhaaDoorD5
import Derived.Test.YtadkbcdopcehhaaDoorCards
import Derived.Test.YtadkbcdopcehhaaDoorTie
import Derived.WalkKit
import Derived.ProofKit
import Derived.OpenShut
import Derived.LaidMore
import Derived.Stop.Joined
import Derived.SevenTiedAt
import Derived.Lib.LaidTab
import Derived.Stop.LaidErr
namespace Go.Proofs.YtadkbcdopcehhaaDoor.instRaises
open Go.ChangeShapes Go.WideShapes Go.ChangeAt Go.WideMaps Go.WideElems Go.RowKit
theorem own : ownKnob Tryd.prog.godebug = none := by kernel_rfl
theorem laidOut : laidOutB Tryd.prog = true := by kernel_rfl
theorem door_met (os : Os) (args : Array Value) : laidMetH Tryd.prog Rows.instRaisesRow.laid ((World.doorLaid Tryd.prog 33 os).forCall (fun _ _ => 0) ⟨#[], args, []⟩).memory :=
  laidMetH_of_parts3 (fuel := 8) (laidMet_of_run' 8 (by kernel_rfl) (by kernel_rfl)) (by kernel_rfl) (by kernel_rfl)
theorem gTab : Tryd.prog.globalNamed "strings.asciiSpace" = some 0 := by kernel_rfl
theorem gTabType : (Tryd.prog.globals[0]?).map (·.type) = some 96 := by kernel_rfl
theorem cells96 : Tryd.prog.cellsOf 96 = 256 := by kernel_rfl
theorem cells5 : Tryd.prog.cellsOf 5 = 1 := by kernel_rfl
theorem tabEq : (Rows.laid_strings_asciiSpace : DataW Unit) = Lib.tabData .u8 Lib.asciiSpaceTab := by kernel_rfl
theorem table {W : World} (h : laidMetH Tryd.prog Rows.instRaisesRow.laid W) : SpTab W := by
  rw [MakeChecks.laidMetH_plain _ _ _ (by kernel_rfl)] at h
  have h2 : laidMet Tryd.prog [("strings.asciiSpace", Rows.laid_strings_asciiSpace)] W := laidMet.tail h
  rw [tabEq] at h2
  exact Lib.tabIs_of_head (rest := []) gTab gTabType Tryd.underlying96 Tryd.underlying5 cells5 cells96 h2
set_option maxRecDepth 100000 in
theorem inst_open {W : World} {base : Nat} {v : Value} (h : Value.okWide Tryd.prog W .any base 40 v) :
    ∃ a b c d e f g h i j : Int, v = .agg #[.int .i64 a, .int .i64 b, .int .i64 c, .int .i64 d, .int .i64 e, .int .i64 f, .int .i64 g, .int .i64 h, .int .i64 i, .int .i64 j] := by
  have h2 : ∃ cs, v = .agg cs ∧ cs.size = Tryd.prog.cellsOf 40 ∧ Row.okWide Tryd.prog W .any base 40 cs := by
    simpa only [Value.okWide, Tryd.underlying40] using h
  obtain ⟨cs, rfl, hsz, ts, hts, hn, hcell⟩ := h2
  have e1 : Tryd.prog.cellTypes Tryd.prog.depth 40 = some [3, 3, 3, 3, 3, 3, 3, 3, 3, 3] := by kernel_rfl
  obtain rfl := Option.some.inj (e1.symm.trans hts)
  rw [show Tryd.prog.cellsOf 40 = 10 by kernel_rfl] at hsz
  have hint : ∀ i, i < 10 → ∃ n, cs[i]? = some (.int .i64 n) := by
    intro i hi
    obtain ⟨v, hv⟩ : ∃ v, cs[i]? = some v := ⟨cs[i], by rw [Array.getElem?_eq_getElem]⟩
    obtain ⟨u, hu, ho⟩ := hcell i v hv
    obtain rfl : u = 3 := by
      have hm : u ∈ [3, 3, 3, 3, 3, 3, 3, 3, 3, 3] := List.mem_of_getElem? hu
      simpa using hm
    have ho2 : Value.okWide Tryd.prog W .any base 3 v := by
      simpa only [Value.okWide, Tryd.underlying3] using ho
    obtain ⟨n, rfl⟩ := okWide_int Tryd.underlying3 ho2
    exact ⟨n, hv⟩
  obtain ⟨a, ha⟩ := hint 0 (by omega)
  obtain ⟨b, hb⟩ := hint 1 (by omega)
  obtain ⟨c, hc⟩ := hint 2 (by omega)
  obtain ⟨d, hd⟩ := hint 3 (by omega)
  obtain ⟨e, he⟩ := hint 4 (by omega)
  obtain ⟨f, hf⟩ := hint 5 (by omega)
  obtain ⟨g, hg⟩ := hint 6 (by omega)
  obtain ⟨h, hh⟩ := hint 7 (by omega)
  obtain ⟨i, hi⟩ := hint 8 (by omega)
  obtain ⟨j, hj⟩ := hint 9 (by omega)
  refine ⟨a, b, c, d, e, f, g, h, i, j, congrArg Value.agg ?_⟩
  apply Array.ext_getElem?
  intro k
  rcases Nat.lt_or_ge k 10 with hk | hk
  · have : k = 0 ∨ k = 1 ∨ k = 2 ∨ k = 3 ∨ k = 4 ∨ k = 5 ∨ k = 6 ∨ k = 7 ∨ k = 8 ∨ k = 9 := by omega
    rcases this with rfl | rfl | rfl | rfl | rfl | rfl | rfl | rfl | rfl | rfl <;> simp_all
  · rw [Array.getElem?_eq_none (by omega), Array.getElem?_eq_none (by simpa using hk)]

set_option maxRecDepth 100000 in
theorem lifted (os : Os) (started : os.Started) (H : Type) (enc : TypeId × Value → H) :
    ReturnsInHanded {} Tryd.checked os 8 .any (fun w args => (Rows.instRaisesSpec.pre enc Tryd.prog Tryd.f8 [] false w args ∧ laidMetH Tryd.prog Rows.instRaisesRow.laid w) ∧ sizedMet enc Tryd.prog Tryd.f8 (OpenSpec.ofChange Rows.instRaisesSpec) false w args)
      (Rows.instRaisesSpec.post enc Tryd.prog Tryd.f8 false true false false) := by
  refine returnsInHanded_of_change_and (C := Tryd.checked) (X := fun w _ => laidMetH Tryd.prog Rows.instRaisesRow.laid w) (fun _ _ _ hh h => h.of_heap hh) own started (by kernel_rfl) Tryd.func8
    (ChangeSpec.witness_shaped (enc := enc) (C := Tryd.checked) (os := os) (X := fun w _ => laidMetH Tryd.prog Rows.instRaisesRow.laid w) false (World.doorLaid Tryd.prog 33 os) #[.agg #[.int .i64 0, .int .i64 0, .int .i64 0, .int .i64 0, .int .i64 0, .int .i64 0, .int .i64 0, .int .i64 0, .int .i64 0, .int .i64 0]] 8 rfl (World.shaped_of_RefB (by kernel_rfl) (by kernel_rfl)) (by kernel_rfl) (by kernel_rfl) (by kernel_rfl) (door_met os _)) ?_
  intro W base args ds gs before hval0 hW _ _ hL _
  have hval : ∀ (j : Nat) t v, Tryd.f8.params[j]? = some t → args[j]? = some v → Value.okWide Tryd.prog W .any base t v := hval0
  have hW' := hW
  obtain ⟨p, q, hA0, hV, rfl, hfz, hnd⟩ := hW
  have hA : DataW.TrodAll enc Tryd.prog W 0 (fun _ => true) true Tryd.f8.params.toList args.toList ds p := hA0
  rw [Tryd.params8] at hA hval
  obtain ⟨v0, vs0, d0, ds0, p0, q0, hargs, rfl, rfl, h0, r0⟩ := trodAll_cons hA
  obtain ⟨rfl, rfl, rfl⟩ := trodAll_nil r0
  obtain rfl : args = #[v0] := by cases args; simp_all
  obtain ⟨rfl, rfl⟩ := trodVars_none hV
  have k0 := h0
  have lt0 : ∀ x ∈ p0, x.block < W.heap.size := by obtain ⟨m, hm⟩ := k0; exact DataW.trod_lt m _ _ _ hm
  obtain ⟨a0, a1, a2, a3, a4, a5, a6, a7, a8, a9, rfl⟩ := inst_open (hval 0 40 v0 rfl rfl)
  clear hA0 hval0
  refine (law_raises a0 a1 a2 a3 a4 a5 a6 a7 a8 a9 W (table hL)).mono fun e W' ⟨he, bel⟩ => ?_
  subst he
  exact ⟨_, rfl, _, _, _, [], _, [], hW', trodAll_mk1 (shut_bool Tryd.underlying4 _), (trodAll_cons_mk (Below.trod laidOut (by kernel_rfl) (of_decide_eq_true (by kernel_rfl)) k0 bel lt0) trodAll_mk0), rfl, bel.frame _, fun h => by cases h⟩
theorem said : Rows.InstRaisesSaid :=
  OpenClaim.holds_of_wide 8 Tryd.f8 rfl rfl rfl rfl rfl rfl rfl ⟨rfl, rfl, rfl, rfl, rfl⟩ rfl rfl rfl rfl rfl (by kernel_rfl) Tryd.func8 (by kernel_rfl)
    (of_decide_eq_true (by kernel_rfl)) (by unfold Func.isWrapper; first | (rw [if_pos (by decide +kernel)]; kernel_rfl) | (rw [if_neg (by decide +kernel)]; exact ⟨rfl, rfl⟩))
    (fun os started H enc _ => lifted os started H enc)
theorem plain (f : FuncId) (fn : Func) (hf : Tryd.pinned.checked.prog.funcNamed "acheron/acheronlaw14.InstRaises" = some f) (hfn : Tryd.pinned.checked.prog.funcs[f]? = some fn) :
    false = Tryd.pinned.checked.prog.looks [] ∧ ∀ (j : Nat) t, fn.params[j]? = some t → Tryd.pinned.checked.prog.wantsStandIn t = false := by
  obtain rfl : f = 8 := Option.some.inj ((show Tryd.prog.funcNamed "acheron/acheronlaw14.InstRaises" = some 8 by kernel_rfl).symm.trans hf) |>.symm
  obtain rfl : fn = Tryd.f8 := (Option.some.inj (Tryd.func8.symm.trans hfn)).symm
  refine ⟨by kernel_rfl, fun j t ht => ?_⟩
  rw [Tryd.params8] at ht
  have hm : t ∈ [40] := by simpa using Array.mem_of_getElem? ht
  have hall : ([40].all fun u => !Tryd.prog.wantsStandIn u) = true := by kernel_rfl
  exact (show Tryd.prog.wantsStandIn t = false by simpa using List.all_eq_true.1 hall t hm)
theorem card : Rows.InstRaisesCardSaid :=
  Claim7.holds_tied_plain_at .later [] _ _ _ _ said (fun _ h => by cases h) (by kernel_rfl) (fun _ h => by cases h) instRaises_row_tie rfl ⟨rfl, rfl⟩ (by kernel_rfl) rfl plain (by kernel_rfl)
end Go.Proofs.YtadkbcdopcehhaaDoor.instRaises
namespace Go.Proofs.YtadkbcdopcehhaaDoor
/-- The statement. -/
theorem instRaises_holds : Rows.InstRaisesCardSaid := instRaises.card
#print axioms instRaises_holds
end Go.Proofs.YtadkbcdopcehhaaDoor
