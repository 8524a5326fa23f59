/-
  NARROWER THAN 'FOR EVERY INPUT', by the rows' own cells (each row's printed sentence says how): InstNames: laid · InstLetters: laid · InstChecks: laid · InstUnique: laid · InstAlike: laid · InstRaises: laid · InstThrown: laid · InstNext: laid · InstFlow: laid.
  DERIVED. THE GIVEN ROWS OF THIS SEAT. 9 by the template 'for every input the law returns true; each argument reads behind the call as it read before'; 0 by the template 'total and deterministic' (their statements: YtadkbcdopcehhaaDoorTotals.lean).
  GIVEN WITH THE SEED: the statements are not yours to turn. If you find one false, say at which input.
  Laid BY PROGRAM, IN A SANDBOX (cutbox-rows.mjs): the forced cells as the released guide's own fill.sh prints them over the translation d86483f82efc0960… (all of the seat's roots in one cut). By AI agents, Wed Nov 11 2026. No macro, syntax, notation, axiom, sorry.
-/
import Derived.Test.YtadkbcdopcehhaaDoorChecked
import GoSem.Claim
import GoSem.ClaimJoined
import GoSem.ClaimMapViews
import Derived.JoinedTies
import Derived.KernelRfl
namespace Go.Proofs.YtadkbcdopcehhaaDoor
/- THE CELL 'sum', in the pinned program and in every row, IS THE sha256 OF THE DUMP (.gsa) THAT YtadkbcdopcehhaaDoorProg.lean LOADS. Nothing in Lean hashes anything: it is a label: what it is worth is what the hold of that sum in a sandbox is worth. -/
noncomputable def Tryd.pinned : Pinned := { name := "ytadkbcdopcehhaadoor", sum := "d86483f82efc0960f7a60fbe5dfad36348dade69a5a6b33a37a374ac7bb8e079", checked := Tryd.checked }
namespace Rows
def none {H : Type} : Left H := { results := [], args := [] }

/- WHAT THE LISTED PACKAGE-LEVEL VARIABLES READ AS WHEN THE CALL BEGINS. Each datum BY PROGRAM (the guide's laid-datum.mjs) off the statement by which the dump's own 'gosem.cut.vars' lays the variable. In a bare row this is a premise. The card (YtadkbcdopcehhaaDoorCards.lean) ties it to the program's text. -/
def laid_unicode_White_Space {H : Type} : DataW H := .ptr (.agg [.slice [.agg [.lit (.int .u16 9), .lit (.int .u16 13), .lit (.int .u16 1)], .agg [.lit (.int .u16 32), .lit (.int .u16 133), .lit (.int .u16 101)], .agg [.lit (.int .u16 160), .lit (.int .u16 5760), .lit (.int .u16 5600)], .agg [.lit (.int .u16 8192), .lit (.int .u16 8202), .lit (.int .u16 1)], .agg [.lit (.int .u16 8232), .lit (.int .u16 8233), .lit (.int .u16 1)], .agg [.lit (.int .u16 8239), .lit (.int .u16 8287), .lit (.int .u16 48)], .agg [.lit (.int .u16 12288), .lit (.int .u16 12288), .lit (.int .u16 1)]] [], .nil, .lit (.int .i64 2)])
def laid_strings_asciiSpace {H : Type} : DataW H := .agg [.lit (.int .u8 0), .lit (.int .u8 0), .lit (.int .u8 0), .lit (.int .u8 0), .lit (.int .u8 0), .lit (.int .u8 0), .lit (.int .u8 0), .lit (.int .u8 0), .lit (.int .u8 0), .lit (.int .u8 1), .lit (.int .u8 1), .lit (.int .u8 1), .lit (.int .u8 1), .lit (.int .u8 1), .lit (.int .u8 0), .lit (.int .u8 0), .lit (.int .u8 0), .lit (.int .u8 0), .lit (.int .u8 0), .lit (.int .u8 0), .lit (.int .u8 0), .lit (.int .u8 0), .lit (.int .u8 0), .lit (.int .u8 0), .lit (.int .u8 0), .lit (.int .u8 0), .lit (.int .u8 0), .lit (.int .u8 0), .lit (.int .u8 0), .lit (.int .u8 0), .lit (.int .u8 0), .lit (.int .u8 0), .lit (.int .u8 1), .lit (.int .u8 0), .lit (.int .u8 0), .lit (.int .u8 0), .lit (.int .u8 0), .lit (.int .u8 0), .lit (.int .u8 0), .lit (.int .u8 0), .lit (.int .u8 0), .lit (.int .u8 0), .lit (.int .u8 0), .lit (.int .u8 0), .lit (.int .u8 0), .lit (.int .u8 0), .lit (.int .u8 0), .lit (.int .u8 0), .lit (.int .u8 0), .lit (.int .u8 0), .lit (.int .u8 0), .lit (.int .u8 0), .lit (.int .u8 0), .lit (.int .u8 0), .lit (.int .u8 0), .lit (.int .u8 0), .lit (.int .u8 0), .lit (.int .u8 0), .lit (.int .u8 0), .lit (.int .u8 0), .lit (.int .u8 0), .lit (.int .u8 0), .lit (.int .u8 0), .lit (.int .u8 0), .lit (.int .u8 0), .lit (.int .u8 0), .lit (.int .u8 0), .lit (.int .u8 0), .lit (.int .u8 0), .lit (.int .u8 0), .lit (.int .u8 0), .lit (.int .u8 0), .lit (.int .u8 0), .lit (.int .u8 0), .lit (.int .u8 0), .lit (.int .u8 0), .lit (.int .u8 0), .lit (.int .u8 0), .lit (.int .u8 0), .lit (.int .u8 0), .lit (.int .u8 0), .lit (.int .u8 0), .lit (.int .u8 0), .lit (.int .u8 0), .lit (.int .u8 0), .lit (.int .u8 0), .lit (.int .u8 0), .lit (.int .u8 0), .lit (.int .u8 0), .lit (.int .u8 0), .lit (.int .u8 0), .lit (.int .u8 0), .lit (.int .u8 0), .lit (.int .u8 0), .lit (.int .u8 0), .lit (.int .u8 0), .lit (.int .u8 0), .lit (.int .u8 0), .lit (.int .u8 0), .lit (.int .u8 0), .lit (.int .u8 0), .lit (.int .u8 0), .lit (.int .u8 0), .lit (.int .u8 0), .lit (.int .u8 0), .lit (.int .u8 0), .lit (.int .u8 0), .lit (.int .u8 0), .lit (.int .u8 0), .lit (.int .u8 0), .lit (.int .u8 0), .lit (.int .u8 0), .lit (.int .u8 0), .lit (.int .u8 0), .lit (.int .u8 0), .lit (.int .u8 0), .lit (.int .u8 0), .lit (.int .u8 0), .lit (.int .u8 0), .lit (.int .u8 0), .lit (.int .u8 0), .lit (.int .u8 0), .lit (.int .u8 0), .lit (.int .u8 0), .lit (.int .u8 0), .lit (.int .u8 0), .lit (.int .u8 0), .lit (.int .u8 0), .lit (.int .u8 0), .lit (.int .u8 0), .lit (.int .u8 0), .lit (.int .u8 0), .lit (.int .u8 0), .lit (.int .u8 0), .lit (.int .u8 0), .lit (.int .u8 0), .lit (.int .u8 0), .lit (.int .u8 0), .lit (.int .u8 0), .lit (.int .u8 0), .lit (.int .u8 0), .lit (.int .u8 0), .lit (.int .u8 0), .lit (.int .u8 0), .lit (.int .u8 0), .lit (.int .u8 0), .lit (.int .u8 0), .lit (.int .u8 0), .lit (.int .u8 0), .lit (.int .u8 0), .lit (.int .u8 0), .lit (.int .u8 0), .lit (.int .u8 0), .lit (.int .u8 0), .lit (.int .u8 0), .lit (.int .u8 0), .lit (.int .u8 0), .lit (.int .u8 0), .lit (.int .u8 0), .lit (.int .u8 0), .lit (.int .u8 0), .lit (.int .u8 0), .lit (.int .u8 0), .lit (.int .u8 0), .lit (.int .u8 0), .lit (.int .u8 0), .lit (.int .u8 0), .lit (.int .u8 0), .lit (.int .u8 0), .lit (.int .u8 0), .lit (.int .u8 0), .lit (.int .u8 0), .lit (.int .u8 0), .lit (.int .u8 0), .lit (.int .u8 0), .lit (.int .u8 0), .lit (.int .u8 0), .lit (.int .u8 0), .lit (.int .u8 0), .lit (.int .u8 0), .lit (.int .u8 0), .lit (.int .u8 0), .lit (.int .u8 0), .lit (.int .u8 0), .lit (.int .u8 0), .lit (.int .u8 0), .lit (.int .u8 0), .lit (.int .u8 0), .lit (.int .u8 0), .lit (.int .u8 0), .lit (.int .u8 0), .lit (.int .u8 0), .lit (.int .u8 0), .lit (.int .u8 0), .lit (.int .u8 0), .lit (.int .u8 0), .lit (.int .u8 0), .lit (.int .u8 0), .lit (.int .u8 0), .lit (.int .u8 0), .lit (.int .u8 0), .lit (.int .u8 0), .lit (.int .u8 0), .lit (.int .u8 0), .lit (.int .u8 0), .lit (.int .u8 0), .lit (.int .u8 0), .lit (.int .u8 0), .lit (.int .u8 0), .lit (.int .u8 0), .lit (.int .u8 0), .lit (.int .u8 0), .lit (.int .u8 0), .lit (.int .u8 0), .lit (.int .u8 0), .lit (.int .u8 0), .lit (.int .u8 0), .lit (.int .u8 0), .lit (.int .u8 0), .lit (.int .u8 0), .lit (.int .u8 0), .lit (.int .u8 0), .lit (.int .u8 0), .lit (.int .u8 0), .lit (.int .u8 0), .lit (.int .u8 0), .lit (.int .u8 0), .lit (.int .u8 0), .lit (.int .u8 0), .lit (.int .u8 0), .lit (.int .u8 0), .lit (.int .u8 0), .lit (.int .u8 0), .lit (.int .u8 0), .lit (.int .u8 0), .lit (.int .u8 0), .lit (.int .u8 0), .lit (.int .u8 0), .lit (.int .u8 0), .lit (.int .u8 0), .lit (.int .u8 0), .lit (.int .u8 0), .lit (.int .u8 0), .lit (.int .u8 0), .lit (.int .u8 0), .lit (.int .u8 0), .lit (.int .u8 0), .lit (.int .u8 0), .lit (.int .u8 0), .lit (.int .u8 0), .lit (.int .u8 0), .lit (.int .u8 0), .lit (.int .u8 0), .lit (.int .u8 0), .lit (.int .u8 0), .lit (.int .u8 0)]

/-- 'acheronlaw14.InstNames': WHATEVER THE INPUT: true; the input reads as it did. -/
def instNamesSpec : ChangeSpec := { name := "instNames", fn := fun _ => fun
  | [d1, d2] => { results := [.lit (.bool true)], args := [d1, d2] }
  | _ => none }
def instNamesRow : OpenClaim := { program := "ytadkbcdopcehhaadoor", sum := "d86483f82efc0960f7a60fbe5dfad36348dade69a5a6b33a37a374ac7bb8e079", func := "acheron/acheronlaw14.InstNames", spec := "instNames", inPlace := ["internal/bytealg.IndexByteString", "internal/bytealg.CountString", "internal/bytealg.IndexString"], unfollowed := true, recurses := true, named := ["strings.asciiSpace", "unicode.White_Space", "internal/bytealg.MaxLen"], apart := false, laid := [("unicode.White_Space", laid_unicode_White_Space), ("strings.asciiSpace", laid_strings_asciiSpace)] }
def InstNamesSaid : Prop := instNamesRow.holds Tryd.pinned (OpenSpec.ofChange instNamesSpec)

/-- ITS FALSE NEIGHBOUR: 'it returns false'. Refute it at one input. -/
def instNamesWrong : ChangeSpec := { name := "instNames", fn := fun _ => fun
  | [d1, d2] => { results := [.lit (.bool false)], args := [d1, d2] }
  | _ => none }
def InstNamesWrongFalsely : Prop := instNamesRow.holds Tryd.pinned (OpenSpec.ofChange instNamesWrong)

/-- 'acheronlaw14.InstLetters': WHATEVER THE INPUT: true; the input reads as it did. -/
def instLettersSpec : ChangeSpec := { name := "instLetters", fn := fun _ => fun
  | [d] => { results := [.lit (.bool true)], args := [d] }
  | _ => none }
def instLettersRow : OpenClaim := { program := "ytadkbcdopcehhaadoor", sum := "d86483f82efc0960f7a60fbe5dfad36348dade69a5a6b33a37a374ac7bb8e079", func := "acheron/acheronlaw14.InstLetters", spec := "instLetters", inPlace := ["internal/bytealg.IndexByteString", "internal/bytealg.CountString", "internal/bytealg.IndexString"], unfollowed := true, recurses := true, named := ["internal/bytealg.MaxLen", "strings.asciiSpace", "unicode.White_Space"], apart := false, laid := [("unicode.White_Space", laid_unicode_White_Space), ("strings.asciiSpace", laid_strings_asciiSpace)] }
def InstLettersSaid : Prop := instLettersRow.holds Tryd.pinned (OpenSpec.ofChange instLettersSpec)

/-- ITS FALSE NEIGHBOUR: 'it returns false'. Refute it at one input. -/
def instLettersWrong : ChangeSpec := { name := "instLetters", fn := fun _ => fun
  | [d] => { results := [.lit (.bool false)], args := [d] }
  | _ => none }
def InstLettersWrongFalsely : Prop := instLettersRow.holds Tryd.pinned (OpenSpec.ofChange instLettersWrong)

/-- 'acheronlaw14.InstChecks': WHATEVER THE INPUT: true; the input reads as it did. -/
def instChecksSpec : ChangeSpec := { name := "instChecks", fn := fun _ => fun
  | [d] => { results := [.lit (.bool true)], args := [d] }
  | _ => none }
def instChecksRow : OpenClaim := { program := "ytadkbcdopcehhaadoor", sum := "d86483f82efc0960f7a60fbe5dfad36348dade69a5a6b33a37a374ac7bb8e079", func := "acheron/acheronlaw14.InstChecks", spec := "instChecks", inPlace := ["internal/bytealg.IndexByteString", "internal/bytealg.CountString", "internal/bytealg.IndexString"], unfollowed := true, recurses := true, named := ["strings.asciiSpace", "unicode.White_Space", "internal/bytealg.MaxLen"], apart := false, laid := [("unicode.White_Space", laid_unicode_White_Space), ("strings.asciiSpace", laid_strings_asciiSpace)] }
def InstChecksSaid : Prop := instChecksRow.holds Tryd.pinned (OpenSpec.ofChange instChecksSpec)

/-- ITS FALSE NEIGHBOUR: 'it returns false'. Refute it at one input. -/
def instChecksWrong : ChangeSpec := { name := "instChecks", fn := fun _ => fun
  | [d] => { results := [.lit (.bool false)], args := [d] }
  | _ => none }
def InstChecksWrongFalsely : Prop := instChecksRow.holds Tryd.pinned (OpenSpec.ofChange instChecksWrong)

/-- 'acheronlaw14.InstUnique': WHATEVER THE INPUT: true; the input reads as it did. -/
def instUniqueSpec : ChangeSpec := { name := "instUnique", fn := fun _ => fun
  | [d1, d2] => { results := [.lit (.bool true)], args := [d1, d2] }
  | _ => none }
def instUniqueRow : OpenClaim := { program := "ytadkbcdopcehhaadoor", sum := "d86483f82efc0960f7a60fbe5dfad36348dade69a5a6b33a37a374ac7bb8e079", func := "acheron/acheronlaw14.InstUnique", spec := "instUnique", inPlace := ["internal/bytealg.IndexByteString", "internal/bytealg.CountString", "internal/bytealg.IndexString"], unfollowed := true, recurses := true, named := ["strings.asciiSpace", "unicode.White_Space", "internal/bytealg.MaxLen"], apart := false, laid := [("unicode.White_Space", laid_unicode_White_Space), ("strings.asciiSpace", laid_strings_asciiSpace)] }
def InstUniqueSaid : Prop := instUniqueRow.holds Tryd.pinned (OpenSpec.ofChange instUniqueSpec)

/-- ITS FALSE NEIGHBOUR: 'it returns false'. Refute it at one input. -/
def instUniqueWrong : ChangeSpec := { name := "instUnique", fn := fun _ => fun
  | [d1, d2] => { results := [.lit (.bool false)], args := [d1, d2] }
  | _ => none }
def InstUniqueWrongFalsely : Prop := instUniqueRow.holds Tryd.pinned (OpenSpec.ofChange instUniqueWrong)

/-- 'acheronlaw14.InstAlike': WHATEVER THE INPUT: true; the input reads as it did. -/
def instAlikeSpec : ChangeSpec := { name := "instAlike", fn := fun _ => fun
  | [d1, d2] => { results := [.lit (.bool true)], args := [d1, d2] }
  | _ => none }
def instAlikeRow : OpenClaim := { program := "ytadkbcdopcehhaadoor", sum := "d86483f82efc0960f7a60fbe5dfad36348dade69a5a6b33a37a374ac7bb8e079", func := "acheron/acheronlaw14.InstAlike", spec := "instAlike", inPlace := ["internal/bytealg.IndexByteString", "internal/bytealg.CountString", "internal/bytealg.IndexString"], unfollowed := true, recurses := true, named := ["strings.asciiSpace", "unicode.White_Space", "internal/bytealg.MaxLen"], apart := false, laid := [("unicode.White_Space", laid_unicode_White_Space), ("strings.asciiSpace", laid_strings_asciiSpace)] }
def InstAlikeSaid : Prop := instAlikeRow.holds Tryd.pinned (OpenSpec.ofChange instAlikeSpec)

/-- ITS FALSE NEIGHBOUR: 'it returns false'. Refute it at one input. -/
def instAlikeWrong : ChangeSpec := { name := "instAlike", fn := fun _ => fun
  | [d1, d2] => { results := [.lit (.bool false)], args := [d1, d2] }
  | _ => none }
def InstAlikeWrongFalsely : Prop := instAlikeRow.holds Tryd.pinned (OpenSpec.ofChange instAlikeWrong)

/-- 'acheronlaw14.InstRaises': WHATEVER THE INPUT: true; the input reads as it did. -/
def instRaisesSpec : ChangeSpec := { name := "instRaises", fn := fun _ => fun
  | [d] => { results := [.lit (.bool true)], args := [d] }
  | _ => none }
def instRaisesRow : OpenClaim := { program := "ytadkbcdopcehhaadoor", sum := "d86483f82efc0960f7a60fbe5dfad36348dade69a5a6b33a37a374ac7bb8e079", func := "acheron/acheronlaw14.InstRaises", spec := "instRaises", inPlace := ["internal/bytealg.IndexByteString", "internal/bytealg.CountString", "internal/bytealg.IndexString"], unfollowed := true, recurses := true, named := ["internal/bytealg.MaxLen", "strings.asciiSpace", "unicode.White_Space"], apart := false, laid := [("unicode.White_Space", laid_unicode_White_Space), ("strings.asciiSpace", laid_strings_asciiSpace)] }
def InstRaisesSaid : Prop := instRaisesRow.holds Tryd.pinned (OpenSpec.ofChange instRaisesSpec)

/-- ITS FALSE NEIGHBOUR: 'it returns false'. Refute it at one input. -/
def instRaisesWrong : ChangeSpec := { name := "instRaises", fn := fun _ => fun
  | [d] => { results := [.lit (.bool false)], args := [d] }
  | _ => none }
def InstRaisesWrongFalsely : Prop := instRaisesRow.holds Tryd.pinned (OpenSpec.ofChange instRaisesWrong)

/-- 'acheronlaw14.InstThrown': WHATEVER THE INPUT: true; the input reads as it did. -/
def instThrownSpec : ChangeSpec := { name := "instThrown", fn := fun _ => fun
  | [d1, d2] => { results := [.lit (.bool true)], args := [d1, d2] }
  | _ => none }
def instThrownRow : OpenClaim := { program := "ytadkbcdopcehhaadoor", sum := "d86483f82efc0960f7a60fbe5dfad36348dade69a5a6b33a37a374ac7bb8e079", func := "acheron/acheronlaw14.InstThrown", spec := "instThrown", inPlace := ["internal/bytealg.IndexByteString", "internal/bytealg.CountString", "internal/bytealg.IndexString"], unfollowed := true, recurses := true, named := ["strings.asciiSpace", "unicode.White_Space", "internal/bytealg.MaxLen"], apart := false, laid := [("unicode.White_Space", laid_unicode_White_Space), ("strings.asciiSpace", laid_strings_asciiSpace)] }
def InstThrownSaid : Prop := instThrownRow.holds Tryd.pinned (OpenSpec.ofChange instThrownSpec)

/-- ITS FALSE NEIGHBOUR: 'it returns false'. Refute it at one input. -/
def instThrownWrong : ChangeSpec := { name := "instThrown", fn := fun _ => fun
  | [d1, d2] => { results := [.lit (.bool false)], args := [d1, d2] }
  | _ => none }
def InstThrownWrongFalsely : Prop := instThrownRow.holds Tryd.pinned (OpenSpec.ofChange instThrownWrong)

/-- 'acheronlaw14.InstNext': WHATEVER THE INPUT: true; the input reads as it did. -/
def instNextSpec : ChangeSpec := { name := "instNext", fn := fun _ => fun
  | [d1, d2] => { results := [.lit (.bool true)], args := [d1, d2] }
  | _ => none }
def instNextRow : OpenClaim := { program := "ytadkbcdopcehhaadoor", sum := "d86483f82efc0960f7a60fbe5dfad36348dade69a5a6b33a37a374ac7bb8e079", func := "acheron/acheronlaw14.InstNext", spec := "instNext", inPlace := ["internal/bytealg.IndexByteString", "internal/bytealg.CountString", "internal/bytealg.IndexString"], unfollowed := true, recurses := true, named := ["strings.asciiSpace", "unicode.White_Space", "internal/bytealg.MaxLen"], apart := false, laid := [("unicode.White_Space", laid_unicode_White_Space), ("strings.asciiSpace", laid_strings_asciiSpace)] }
def InstNextSaid : Prop := instNextRow.holds Tryd.pinned (OpenSpec.ofChange instNextSpec)

/-- ITS FALSE NEIGHBOUR: 'it returns false'. Refute it at one input. -/
def instNextWrong : ChangeSpec := { name := "instNext", fn := fun _ => fun
  | [d1, d2] => { results := [.lit (.bool false)], args := [d1, d2] }
  | _ => none }
def InstNextWrongFalsely : Prop := instNextRow.holds Tryd.pinned (OpenSpec.ofChange instNextWrong)

/-- 'acheronlaw14.InstFlow': WHATEVER THE INPUT: true; the input reads as it did. -/
def instFlowSpec : ChangeSpec := { name := "instFlow", fn := fun _ => fun
  | [d1, d2] => { results := [.lit (.bool true)], args := [d1, d2] }
  | _ => none }
def instFlowRow : OpenClaim := { program := "ytadkbcdopcehhaadoor", sum := "d86483f82efc0960f7a60fbe5dfad36348dade69a5a6b33a37a374ac7bb8e079", func := "acheron/acheronlaw14.InstFlow", spec := "instFlow", inPlace := ["internal/bytealg.IndexByteString", "internal/bytealg.CountString", "internal/bytealg.IndexString"], unfollowed := true, recurses := true, named := ["strings.asciiSpace", "unicode.White_Space", "internal/bytealg.MaxLen"], apart := false, laid := [("unicode.White_Space", laid_unicode_White_Space), ("strings.asciiSpace", laid_strings_asciiSpace)] }
def InstFlowSaid : Prop := instFlowRow.holds Tryd.pinned (OpenSpec.ofChange instFlowSpec)

/-- ITS FALSE NEIGHBOUR: 'it returns false'. Refute it at one input. -/
def instFlowWrong : ChangeSpec := { name := "instFlow", fn := fun _ => fun
  | [d1, d2] => { results := [.lit (.bool false)], args := [d1, d2] }
  | _ => none }
def InstFlowWrongFalsely : Prop := instFlowRow.holds Tryd.pinned (OpenSpec.ofChange instFlowWrong)

/- THE SECOND FORM. 'bulk': how many values and letters a reading holds, each counted each time it is reached (what is shared counts as often as it is met; a slice's spare places count too). A statement '..UptoSaid' is the law's where the arguments, and the package variables that the reading takes, are together of bulk at most 1048576: NARROWER than '..Said'. Prove '..Said' where nothing that the law and all that it calls make is longer than what came in: it says more and counts as full. Else prove '..UptoSaid'. A law counts once. -/
mutual
def uptoBulk {H : Type} : DataW H → Nat
  | .lit (.string bytes) => bytes.length + 1
  | .lit _ => 1
  | .nil => 1
  | .ptr d => uptoBulk d + 1
  | .slice elems spare => uptoBulkAll elems + uptoBulkAll spare + 1
  | .agg parts => uptoBulkAll parts + 1
  | .iface _ d => uptoBulk d + 1
  | .map entries => uptoBulkEntries entries + 1
  | .held _ => 1
def uptoBulkAll {H : Type} : List (DataW H) → Nat
  | [] => 0
  | d :: r => uptoBulk d + uptoBulkAll r
def uptoBulkEntries {H : Type} : List (Lit × DataW H) → Nat
  | [] => 0
  | x :: r => uptoBulkEntry x + uptoBulkEntries r
def uptoBulkEntry {H : Type} : Lit × DataW H → Nat
  | (.string bytes, d) => bytes.length + uptoBulk d + 1
  | (_, d) => uptoBulk d + 1
 end
def uptoSmall : (H : Type) → List (DataW H) → Bool := fun _ ds => decide (uptoBulkAll ds ≤ 1048576)
def OpenSpec.upto (s : _root_.Go.ChangeSpec) : _root_.Go.OpenSpec := { _root_.Go.OpenSpec.ofChange s with cond := some uptoSmall }

/-- 'acheronlaw14.InstNames', WHERE WHAT IT READS IS OF BULK AT MOST 1048576: true; the input reads as it did. -/
def instNamesUptoRow : OpenClaim := { program := "ytadkbcdopcehhaadoor", sum := "d86483f82efc0960f7a60fbe5dfad36348dade69a5a6b33a37a374ac7bb8e079", func := "acheron/acheronlaw14.InstNames", spec := "instNames", inPlace := ["internal/bytealg.IndexByteString", "internal/bytealg.CountString", "internal/bytealg.IndexString"], unfollowed := true, recurses := true, named := ["strings.asciiSpace", "unicode.White_Space", "internal/bytealg.MaxLen"], apart := false, laid := [("unicode.White_Space", laid_unicode_White_Space), ("strings.asciiSpace", laid_strings_asciiSpace)], narrowed := true }
def InstNamesUptoSaid : Prop := instNamesUptoRow.holds Tryd.pinned (OpenSpec.upto instNamesSpec)

/-- 'acheronlaw14.InstLetters', WHERE WHAT IT READS IS OF BULK AT MOST 1048576: true; the input reads as it did. -/
def instLettersUptoRow : OpenClaim := { program := "ytadkbcdopcehhaadoor", sum := "d86483f82efc0960f7a60fbe5dfad36348dade69a5a6b33a37a374ac7bb8e079", func := "acheron/acheronlaw14.InstLetters", spec := "instLetters", inPlace := ["internal/bytealg.IndexByteString", "internal/bytealg.CountString", "internal/bytealg.IndexString"], unfollowed := true, recurses := true, named := ["internal/bytealg.MaxLen", "strings.asciiSpace", "unicode.White_Space"], apart := false, laid := [("unicode.White_Space", laid_unicode_White_Space), ("strings.asciiSpace", laid_strings_asciiSpace)], narrowed := true }
def InstLettersUptoSaid : Prop := instLettersUptoRow.holds Tryd.pinned (OpenSpec.upto instLettersSpec)

/-- 'acheronlaw14.InstChecks', WHERE WHAT IT READS IS OF BULK AT MOST 1048576: true; the input reads as it did. -/
def instChecksUptoRow : OpenClaim := { program := "ytadkbcdopcehhaadoor", sum := "d86483f82efc0960f7a60fbe5dfad36348dade69a5a6b33a37a374ac7bb8e079", func := "acheron/acheronlaw14.InstChecks", spec := "instChecks", inPlace := ["internal/bytealg.IndexByteString", "internal/bytealg.CountString", "internal/bytealg.IndexString"], unfollowed := true, recurses := true, named := ["strings.asciiSpace", "unicode.White_Space", "internal/bytealg.MaxLen"], apart := false, laid := [("unicode.White_Space", laid_unicode_White_Space), ("strings.asciiSpace", laid_strings_asciiSpace)], narrowed := true }
def InstChecksUptoSaid : Prop := instChecksUptoRow.holds Tryd.pinned (OpenSpec.upto instChecksSpec)

/-- 'acheronlaw14.InstUnique', WHERE WHAT IT READS IS OF BULK AT MOST 1048576: true; the input reads as it did. -/
def instUniqueUptoRow : OpenClaim := { program := "ytadkbcdopcehhaadoor", sum := "d86483f82efc0960f7a60fbe5dfad36348dade69a5a6b33a37a374ac7bb8e079", func := "acheron/acheronlaw14.InstUnique", spec := "instUnique", inPlace := ["internal/bytealg.IndexByteString", "internal/bytealg.CountString", "internal/bytealg.IndexString"], unfollowed := true, recurses := true, named := ["strings.asciiSpace", "unicode.White_Space", "internal/bytealg.MaxLen"], apart := false, laid := [("unicode.White_Space", laid_unicode_White_Space), ("strings.asciiSpace", laid_strings_asciiSpace)], narrowed := true }
def InstUniqueUptoSaid : Prop := instUniqueUptoRow.holds Tryd.pinned (OpenSpec.upto instUniqueSpec)

/-- 'acheronlaw14.InstAlike', WHERE WHAT IT READS IS OF BULK AT MOST 1048576: true; the input reads as it did. -/
def instAlikeUptoRow : OpenClaim := { program := "ytadkbcdopcehhaadoor", sum := "d86483f82efc0960f7a60fbe5dfad36348dade69a5a6b33a37a374ac7bb8e079", func := "acheron/acheronlaw14.InstAlike", spec := "instAlike", inPlace := ["internal/bytealg.IndexByteString", "internal/bytealg.CountString", "internal/bytealg.IndexString"], unfollowed := true, recurses := true, named := ["strings.asciiSpace", "unicode.White_Space", "internal/bytealg.MaxLen"], apart := false, laid := [("unicode.White_Space", laid_unicode_White_Space), ("strings.asciiSpace", laid_strings_asciiSpace)], narrowed := true }
def InstAlikeUptoSaid : Prop := instAlikeUptoRow.holds Tryd.pinned (OpenSpec.upto instAlikeSpec)

/-- 'acheronlaw14.InstRaises', WHERE WHAT IT READS IS OF BULK AT MOST 1048576: true; the input reads as it did. -/
def instRaisesUptoRow : OpenClaim := { program := "ytadkbcdopcehhaadoor", sum := "d86483f82efc0960f7a60fbe5dfad36348dade69a5a6b33a37a374ac7bb8e079", func := "acheron/acheronlaw14.InstRaises", spec := "instRaises", inPlace := ["internal/bytealg.IndexByteString", "internal/bytealg.CountString", "internal/bytealg.IndexString"], unfollowed := true, recurses := true, named := ["internal/bytealg.MaxLen", "strings.asciiSpace", "unicode.White_Space"], apart := false, laid := [("unicode.White_Space", laid_unicode_White_Space), ("strings.asciiSpace", laid_strings_asciiSpace)], narrowed := true }
def InstRaisesUptoSaid : Prop := instRaisesUptoRow.holds Tryd.pinned (OpenSpec.upto instRaisesSpec)

/-- 'acheronlaw14.InstThrown', WHERE WHAT IT READS IS OF BULK AT MOST 1048576: true; the input reads as it did. -/
def instThrownUptoRow : OpenClaim := { program := "ytadkbcdopcehhaadoor", sum := "d86483f82efc0960f7a60fbe5dfad36348dade69a5a6b33a37a374ac7bb8e079", func := "acheron/acheronlaw14.InstThrown", spec := "instThrown", inPlace := ["internal/bytealg.IndexByteString", "internal/bytealg.CountString", "internal/bytealg.IndexString"], unfollowed := true, recurses := true, named := ["strings.asciiSpace", "unicode.White_Space", "internal/bytealg.MaxLen"], apart := false, laid := [("unicode.White_Space", laid_unicode_White_Space), ("strings.asciiSpace", laid_strings_asciiSpace)], narrowed := true }
def InstThrownUptoSaid : Prop := instThrownUptoRow.holds Tryd.pinned (OpenSpec.upto instThrownSpec)

/-- 'acheronlaw14.InstNext', WHERE WHAT IT READS IS OF BULK AT MOST 1048576: true; the input reads as it did. -/
def instNextUptoRow : OpenClaim := { program := "ytadkbcdopcehhaadoor", sum := "d86483f82efc0960f7a60fbe5dfad36348dade69a5a6b33a37a374ac7bb8e079", func := "acheron/acheronlaw14.InstNext", spec := "instNext", inPlace := ["internal/bytealg.IndexByteString", "internal/bytealg.CountString", "internal/bytealg.IndexString"], unfollowed := true, recurses := true, named := ["strings.asciiSpace", "unicode.White_Space", "internal/bytealg.MaxLen"], apart := false, laid := [("unicode.White_Space", laid_unicode_White_Space), ("strings.asciiSpace", laid_strings_asciiSpace)], narrowed := true }
def InstNextUptoSaid : Prop := instNextUptoRow.holds Tryd.pinned (OpenSpec.upto instNextSpec)

/-- 'acheronlaw14.InstFlow', WHERE WHAT IT READS IS OF BULK AT MOST 1048576: true; the input reads as it did. -/
def instFlowUptoRow : OpenClaim := { program := "ytadkbcdopcehhaadoor", sum := "d86483f82efc0960f7a60fbe5dfad36348dade69a5a6b33a37a374ac7bb8e079", func := "acheron/acheronlaw14.InstFlow", spec := "instFlow", inPlace := ["internal/bytealg.IndexByteString", "internal/bytealg.CountString", "internal/bytealg.IndexString"], unfollowed := true, recurses := true, named := ["strings.asciiSpace", "unicode.White_Space", "internal/bytealg.MaxLen"], apart := false, laid := [("unicode.White_Space", laid_unicode_White_Space), ("strings.asciiSpace", laid_strings_asciiSpace)], narrowed := true }
def InstFlowUptoSaid : Prop := instFlowUptoRow.holds Tryd.pinned (OpenSpec.upto instFlowSpec)

end Rows
end Go.Proofs.YtadkbcdopcehhaaDoor
