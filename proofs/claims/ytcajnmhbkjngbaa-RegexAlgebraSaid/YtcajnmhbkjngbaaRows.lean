/-
  No cell of these rows narrows 'for every input' (looked for: loops, veiled, ifaces, maps, wideKeys, modest, calm, conditions, laid).
  DERIVED. THE GIVEN ROWS OF THIS SEAT. 7 by the template 'for every input the law returns true; each argument reads behind the call as it read before'; 0 by the template 'total and deterministic' (their statements: YtcajnmhbkjngbaaTotals.lean).
  GIVEN WITH THE SEED: the statements are not yours to turn. If you find one false, say at which input.
  Laid BY PROGRAM, IN A SANDBOX (cutbox-rows.mjs): the forced cells as the released guide's own fill.sh prints them over the translation 85c2e2e486a6431c… (all of the seat's roots in one cut). By AI agents, Wed Nov 11 2026. No macro, syntax, notation, axiom, sorry.
-/
import Derived.Test.YtcajnmhbkjngbaaChecked
import GoSem.Claim
import GoSem.ClaimJoined
import GoSem.ClaimMapViews
import Derived.JoinedTies
import Derived.KernelRfl
namespace Go.Proofs.Ytcajnmhbkjngbaa
/- THE CELL 'sum', in the pinned program and in every row, IS THE sha256 OF THE DUMP (.gsa) THAT YtcajnmhbkjngbaaProg.lean LOADS. Nothing in Lean hashes anything: it is a label: what it is worth is what the hold of that sum in a sandbox is worth. -/
noncomputable def Try.pinned : Pinned := { name := "ytcajnmhbkjngbaa", sum := "85c2e2e486a6431c0e7fed1201c17ece42147e7ab69d2a8d19bd67470a402296", checked := Try.checked }
namespace Rows
def none {H : Type} : Left H := { results := [], args := [] }

/-- 'acheronlaw37.RegexFinds': WHATEVER THE INPUT: true; the input reads as it did. -/
def regexFindsSpec : ChangeSpec := { name := "regexFinds", fn := fun _ => fun
  | [d1, d2, d3] => { results := [.lit (.bool true)], args := [d1, d2, d3] }
  | _ => none }
def regexFindsRow : OpenClaim := { program := "ytcajnmhbkjngbaa", sum := "85c2e2e486a6431c0e7fed1201c17ece42147e7ab69d2a8d19bd67470a402296", func := "acheron/acheronlaw37.RegexFinds", spec := "regexFinds", inPlace := ["internal/bytealg.IndexByteString", "internal/bytealg.IndexString", "slices.overlaps[acheron/regex.inst]", "internal/abi.NoEscape"], unfollowed := true, recurses := true, named := ["internal/bytealg.MaxLen"], apart := false }
def RegexFindsSaid : Prop := regexFindsRow.holds Try.pinned (OpenSpec.ofChange regexFindsSpec)

/-- ITS FALSE NEIGHBOUR: 'it returns false'. Refute it at one input. -/
def regexFindsWrong : ChangeSpec := { name := "regexFinds", fn := fun _ => fun
  | [d1, d2, d3] => { results := [.lit (.bool false)], args := [d1, d2, d3] }
  | _ => none }
def RegexFindsWrongFalsely : Prop := regexFindsRow.holds Try.pinned (OpenSpec.ofChange regexFindsWrong)

/-- 'acheronlaw37.RegexCompiles': WHATEVER THE INPUT: true; the input reads as it did. -/
def regexCompilesSpec : ChangeSpec := { name := "regexCompiles", fn := fun _ => fun
  | [d] => { results := [.lit (.bool true)], args := [d] }
  | _ => none }
def regexCompilesRow : OpenClaim := { program := "ytcajnmhbkjngbaa", sum := "85c2e2e486a6431c0e7fed1201c17ece42147e7ab69d2a8d19bd67470a402296", func := "acheron/acheronlaw37.RegexCompiles", spec := "regexCompiles", inPlace := ["internal/bytealg.IndexByteString", "internal/bytealg.IndexString", "slices.overlaps[acheron/regex.inst]", "internal/abi.NoEscape"], unfollowed := true, recurses := true, named := ["internal/bytealg.MaxLen"], apart := false }
def RegexCompilesSaid : Prop := regexCompilesRow.holds Try.pinned (OpenSpec.ofChange regexCompilesSpec)

/-- ITS FALSE NEIGHBOUR: 'it returns false'. Refute it at one input. -/
def regexCompilesWrong : ChangeSpec := { name := "regexCompiles", fn := fun _ => fun
  | [d] => { results := [.lit (.bool false)], args := [d] }
  | _ => none }
def RegexCompilesWrongFalsely : Prop := regexCompilesRow.holds Try.pinned (OpenSpec.ofChange regexCompilesWrong)

/-- 'acheronlaw37.RegexReplaces': WHATEVER THE INPUT: true; the input reads as it did. -/
def regexReplacesSpec : ChangeSpec := { name := "regexReplaces", fn := fun _ => fun
  | [d1, d2, d3] => { results := [.lit (.bool true)], args := [d1, d2, d3] }
  | _ => none }
def regexReplacesRow : OpenClaim := { program := "ytcajnmhbkjngbaa", sum := "85c2e2e486a6431c0e7fed1201c17ece42147e7ab69d2a8d19bd67470a402296", func := "acheron/acheronlaw37.RegexReplaces", spec := "regexReplaces", inPlace := ["internal/bytealg.IndexByteString", "internal/bytealg.IndexString", "slices.overlaps[acheron/regex.inst]", "internal/abi.NoEscape"], unfollowed := true, recurses := true, named := ["internal/bytealg.MaxLen"], apart := false }
def RegexReplacesSaid : Prop := regexReplacesRow.holds Try.pinned (OpenSpec.ofChange regexReplacesSpec)

/-- ITS FALSE NEIGHBOUR: 'it returns false'. Refute it at one input. -/
def regexReplacesWrong : ChangeSpec := { name := "regexReplaces", fn := fun _ => fun
  | [d1, d2, d3] => { results := [.lit (.bool false)], args := [d1, d2, d3] }
  | _ => none }
def RegexReplacesWrongFalsely : Prop := regexReplacesRow.holds Try.pinned (OpenSpec.ofChange regexReplacesWrong)

/-- 'acheronlaw37.RegexGreps': WHATEVER THE INPUT: true; the input reads as it did. -/
def regexGrepsSpec : ChangeSpec := { name := "regexGreps", fn := fun _ => fun
  | [d1, d2] => { results := [.lit (.bool true)], args := [d1, d2] }
  | _ => none }
def regexGrepsRow : OpenClaim := { program := "ytcajnmhbkjngbaa", sum := "85c2e2e486a6431c0e7fed1201c17ece42147e7ab69d2a8d19bd67470a402296", func := "acheron/acheronlaw37.RegexGreps", spec := "regexGreps", inPlace := ["internal/bytealg.IndexByteString", "internal/bytealg.IndexString", "slices.overlaps[acheron/regex.inst]", "internal/abi.NoEscape"], unfollowed := true, recurses := true, named := ["internal/bytealg.MaxLen"], apart := false }
def RegexGrepsSaid : Prop := regexGrepsRow.holds Try.pinned (OpenSpec.ofChange regexGrepsSpec)

/-- ITS FALSE NEIGHBOUR: 'it returns false'. Refute it at one input. -/
def regexGrepsWrong : ChangeSpec := { name := "regexGreps", fn := fun _ => fun
  | [d1, d2] => { results := [.lit (.bool false)], args := [d1, d2] }
  | _ => none }
def RegexGrepsWrongFalsely : Prop := regexGrepsRow.holds Try.pinned (OpenSpec.ofChange regexGrepsWrong)

/-- 'acheronlaw37.RegexAlgebra': WHATEVER THE INPUT: true; the input reads as it did. -/
def regexAlgebraSpec : ChangeSpec := { name := "regexAlgebra", fn := fun _ => fun
  | [d1, d2, d3] => { results := [.lit (.bool true)], args := [d1, d2, d3] }
  | _ => none }
def regexAlgebraRow : OpenClaim := { program := "ytcajnmhbkjngbaa", sum := "85c2e2e486a6431c0e7fed1201c17ece42147e7ab69d2a8d19bd67470a402296", func := "acheron/acheronlaw37.RegexAlgebra", spec := "regexAlgebra", inPlace := ["internal/bytealg.IndexByteString", "internal/bytealg.IndexString", "slices.overlaps[acheron/regex.inst]", "internal/abi.NoEscape"], unfollowed := true, recurses := true, named := ["internal/bytealg.MaxLen"], apart := false }
def RegexAlgebraSaid : Prop := regexAlgebraRow.holds Try.pinned (OpenSpec.ofChange regexAlgebraSpec)

/-- ITS FALSE NEIGHBOUR: 'it returns false'. Refute it at one input. -/
def regexAlgebraWrong : ChangeSpec := { name := "regexAlgebra", fn := fun _ => fun
  | [d1, d2, d3] => { results := [.lit (.bool false)], args := [d1, d2, d3] }
  | _ => none }
def RegexAlgebraWrongFalsely : Prop := regexAlgebraRow.holds Try.pinned (OpenSpec.ofChange regexAlgebraWrong)

/-- 'acheronlaw37.RegexLongest': WHATEVER THE INPUT: true; the input reads as it did. -/
def regexLongestSpec : ChangeSpec := { name := "regexLongest", fn := fun _ => fun
  | [d1, d2] => { results := [.lit (.bool true)], args := [d1, d2] }
  | _ => none }
def regexLongestRow : OpenClaim := { program := "ytcajnmhbkjngbaa", sum := "85c2e2e486a6431c0e7fed1201c17ece42147e7ab69d2a8d19bd67470a402296", func := "acheron/acheronlaw37.RegexLongest", spec := "regexLongest", inPlace := ["internal/bytealg.IndexByteString", "internal/bytealg.IndexString", "slices.overlaps[acheron/regex.inst]", "internal/abi.NoEscape"], unfollowed := true, recurses := true, named := ["internal/bytealg.MaxLen"], apart := false }
def RegexLongestSaid : Prop := regexLongestRow.holds Try.pinned (OpenSpec.ofChange regexLongestSpec)

/-- ITS FALSE NEIGHBOUR: 'it returns false'. Refute it at one input. -/
def regexLongestWrong : ChangeSpec := { name := "regexLongest", fn := fun _ => fun
  | [d1, d2] => { results := [.lit (.bool false)], args := [d1, d2] }
  | _ => none }
def RegexLongestWrongFalsely : Prop := regexLongestRow.holds Try.pinned (OpenSpec.ofChange regexLongestWrong)

/-- 'acheronlaw37.RegexQuotes': WHATEVER THE INPUT: true; the input reads as it did. -/
def regexQuotesSpec : ChangeSpec := { name := "regexQuotes", fn := fun _ => fun
  | [d1, d2] => { results := [.lit (.bool true)], args := [d1, d2] }
  | _ => none }
def regexQuotesRow : OpenClaim := { program := "ytcajnmhbkjngbaa", sum := "85c2e2e486a6431c0e7fed1201c17ece42147e7ab69d2a8d19bd67470a402296", func := "acheron/acheronlaw37.RegexQuotes", spec := "regexQuotes", inPlace := ["internal/bytealg.IndexByteString", "internal/bytealg.IndexString", "slices.overlaps[acheron/regex.inst]", "internal/abi.NoEscape", "internal/bytealg.abigen_runtime_cmpstring"], unfollowed := true, recurses := true, named := ["internal/bytealg.MaxLen"], apart := false }
def RegexQuotesSaid : Prop := regexQuotesRow.holds Try.pinned (OpenSpec.ofChange regexQuotesSpec)

/-- ITS FALSE NEIGHBOUR: 'it returns false'. Refute it at one input. -/
def regexQuotesWrong : ChangeSpec := { name := "regexQuotes", fn := fun _ => fun
  | [d1, d2] => { results := [.lit (.bool false)], args := [d1, d2] }
  | _ => none }
def RegexQuotesWrongFalsely : Prop := regexQuotesRow.holds Try.pinned (OpenSpec.ofChange regexQuotesWrong)

/- THE SECOND FORM. 'bulk': how many values and letters a reading holds, each counted each time it is reached (what is shared counts as often as it is met; a slice's spare places count too). A statement '..UptoSaid' is the law's where the arguments, and the package variables that the reading takes, are together of bulk at most 1048576: NARROWER than '..Said'. Prove '..Said' where nothing that the law and all that it calls make is longer than what came in: it says more and counts as full. Else prove '..UptoSaid'. A law counts once. -/
mutual
def uptoBulk {H : Type} : DataW H → Nat
  | .lit (.string bytes) => bytes.length + 1
  | .lit _ => 1
  | .nil => 1
  | .ptr d => uptoBulk d + 1
  | .slice elems spare => uptoBulkAll elems + uptoBulkAll spare + 1
  | .agg parts => uptoBulkAll parts + 1
  | .iface _ d => uptoBulk d + 1
  | .map entries => uptoBulkEntries entries + 1
  | .held _ => 1
def uptoBulkAll {H : Type} : List (DataW H) → Nat
  | [] => 0
  | d :: r => uptoBulk d + uptoBulkAll r
def uptoBulkEntries {H : Type} : List (Lit × DataW H) → Nat
  | [] => 0
  | x :: r => uptoBulkEntry x + uptoBulkEntries r
def uptoBulkEntry {H : Type} : Lit × DataW H → Nat
  | (.string bytes, d) => bytes.length + uptoBulk d + 1
  | (_, d) => uptoBulk d + 1
 end
def uptoSmall : (H : Type) → List (DataW H) → Bool := fun _ ds => decide (uptoBulkAll ds ≤ 1048576)
def OpenSpec.upto (s : _root_.Go.ChangeSpec) : _root_.Go.OpenSpec := { _root_.Go.OpenSpec.ofChange s with cond := some uptoSmall }

/-- 'acheronlaw37.RegexFinds', WHERE WHAT IT READS IS OF BULK AT MOST 1048576: true; the input reads as it did. -/
def regexFindsUptoRow : OpenClaim := { program := "ytcajnmhbkjngbaa", sum := "85c2e2e486a6431c0e7fed1201c17ece42147e7ab69d2a8d19bd67470a402296", func := "acheron/acheronlaw37.RegexFinds", spec := "regexFinds", inPlace := ["internal/bytealg.IndexByteString", "internal/bytealg.IndexString", "slices.overlaps[acheron/regex.inst]", "internal/abi.NoEscape"], unfollowed := true, recurses := true, named := ["internal/bytealg.MaxLen"], apart := false, narrowed := true }
def RegexFindsUptoSaid : Prop := regexFindsUptoRow.holds Try.pinned (OpenSpec.upto regexFindsSpec)

/-- 'acheronlaw37.RegexCompiles', WHERE WHAT IT READS IS OF BULK AT MOST 1048576: true; the input reads as it did. -/
def regexCompilesUptoRow : OpenClaim := { program := "ytcajnmhbkjngbaa", sum := "85c2e2e486a6431c0e7fed1201c17ece42147e7ab69d2a8d19bd67470a402296", func := "acheron/acheronlaw37.RegexCompiles", spec := "regexCompiles", inPlace := ["internal/bytealg.IndexByteString", "internal/bytealg.IndexString", "slices.overlaps[acheron/regex.inst]", "internal/abi.NoEscape"], unfollowed := true, recurses := true, named := ["internal/bytealg.MaxLen"], apart := false, narrowed := true }
def RegexCompilesUptoSaid : Prop := regexCompilesUptoRow.holds Try.pinned (OpenSpec.upto regexCompilesSpec)

/-- 'acheronlaw37.RegexReplaces', WHERE WHAT IT READS IS OF BULK AT MOST 1048576: true; the input reads as it did. -/
def regexReplacesUptoRow : OpenClaim := { program := "ytcajnmhbkjngbaa", sum := "85c2e2e486a6431c0e7fed1201c17ece42147e7ab69d2a8d19bd67470a402296", func := "acheron/acheronlaw37.RegexReplaces", spec := "regexReplaces", inPlace := ["internal/bytealg.IndexByteString", "internal/bytealg.IndexString", "slices.overlaps[acheron/regex.inst]", "internal/abi.NoEscape"], unfollowed := true, recurses := true, named := ["internal/bytealg.MaxLen"], apart := false, narrowed := true }
def RegexReplacesUptoSaid : Prop := regexReplacesUptoRow.holds Try.pinned (OpenSpec.upto regexReplacesSpec)

/-- 'acheronlaw37.RegexGreps', WHERE WHAT IT READS IS OF BULK AT MOST 1048576: true; the input reads as it did. -/
def regexGrepsUptoRow : OpenClaim := { program := "ytcajnmhbkjngbaa", sum := "85c2e2e486a6431c0e7fed1201c17ece42147e7ab69d2a8d19bd67470a402296", func := "acheron/acheronlaw37.RegexGreps", spec := "regexGreps", inPlace := ["internal/bytealg.IndexByteString", "internal/bytealg.IndexString", "slices.overlaps[acheron/regex.inst]", "internal/abi.NoEscape"], unfollowed := true, recurses := true, named := ["internal/bytealg.MaxLen"], apart := false, narrowed := true }
def RegexGrepsUptoSaid : Prop := regexGrepsUptoRow.holds Try.pinned (OpenSpec.upto regexGrepsSpec)

/-- 'acheronlaw37.RegexAlgebra', WHERE WHAT IT READS IS OF BULK AT MOST 1048576: true; the input reads as it did. -/
def regexAlgebraUptoRow : OpenClaim := { program := "ytcajnmhbkjngbaa", sum := "85c2e2e486a6431c0e7fed1201c17ece42147e7ab69d2a8d19bd67470a402296", func := "acheron/acheronlaw37.RegexAlgebra", spec := "regexAlgebra", inPlace := ["internal/bytealg.IndexByteString", "internal/bytealg.IndexString", "slices.overlaps[acheron/regex.inst]", "internal/abi.NoEscape"], unfollowed := true, recurses := true, named := ["internal/bytealg.MaxLen"], apart := false, narrowed := true }
def RegexAlgebraUptoSaid : Prop := regexAlgebraUptoRow.holds Try.pinned (OpenSpec.upto regexAlgebraSpec)

/-- 'acheronlaw37.RegexLongest', WHERE WHAT IT READS IS OF BULK AT MOST 1048576: true; the input reads as it did. -/
def regexLongestUptoRow : OpenClaim := { program := "ytcajnmhbkjngbaa", sum := "85c2e2e486a6431c0e7fed1201c17ece42147e7ab69d2a8d19bd67470a402296", func := "acheron/acheronlaw37.RegexLongest", spec := "regexLongest", inPlace := ["internal/bytealg.IndexByteString", "internal/bytealg.IndexString", "slices.overlaps[acheron/regex.inst]", "internal/abi.NoEscape"], unfollowed := true, recurses := true, named := ["internal/bytealg.MaxLen"], apart := false, narrowed := true }
def RegexLongestUptoSaid : Prop := regexLongestUptoRow.holds Try.pinned (OpenSpec.upto regexLongestSpec)

/-- 'acheronlaw37.RegexQuotes', WHERE WHAT IT READS IS OF BULK AT MOST 1048576: true; the input reads as it did. -/
def regexQuotesUptoRow : OpenClaim := { program := "ytcajnmhbkjngbaa", sum := "85c2e2e486a6431c0e7fed1201c17ece42147e7ab69d2a8d19bd67470a402296", func := "acheron/acheronlaw37.RegexQuotes", spec := "regexQuotes", inPlace := ["internal/bytealg.IndexByteString", "internal/bytealg.IndexString", "slices.overlaps[acheron/regex.inst]", "internal/abi.NoEscape", "internal/bytealg.abigen_runtime_cmpstring"], unfollowed := true, recurses := true, named := ["internal/bytealg.MaxLen"], apart := false, narrowed := true }
def RegexQuotesUptoSaid : Prop := regexQuotesUptoRow.holds Try.pinned (OpenSpec.upto regexQuotesSpec)

end Rows
end Go.Proofs.Ytcajnmhbkjngbaa
