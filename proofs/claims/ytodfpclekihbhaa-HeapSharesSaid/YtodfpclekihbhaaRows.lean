/-
  No cell of these rows narrows 'for every input' (looked for: loops, veiled, ifaces, maps, wideKeys, modest, calm, conditions, laid).
  DERIVED. THE GIVEN ROWS OF THIS SEAT. 8 by the template 'for every input the law returns true; each argument reads behind the call as it read before'; 0 by the template 'total and deterministic' (their statements: YtodfpclekihbhaaTotals.lean).
  GIVEN WITH THE SEED: the statements are not yours to turn. If you find one false, say at which input.
  Laid BY PROGRAM, IN A SANDBOX (cutbox-rows.mjs): the forced cells as the released guide's own fill.sh prints them over the translation 3704673e6a393d5f… (all of the seat's roots in one cut). By AI agents, Wed Nov 11 2026. No macro, syntax, notation, axiom, sorry.
-/
import Derived.Test.YtodfpclekihbhaaChecked
import GoSem.Claim
import GoSem.ClaimJoined
import GoSem.ClaimMapViews
import Derived.JoinedTies
import Derived.KernelRfl
namespace Go.Proofs.Ytodfpclekihbhaa
/- THE CELL 'sum', in the pinned program and in every row, IS THE sha256 OF THE DUMP (.gsa) THAT YtodfpclekihbhaaProg.lean LOADS. Nothing in Lean hashes anything: it is a label: what it is worth is what the hold of that sum in a sandbox is worth. -/
noncomputable def Try.pinned : Pinned := { name := "ytodfpclekihbhaa", sum := "3704673e6a393d5f3e14a732d17095c58b5288d0c7a0fb65f95cac17e5763343", checked := Try.checked }
namespace Rows
def none {H : Type} : Left H := { results := [], args := [] }

/-- 'acheronlaw17.HeapShares': WHATEVER THE INPUT: true; the input reads as it did. -/
def heapSharesSpec : ChangeSpec := { name := "heapShares", fn := fun _ => fun
  | [d1, d2] => { results := [.lit (.bool true)], args := [d1, d2] }
  | _ => none }
def heapSharesRow : OpenClaim := { program := "ytodfpclekihbhaa", sum := "3704673e6a393d5f3e14a732d17095c58b5288d0c7a0fb65f95cac17e5763343", func := "acheron/acheronlaw17.HeapShares", spec := "heapShares", unfollowed := true, recurses := true, apart := false }
def HeapSharesSaid : Prop := heapSharesRow.holds Try.pinned (OpenSpec.ofChange heapSharesSpec)

/-- ITS FALSE NEIGHBOUR: 'it returns false'. Refute it at one input. -/
def heapSharesWrong : ChangeSpec := { name := "heapShares", fn := fun _ => fun
  | [d1, d2] => { results := [.lit (.bool false)], args := [d1, d2] }
  | _ => none }
def HeapSharesWrongFalsely : Prop := heapSharesRow.holds Try.pinned (OpenSpec.ofChange heapSharesWrong)

/-- 'acheronlaw18.CollectNil': WHATEVER THE INPUT: true; the input reads as it did. -/
def collectNilSpec : ChangeSpec := { name := "collectNil", fn := fun _ => fun
  | [d1, d2] => { results := [.lit (.bool true)], args := [d1, d2] }
  | _ => none }
def collectNilRow : OpenClaim := { program := "ytodfpclekihbhaa", sum := "3704673e6a393d5f3e14a732d17095c58b5288d0c7a0fb65f95cac17e5763343", func := "acheron/acheronlaw18.CollectNil", spec := "collectNil", unfollowed := true, recurses := true, apart := false }
def CollectNilSaid : Prop := collectNilRow.holds Try.pinned (OpenSpec.ofChange collectNilSpec)

/-- ITS FALSE NEIGHBOUR: 'it returns false'. Refute it at one input. -/
def collectNilWrong : ChangeSpec := { name := "collectNil", fn := fun _ => fun
  | [d1, d2] => { results := [.lit (.bool false)], args := [d1, d2] }
  | _ => none }
def CollectNilWrongFalsely : Prop := collectNilRow.holds Try.pinned (OpenSpec.ofChange collectNilWrong)

/-- 'acheronlaw17.HeapNil': WHATEVER THE INPUT: true; the input reads as it did. -/
def heapNilSpec : ChangeSpec := { name := "heapNil", fn := fun _ => fun
  | [d1, d2, d3] => { results := [.lit (.bool true)], args := [d1, d2, d3] }
  | _ => none }
def heapNilRow : OpenClaim := { program := "ytodfpclekihbhaa", sum := "3704673e6a393d5f3e14a732d17095c58b5288d0c7a0fb65f95cac17e5763343", func := "acheron/acheronlaw17.HeapNil", spec := "heapNil", unfollowed := true, recurses := true, apart := false }
def HeapNilSaid : Prop := heapNilRow.holds Try.pinned (OpenSpec.ofChange heapNilSpec)

/-- ITS FALSE NEIGHBOUR: 'it returns false'. Refute it at one input. -/
def heapNilWrong : ChangeSpec := { name := "heapNil", fn := fun _ => fun
  | [d1, d2, d3] => { results := [.lit (.bool false)], args := [d1, d2, d3] }
  | _ => none }
def HeapNilWrongFalsely : Prop := heapNilRow.holds Try.pinned (OpenSpec.ofChange heapNilWrong)

/-- 'acheronlaw17.HeapEnds': WHATEVER THE INPUT: true; the input reads as it did. -/
def heapEndsSpec : ChangeSpec := { name := "heapEnds", fn := fun _ => fun
  | [d] => { results := [.lit (.bool true)], args := [d] }
  | _ => none }
def heapEndsRow : OpenClaim := { program := "ytodfpclekihbhaa", sum := "3704673e6a393d5f3e14a732d17095c58b5288d0c7a0fb65f95cac17e5763343", func := "acheron/acheronlaw17.HeapEnds", spec := "heapEnds", inPlace := ["internal/abi.NoEscape"], unfollowed := true, recurses := true, apart := false }
def HeapEndsSaid : Prop := heapEndsRow.holds Try.pinned (OpenSpec.ofChange heapEndsSpec)

/-- ITS FALSE NEIGHBOUR: 'it returns false'. Refute it at one input. -/
def heapEndsWrong : ChangeSpec := { name := "heapEnds", fn := fun _ => fun
  | [d] => { results := [.lit (.bool false)], args := [d] }
  | _ => none }
def HeapEndsWrongFalsely : Prop := heapEndsRow.holds Try.pinned (OpenSpec.ofChange heapEndsWrong)

/-- 'acheronlaw17.HeapReaches': WHATEVER THE INPUT: true; the input reads as it did. -/
def heapReachesSpec : ChangeSpec := { name := "heapReaches", fn := fun _ => fun
  | [d] => { results := [.lit (.bool true)], args := [d] }
  | _ => none }
def heapReachesRow : OpenClaim := { program := "ytodfpclekihbhaa", sum := "3704673e6a393d5f3e14a732d17095c58b5288d0c7a0fb65f95cac17e5763343", func := "acheron/acheronlaw17.HeapReaches", spec := "heapReaches", inPlace := ["internal/abi.NoEscape"], unfollowed := true, recurses := true, apart := false }
def HeapReachesSaid : Prop := heapReachesRow.holds Try.pinned (OpenSpec.ofChange heapReachesSpec)

/-- ITS FALSE NEIGHBOUR: 'it returns false'. Refute it at one input. -/
def heapReachesWrong : ChangeSpec := { name := "heapReaches", fn := fun _ => fun
  | [d] => { results := [.lit (.bool false)], args := [d] }
  | _ => none }
def HeapReachesWrongFalsely : Prop := heapReachesRow.holds Try.pinned (OpenSpec.ofChange heapReachesWrong)

/-- 'acheronlaw17.HeapCounts': WHATEVER THE INPUT: true; the input reads as it did. -/
def heapCountsSpec : ChangeSpec := { name := "heapCounts", fn := fun _ => fun
  | [d] => { results := [.lit (.bool true)], args := [d] }
  | _ => none }
def heapCountsRow : OpenClaim := { program := "ytodfpclekihbhaa", sum := "3704673e6a393d5f3e14a732d17095c58b5288d0c7a0fb65f95cac17e5763343", func := "acheron/acheronlaw17.HeapCounts", spec := "heapCounts", inPlace := ["internal/abi.NoEscape"], unfollowed := true, recurses := true, apart := false }
def HeapCountsSaid : Prop := heapCountsRow.holds Try.pinned (OpenSpec.ofChange heapCountsSpec)

/-- ITS FALSE NEIGHBOUR: 'it returns false'. Refute it at one input. -/
def heapCountsWrong : ChangeSpec := { name := "heapCounts", fn := fun _ => fun
  | [d] => { results := [.lit (.bool false)], args := [d] }
  | _ => none }
def HeapCountsWrongFalsely : Prop := heapCountsRow.holds Try.pinned (OpenSpec.ofChange heapCountsWrong)

/-- 'acheronlaw17.HeapWatches': WHATEVER THE INPUT: true; the input reads as it did. -/
def heapWatchesSpec : ChangeSpec := { name := "heapWatches", fn := fun _ => fun
  | [d] => { results := [.lit (.bool true)], args := [d] }
  | _ => none }
def heapWatchesRow : OpenClaim := { program := "ytodfpclekihbhaa", sum := "3704673e6a393d5f3e14a732d17095c58b5288d0c7a0fb65f95cac17e5763343", func := "acheron/acheronlaw17.HeapWatches", spec := "heapWatches", inPlace := ["internal/abi.NoEscape"], unfollowed := true, recurses := true, apart := false }
def HeapWatchesSaid : Prop := heapWatchesRow.holds Try.pinned (OpenSpec.ofChange heapWatchesSpec)

/-- ITS FALSE NEIGHBOUR: 'it returns false'. Refute it at one input. -/
def heapWatchesWrong : ChangeSpec := { name := "heapWatches", fn := fun _ => fun
  | [d] => { results := [.lit (.bool false)], args := [d] }
  | _ => none }
def HeapWatchesWrongFalsely : Prop := heapWatchesRow.holds Try.pinned (OpenSpec.ofChange heapWatchesWrong)

/-- 'acheronlaw18.CollectExact': WHATEVER THE INPUT: true; the input reads as it did. -/
def collectExactSpec : ChangeSpec := { name := "collectExact", fn := fun _ => fun
  | [d] => { results := [.lit (.bool true)], args := [d] }
  | _ => none }
def collectExactRow : OpenClaim := { program := "ytodfpclekihbhaa", sum := "3704673e6a393d5f3e14a732d17095c58b5288d0c7a0fb65f95cac17e5763343", func := "acheron/acheronlaw18.CollectExact", spec := "collectExact", inPlace := ["internal/abi.NoEscape"], unfollowed := true, recurses := true, apart := false }
def CollectExactSaid : Prop := collectExactRow.holds Try.pinned (OpenSpec.ofChange collectExactSpec)

/-- ITS FALSE NEIGHBOUR: 'it returns false'. Refute it at one input. -/
def collectExactWrong : ChangeSpec := { name := "collectExact", fn := fun _ => fun
  | [d] => { results := [.lit (.bool false)], args := [d] }
  | _ => none }
def CollectExactWrongFalsely : Prop := collectExactRow.holds Try.pinned (OpenSpec.ofChange collectExactWrong)

/- THE SECOND FORM. 'bulk': how many values and letters a reading holds, each counted each time it is reached (what is shared counts as often as it is met; a slice's spare places count too). A statement '..UptoSaid' is the law's where the arguments, and the package variables that the reading takes, are together of bulk at most 1048576: NARROWER than '..Said'. Prove '..Said' where nothing that the law and all that it calls make is longer than what came in: it says more and counts as full. Else prove '..UptoSaid'. A law counts once. -/
mutual
def uptoBulk {H : Type} : DataW H → Nat
  | .lit (.string bytes) => bytes.length + 1
  | .lit _ => 1
  | .nil => 1
  | .ptr d => uptoBulk d + 1
  | .slice elems spare => uptoBulkAll elems + uptoBulkAll spare + 1
  | .agg parts => uptoBulkAll parts + 1
  | .iface _ d => uptoBulk d + 1
  | .map entries => uptoBulkEntries entries + 1
  | .held _ => 1
def uptoBulkAll {H : Type} : List (DataW H) → Nat
  | [] => 0
  | d :: r => uptoBulk d + uptoBulkAll r
def uptoBulkEntries {H : Type} : List (Lit × DataW H) → Nat
  | [] => 0
  | x :: r => uptoBulkEntry x + uptoBulkEntries r
def uptoBulkEntry {H : Type} : Lit × DataW H → Nat
  | (.string bytes, d) => bytes.length + uptoBulk d + 1
  | (_, d) => uptoBulk d + 1
 end
def uptoSmall : (H : Type) → List (DataW H) → Bool := fun _ ds => decide (uptoBulkAll ds ≤ 1048576)
def OpenSpec.upto (s : _root_.Go.ChangeSpec) : _root_.Go.OpenSpec := { _root_.Go.OpenSpec.ofChange s with cond := some uptoSmall }

/-- 'acheronlaw17.HeapShares', WHERE WHAT IT READS IS OF BULK AT MOST 1048576: true; the input reads as it did. -/
def heapSharesUptoRow : OpenClaim := { program := "ytodfpclekihbhaa", sum := "3704673e6a393d5f3e14a732d17095c58b5288d0c7a0fb65f95cac17e5763343", func := "acheron/acheronlaw17.HeapShares", spec := "heapShares", unfollowed := true, recurses := true, apart := false, narrowed := true }
def HeapSharesUptoSaid : Prop := heapSharesUptoRow.holds Try.pinned (OpenSpec.upto heapSharesSpec)

/-- 'acheronlaw18.CollectNil', WHERE WHAT IT READS IS OF BULK AT MOST 1048576: true; the input reads as it did. -/
def collectNilUptoRow : OpenClaim := { program := "ytodfpclekihbhaa", sum := "3704673e6a393d5f3e14a732d17095c58b5288d0c7a0fb65f95cac17e5763343", func := "acheron/acheronlaw18.CollectNil", spec := "collectNil", unfollowed := true, recurses := true, apart := false, narrowed := true }
def CollectNilUptoSaid : Prop := collectNilUptoRow.holds Try.pinned (OpenSpec.upto collectNilSpec)

/-- 'acheronlaw17.HeapNil', WHERE WHAT IT READS IS OF BULK AT MOST 1048576: true; the input reads as it did. -/
def heapNilUptoRow : OpenClaim := { program := "ytodfpclekihbhaa", sum := "3704673e6a393d5f3e14a732d17095c58b5288d0c7a0fb65f95cac17e5763343", func := "acheron/acheronlaw17.HeapNil", spec := "heapNil", unfollowed := true, recurses := true, apart := false, narrowed := true }
def HeapNilUptoSaid : Prop := heapNilUptoRow.holds Try.pinned (OpenSpec.upto heapNilSpec)

/-- 'acheronlaw17.HeapEnds', WHERE WHAT IT READS IS OF BULK AT MOST 1048576: true; the input reads as it did. -/
def heapEndsUptoRow : OpenClaim := { program := "ytodfpclekihbhaa", sum := "3704673e6a393d5f3e14a732d17095c58b5288d0c7a0fb65f95cac17e5763343", func := "acheron/acheronlaw17.HeapEnds", spec := "heapEnds", inPlace := ["internal/abi.NoEscape"], unfollowed := true, recurses := true, apart := false, narrowed := true }
def HeapEndsUptoSaid : Prop := heapEndsUptoRow.holds Try.pinned (OpenSpec.upto heapEndsSpec)

/-- 'acheronlaw17.HeapReaches', WHERE WHAT IT READS IS OF BULK AT MOST 1048576: true; the input reads as it did. -/
def heapReachesUptoRow : OpenClaim := { program := "ytodfpclekihbhaa", sum := "3704673e6a393d5f3e14a732d17095c58b5288d0c7a0fb65f95cac17e5763343", func := "acheron/acheronlaw17.HeapReaches", spec := "heapReaches", inPlace := ["internal/abi.NoEscape"], unfollowed := true, recurses := true, apart := false, narrowed := true }
def HeapReachesUptoSaid : Prop := heapReachesUptoRow.holds Try.pinned (OpenSpec.upto heapReachesSpec)

/-- 'acheronlaw17.HeapCounts', WHERE WHAT IT READS IS OF BULK AT MOST 1048576: true; the input reads as it did. -/
def heapCountsUptoRow : OpenClaim := { program := "ytodfpclekihbhaa", sum := "3704673e6a393d5f3e14a732d17095c58b5288d0c7a0fb65f95cac17e5763343", func := "acheron/acheronlaw17.HeapCounts", spec := "heapCounts", inPlace := ["internal/abi.NoEscape"], unfollowed := true, recurses := true, apart := false, narrowed := true }
def HeapCountsUptoSaid : Prop := heapCountsUptoRow.holds Try.pinned (OpenSpec.upto heapCountsSpec)

/-- 'acheronlaw17.HeapWatches', WHERE WHAT IT READS IS OF BULK AT MOST 1048576: true; the input reads as it did. -/
def heapWatchesUptoRow : OpenClaim := { program := "ytodfpclekihbhaa", sum := "3704673e6a393d5f3e14a732d17095c58b5288d0c7a0fb65f95cac17e5763343", func := "acheron/acheronlaw17.HeapWatches", spec := "heapWatches", inPlace := ["internal/abi.NoEscape"], unfollowed := true, recurses := true, apart := false, narrowed := true }
def HeapWatchesUptoSaid : Prop := heapWatchesUptoRow.holds Try.pinned (OpenSpec.upto heapWatchesSpec)

/-- 'acheronlaw18.CollectExact', WHERE WHAT IT READS IS OF BULK AT MOST 1048576: true; the input reads as it did. -/
def collectExactUptoRow : OpenClaim := { program := "ytodfpclekihbhaa", sum := "3704673e6a393d5f3e14a732d17095c58b5288d0c7a0fb65f95cac17e5763343", func := "acheron/acheronlaw18.CollectExact", spec := "collectExact", inPlace := ["internal/abi.NoEscape"], unfollowed := true, recurses := true, apart := false, narrowed := true }
def CollectExactUptoSaid : Prop := collectExactUptoRow.holds Try.pinned (OpenSpec.upto collectExactSpec)

end Rows
end Go.Proofs.Ytodfpclekihbhaa
