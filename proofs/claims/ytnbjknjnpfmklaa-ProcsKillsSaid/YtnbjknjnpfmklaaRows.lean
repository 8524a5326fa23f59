/-
  No cell of these rows narrows 'for every input' (looked for: loops, veiled, ifaces, maps, wideKeys, modest, calm, conditions, laid).
  DERIVED. THE GIVEN ROWS OF THIS SEAT. 6 by the template 'for every input the law returns true; each argument reads behind the call as it read before'; 0 by the template 'total and deterministic' (their statements: YtnbjknjnpfmklaaTotals.lean).
  GIVEN WITH THE SEED: the statements are not yours to turn. If you find one false, say at which input.
  Laid BY PROGRAM, IN A SANDBOX (cutbox-rows.mjs): the forced cells as the released guide's own fill.sh prints them over the translation 89a2495140552436… (all of the seat's roots in one cut). By AI agents, Wed Nov 11 2026. No macro, syntax, notation, axiom, sorry.
-/
import Derived.Test.YtnbjknjnpfmklaaChecked
import GoSem.Claim
import GoSem.ClaimJoined
import GoSem.ClaimMapViews
import Derived.JoinedTies
import Derived.KernelRfl
namespace Go.Proofs.Ytnbjknjnpfmklaa
/- THE CELL 'sum', in the pinned program and in every row, IS THE sha256 OF THE DUMP (.gsa) THAT YtnbjknjnpfmklaaProg.lean LOADS. Nothing in Lean hashes anything: it is a label: what it is worth is what the hold of that sum in a sandbox is worth. -/
noncomputable def Try.pinned : Pinned := { name := "ytnbjknjnpfmklaa", sum := "89a24951405524366ab78c3c406b717e2c6996b326700d76bb71f7019de235a1", checked := Try.checked }
namespace Rows
def none {H : Type} : Left H := { results := [], args := [] }

/-- 'acheronlaw20.ProcsChooses': WHATEVER THE INPUT: true; the input reads as it did. -/
def procsChoosesSpec : ChangeSpec := { name := "procsChooses", fn := fun _ => fun
  | [d1, d2] => { results := [.lit (.bool true)], args := [d1, d2] }
  | _ => none }
def procsChoosesRow : OpenClaim := { program := "ytnbjknjnpfmklaa", sum := "89a24951405524366ab78c3c406b717e2c6996b326700d76bb71f7019de235a1", func := "acheron/acheronlaw20.ProcsChooses", spec := "procsChooses", apart := false }
def ProcsChoosesSaid : Prop := procsChoosesRow.holds Try.pinned (OpenSpec.ofChange procsChoosesSpec)

/-- ITS FALSE NEIGHBOUR: 'it returns false'. Refute it at one input. -/
def procsChoosesWrong : ChangeSpec := { name := "procsChooses", fn := fun _ => fun
  | [d1, d2] => { results := [.lit (.bool false)], args := [d1, d2] }
  | _ => none }
def ProcsChoosesWrongFalsely : Prop := procsChoosesRow.holds Try.pinned (OpenSpec.ofChange procsChoosesWrong)

/-- 'acheronlaw20.ProcsTurns': WHATEVER THE INPUT: true; the input reads as it did. -/
def procsTurnsSpec : ChangeSpec := { name := "procsTurns", fn := fun _ => fun
  | [d1, d2] => { results := [.lit (.bool true)], args := [d1, d2] }
  | _ => none }
def procsTurnsRow : OpenClaim := { program := "ytnbjknjnpfmklaa", sum := "89a24951405524366ab78c3c406b717e2c6996b326700d76bb71f7019de235a1", func := "acheron/acheronlaw20.ProcsTurns", spec := "procsTurns", unfollowed := true, recurses := true, apart := false }
def ProcsTurnsSaid : Prop := procsTurnsRow.holds Try.pinned (OpenSpec.ofChange procsTurnsSpec)

/-- ITS FALSE NEIGHBOUR: 'it returns false'. Refute it at one input. -/
def procsTurnsWrong : ChangeSpec := { name := "procsTurns", fn := fun _ => fun
  | [d1, d2] => { results := [.lit (.bool false)], args := [d1, d2] }
  | _ => none }
def ProcsTurnsWrongFalsely : Prop := procsTurnsRow.holds Try.pinned (OpenSpec.ofChange procsTurnsWrong)

/-- 'acheronlaw20.ProcsKills': WHATEVER THE INPUT: true; the input reads as it did. -/
def procsKillsSpec : ChangeSpec := { name := "procsKills", fn := fun _ => fun
  | [d1, d2, d3] => { results := [.lit (.bool true)], args := [d1, d2, d3] }
  | _ => none }
def procsKillsRow : OpenClaim := { program := "ytnbjknjnpfmklaa", sum := "89a24951405524366ab78c3c406b717e2c6996b326700d76bb71f7019de235a1", func := "acheron/acheronlaw20.ProcsKills", spec := "procsKills", unfollowed := true, recurses := true, apart := false }
def ProcsKillsSaid : Prop := procsKillsRow.holds Try.pinned (OpenSpec.ofChange procsKillsSpec)

/-- ITS FALSE NEIGHBOUR: 'it returns false'. Refute it at one input. -/
def procsKillsWrong : ChangeSpec := { name := "procsKills", fn := fun _ => fun
  | [d1, d2, d3] => { results := [.lit (.bool false)], args := [d1, d2, d3] }
  | _ => none }
def ProcsKillsWrongFalsely : Prop := procsKillsRow.holds Try.pinned (OpenSpec.ofChange procsKillsWrong)

/-- 'acheronlaw20.ProcsPlays': WHATEVER THE INPUT: true; the input reads as it did. -/
def procsPlaysSpec : ChangeSpec := { name := "procsPlays", fn := fun _ => fun
  | [d1, d2] => { results := [.lit (.bool true)], args := [d1, d2] }
  | _ => none }
def procsPlaysRow : OpenClaim := { program := "ytnbjknjnpfmklaa", sum := "89a24951405524366ab78c3c406b717e2c6996b326700d76bb71f7019de235a1", func := "acheron/acheronlaw20.ProcsPlays", spec := "procsPlays", unfollowed := true, recurses := true, apart := false }
def ProcsPlaysSaid : Prop := procsPlaysRow.holds Try.pinned (OpenSpec.ofChange procsPlaysSpec)

/-- ITS FALSE NEIGHBOUR: 'it returns false'. Refute it at one input. -/
def procsPlaysWrong : ChangeSpec := { name := "procsPlays", fn := fun _ => fun
  | [d1, d2] => { results := [.lit (.bool false)], args := [d1, d2] }
  | _ => none }
def ProcsPlaysWrongFalsely : Prop := procsPlaysRow.holds Try.pinned (OpenSpec.ofChange procsPlaysWrong)

/-- 'acheronlaw20.ProcsPlaces': WHATEVER THE INPUT: true; the input reads as it did. -/
def procsPlacesSpec : ChangeSpec := { name := "procsPlaces", fn := fun _ => fun
  | [d1, d2] => { results := [.lit (.bool true)], args := [d1, d2] }
  | _ => none }
def procsPlacesRow : OpenClaim := { program := "ytnbjknjnpfmklaa", sum := "89a24951405524366ab78c3c406b717e2c6996b326700d76bb71f7019de235a1", func := "acheron/acheronlaw20.ProcsPlaces", spec := "procsPlaces", unfollowed := true, recurses := true, apart := false }
def ProcsPlacesSaid : Prop := procsPlacesRow.holds Try.pinned (OpenSpec.ofChange procsPlacesSpec)

/-- ITS FALSE NEIGHBOUR: 'it returns false'. Refute it at one input. -/
def procsPlacesWrong : ChangeSpec := { name := "procsPlaces", fn := fun _ => fun
  | [d1, d2] => { results := [.lit (.bool false)], args := [d1, d2] }
  | _ => none }
def ProcsPlacesWrongFalsely : Prop := procsPlacesRow.holds Try.pinned (OpenSpec.ofChange procsPlacesWrong)

/-- 'acheronlaw20.ProcsNil': WHATEVER THE INPUT: true; the input reads as it did. -/
def procsNilSpec : ChangeSpec := { name := "procsNil", fn := fun _ => fun
  | [d1, d2] => { results := [.lit (.bool true)], args := [d1, d2] }
  | _ => none }
def procsNilRow : OpenClaim := { program := "ytnbjknjnpfmklaa", sum := "89a24951405524366ab78c3c406b717e2c6996b326700d76bb71f7019de235a1", func := "acheron/acheronlaw20.ProcsNil", spec := "procsNil", unfollowed := true, recurses := true, apart := false }
def ProcsNilSaid : Prop := procsNilRow.holds Try.pinned (OpenSpec.ofChange procsNilSpec)

/-- ITS FALSE NEIGHBOUR: 'it returns false'. Refute it at one input. -/
def procsNilWrong : ChangeSpec := { name := "procsNil", fn := fun _ => fun
  | [d1, d2] => { results := [.lit (.bool false)], args := [d1, d2] }
  | _ => none }
def ProcsNilWrongFalsely : Prop := procsNilRow.holds Try.pinned (OpenSpec.ofChange procsNilWrong)

/- THE SECOND FORM. 'bulk': how many values and letters a reading holds, each counted each time it is reached (what is shared counts as often as it is met; a slice's spare places count too). A statement '..UptoSaid' is the law's where the arguments, and the package variables that the reading takes, are together of bulk at most 1048576: NARROWER than '..Said'. Prove '..Said' where nothing that the law and all that it calls make is longer than what came in: it says more and counts as full. Else prove '..UptoSaid'. A law counts once. -/
mutual
def uptoBulk {H : Type} : DataW H → Nat
  | .lit (.string bytes) => bytes.length + 1
  | .lit _ => 1
  | .nil => 1
  | .ptr d => uptoBulk d + 1
  | .slice elems spare => uptoBulkAll elems + uptoBulkAll spare + 1
  | .agg parts => uptoBulkAll parts + 1
  | .iface _ d => uptoBulk d + 1
  | .map entries => uptoBulkEntries entries + 1
  | .held _ => 1
def uptoBulkAll {H : Type} : List (DataW H) → Nat
  | [] => 0
  | d :: r => uptoBulk d + uptoBulkAll r
def uptoBulkEntries {H : Type} : List (Lit × DataW H) → Nat
  | [] => 0
  | x :: r => uptoBulkEntry x + uptoBulkEntries r
def uptoBulkEntry {H : Type} : Lit × DataW H → Nat
  | (.string bytes, d) => bytes.length + uptoBulk d + 1
  | (_, d) => uptoBulk d + 1
 end
def uptoSmall : (H : Type) → List (DataW H) → Bool := fun _ ds => decide (uptoBulkAll ds ≤ 1048576)
def OpenSpec.upto (s : _root_.Go.ChangeSpec) : _root_.Go.OpenSpec := { _root_.Go.OpenSpec.ofChange s with cond := some uptoSmall }

/-- 'acheronlaw20.ProcsChooses', WHERE WHAT IT READS IS OF BULK AT MOST 1048576: true; the input reads as it did. -/
def procsChoosesUptoRow : OpenClaim := { program := "ytnbjknjnpfmklaa", sum := "89a24951405524366ab78c3c406b717e2c6996b326700d76bb71f7019de235a1", func := "acheron/acheronlaw20.ProcsChooses", spec := "procsChooses", apart := false, narrowed := true }
def ProcsChoosesUptoSaid : Prop := procsChoosesUptoRow.holds Try.pinned (OpenSpec.upto procsChoosesSpec)

/-- 'acheronlaw20.ProcsTurns', WHERE WHAT IT READS IS OF BULK AT MOST 1048576: true; the input reads as it did. -/
def procsTurnsUptoRow : OpenClaim := { program := "ytnbjknjnpfmklaa", sum := "89a24951405524366ab78c3c406b717e2c6996b326700d76bb71f7019de235a1", func := "acheron/acheronlaw20.ProcsTurns", spec := "procsTurns", unfollowed := true, recurses := true, apart := false, narrowed := true }
def ProcsTurnsUptoSaid : Prop := procsTurnsUptoRow.holds Try.pinned (OpenSpec.upto procsTurnsSpec)

/-- 'acheronlaw20.ProcsKills', WHERE WHAT IT READS IS OF BULK AT MOST 1048576: true; the input reads as it did. -/
def procsKillsUptoRow : OpenClaim := { program := "ytnbjknjnpfmklaa", sum := "89a24951405524366ab78c3c406b717e2c6996b326700d76bb71f7019de235a1", func := "acheron/acheronlaw20.ProcsKills", spec := "procsKills", unfollowed := true, recurses := true, apart := false, narrowed := true }
def ProcsKillsUptoSaid : Prop := procsKillsUptoRow.holds Try.pinned (OpenSpec.upto procsKillsSpec)

/-- 'acheronlaw20.ProcsPlays', WHERE WHAT IT READS IS OF BULK AT MOST 1048576: true; the input reads as it did. -/
def procsPlaysUptoRow : OpenClaim := { program := "ytnbjknjnpfmklaa", sum := "89a24951405524366ab78c3c406b717e2c6996b326700d76bb71f7019de235a1", func := "acheron/acheronlaw20.ProcsPlays", spec := "procsPlays", unfollowed := true, recurses := true, apart := false, narrowed := true }
def ProcsPlaysUptoSaid : Prop := procsPlaysUptoRow.holds Try.pinned (OpenSpec.upto procsPlaysSpec)

/-- 'acheronlaw20.ProcsPlaces', WHERE WHAT IT READS IS OF BULK AT MOST 1048576: true; the input reads as it did. -/
def procsPlacesUptoRow : OpenClaim := { program := "ytnbjknjnpfmklaa", sum := "89a24951405524366ab78c3c406b717e2c6996b326700d76bb71f7019de235a1", func := "acheron/acheronlaw20.ProcsPlaces", spec := "procsPlaces", unfollowed := true, recurses := true, apart := false, narrowed := true }
def ProcsPlacesUptoSaid : Prop := procsPlacesUptoRow.holds Try.pinned (OpenSpec.upto procsPlacesSpec)

/-- 'acheronlaw20.ProcsNil', WHERE WHAT IT READS IS OF BULK AT MOST 1048576: true; the input reads as it did. -/
def procsNilUptoRow : OpenClaim := { program := "ytnbjknjnpfmklaa", sum := "89a24951405524366ab78c3c406b717e2c6996b326700d76bb71f7019de235a1", func := "acheron/acheronlaw20.ProcsNil", spec := "procsNil", unfollowed := true, recurses := true, apart := false, narrowed := true }
def ProcsNilUptoSaid : Prop := procsNilUptoRow.holds Try.pinned (OpenSpec.upto procsNilSpec)

end Rows
end Go.Proofs.Ytnbjknjnpfmklaa
