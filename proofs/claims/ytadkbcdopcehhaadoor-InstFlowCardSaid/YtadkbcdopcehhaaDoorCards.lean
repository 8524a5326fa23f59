/-
  DERIVED. GIVEN WITH THE SEED: THE CARDS: each row of YtadkbcdopcehhaaDoorRows.lean that lists a variable, with what it lists TIED to the program's text (the seventh form; the later family's looks); each row that meets fmt, with fmt's text TOLD by the authors' own Lean function (tested against real Go, not proved from fmt's source: count such statements apart). THE CARD IS WHAT COUNTS. Prove the row's statement (the work); the ties are given (YtadkbcdopcehhaaDoorTie.lean); close each card by the builder's one call (the guide's Derived/Test/ToyasCard.lean, 'card_holds'). Laid BY PROGRAM, IN A SANDBOX (cutbox-door.mjs). By AI agents, Wed Nov 11 2026. No macro, syntax, notation, axiom, sorry.
-/
import Derived.Test.YtadkbcdopcehhaaDoorRows
import GoSem.ClaimSeven
namespace Go.Proofs.YtadkbcdopcehhaaDoor
namespace Rows

/-- THE TIED CARD OF 'acheronlaw14.InstNames'. -/
def instNamesCard : Claim7 := { stood := { row := instNamesRow, standIns := [], harness := (true, "3f1c41d612fce8425661dc7d8168fe5e7bd9090d9d17bf5c9b4c307c89b17751"), looks := false }, kinds := [], alts := [], laidByText := true, laidKinds := [.listed, .data], laidTests := true, laidLooks := .later }
def InstNamesCardSaid : Prop := Claim7.holds Tryd.pinned (.plain (OpenSpec.ofChange instNamesSpec)) instNamesCard

/-- THE TIED CARD OF 'acheronlaw14.InstLetters'. -/
def instLettersCard : Claim7 := { stood := { row := instLettersRow, standIns := [], harness := (true, "3f1c41d612fce8425661dc7d8168fe5e7bd9090d9d17bf5c9b4c307c89b17751"), looks := false }, kinds := [], alts := [], laidByText := true, laidKinds := [.listed, .data], laidTests := true, laidLooks := .later }
def InstLettersCardSaid : Prop := Claim7.holds Tryd.pinned (.plain (OpenSpec.ofChange instLettersSpec)) instLettersCard

/-- THE TIED CARD OF 'acheronlaw14.InstChecks'. -/
def instChecksCard : Claim7 := { stood := { row := instChecksRow, standIns := [], harness := (true, "3f1c41d612fce8425661dc7d8168fe5e7bd9090d9d17bf5c9b4c307c89b17751"), looks := false }, kinds := [], alts := [], laidByText := true, laidKinds := [.listed, .data], laidTests := true, laidLooks := .later }
def InstChecksCardSaid : Prop := Claim7.holds Tryd.pinned (.plain (OpenSpec.ofChange instChecksSpec)) instChecksCard

/-- THE TIED CARD OF 'acheronlaw14.InstUnique'. -/
def instUniqueCard : Claim7 := { stood := { row := instUniqueRow, standIns := [], harness := (true, "3f1c41d612fce8425661dc7d8168fe5e7bd9090d9d17bf5c9b4c307c89b17751"), looks := false }, kinds := [], alts := [], laidByText := true, laidKinds := [.listed, .data], laidTests := true, laidLooks := .later }
def InstUniqueCardSaid : Prop := Claim7.holds Tryd.pinned (.plain (OpenSpec.ofChange instUniqueSpec)) instUniqueCard

/-- THE TIED CARD OF 'acheronlaw14.InstAlike'. -/
def instAlikeCard : Claim7 := { stood := { row := instAlikeRow, standIns := [], harness := (true, "3f1c41d612fce8425661dc7d8168fe5e7bd9090d9d17bf5c9b4c307c89b17751"), looks := false }, kinds := [], alts := [], laidByText := true, laidKinds := [.listed, .data], laidTests := true, laidLooks := .later }
def InstAlikeCardSaid : Prop := Claim7.holds Tryd.pinned (.plain (OpenSpec.ofChange instAlikeSpec)) instAlikeCard

/-- THE TIED CARD OF 'acheronlaw14.InstRaises'. -/
def instRaisesCard : Claim7 := { stood := { row := instRaisesRow, standIns := [], harness := (true, "3f1c41d612fce8425661dc7d8168fe5e7bd9090d9d17bf5c9b4c307c89b17751"), looks := false }, kinds := [], alts := [], laidByText := true, laidKinds := [.listed, .data], laidTests := true, laidLooks := .later }
def InstRaisesCardSaid : Prop := Claim7.holds Tryd.pinned (.plain (OpenSpec.ofChange instRaisesSpec)) instRaisesCard

/-- THE TIED CARD OF 'acheronlaw14.InstThrown'. -/
def instThrownCard : Claim7 := { stood := { row := instThrownRow, standIns := [], harness := (true, "3f1c41d612fce8425661dc7d8168fe5e7bd9090d9d17bf5c9b4c307c89b17751"), looks := false }, kinds := [], alts := [], laidByText := true, laidKinds := [.listed, .data], laidTests := true, laidLooks := .later }
def InstThrownCardSaid : Prop := Claim7.holds Tryd.pinned (.plain (OpenSpec.ofChange instThrownSpec)) instThrownCard

/-- THE TIED CARD OF 'acheronlaw14.InstNext'. -/
def instNextCard : Claim7 := { stood := { row := instNextRow, standIns := [], harness := (true, "3f1c41d612fce8425661dc7d8168fe5e7bd9090d9d17bf5c9b4c307c89b17751"), looks := false }, kinds := [], alts := [], laidByText := true, laidKinds := [.listed, .data], laidTests := true, laidLooks := .later }
def InstNextCardSaid : Prop := Claim7.holds Tryd.pinned (.plain (OpenSpec.ofChange instNextSpec)) instNextCard

/-- THE TIED CARD OF 'acheronlaw14.InstFlow'. -/
def instFlowCard : Claim7 := { stood := { row := instFlowRow, standIns := [], harness := (true, "3f1c41d612fce8425661dc7d8168fe5e7bd9090d9d17bf5c9b4c307c89b17751"), looks := false }, kinds := [], alts := [], laidByText := true, laidKinds := [.listed, .data], laidTests := true, laidLooks := .later }
def InstFlowCardSaid : Prop := Claim7.holds Tryd.pinned (.plain (OpenSpec.ofChange instFlowSpec)) instFlowCard

/-- THE SECOND FORM's CARD OF 'acheronlaw14.InstNames'. -/
def instNamesUptoCard : Claim7 := { stood := { row := instNamesUptoRow, standIns := [], harness := (true, "3f1c41d612fce8425661dc7d8168fe5e7bd9090d9d17bf5c9b4c307c89b17751"), looks := false }, kinds := [], alts := [], laidByText := true, laidKinds := [.listed, .data], laidTests := true, laidLooks := .later }
def InstNamesUptoCardSaid : Prop := Claim7.holds Tryd.pinned (.plain (OpenSpec.upto instNamesSpec)) instNamesUptoCard

/-- THE SECOND FORM's CARD OF 'acheronlaw14.InstLetters'. -/
def instLettersUptoCard : Claim7 := { stood := { row := instLettersUptoRow, standIns := [], harness := (true, "3f1c41d612fce8425661dc7d8168fe5e7bd9090d9d17bf5c9b4c307c89b17751"), looks := false }, kinds := [], alts := [], laidByText := true, laidKinds := [.listed, .data], laidTests := true, laidLooks := .later }
def InstLettersUptoCardSaid : Prop := Claim7.holds Tryd.pinned (.plain (OpenSpec.upto instLettersSpec)) instLettersUptoCard

/-- THE SECOND FORM's CARD OF 'acheronlaw14.InstChecks'. -/
def instChecksUptoCard : Claim7 := { stood := { row := instChecksUptoRow, standIns := [], harness := (true, "3f1c41d612fce8425661dc7d8168fe5e7bd9090d9d17bf5c9b4c307c89b17751"), looks := false }, kinds := [], alts := [], laidByText := true, laidKinds := [.listed, .data], laidTests := true, laidLooks := .later }
def InstChecksUptoCardSaid : Prop := Claim7.holds Tryd.pinned (.plain (OpenSpec.upto instChecksSpec)) instChecksUptoCard

/-- THE SECOND FORM's CARD OF 'acheronlaw14.InstUnique'. -/
def instUniqueUptoCard : Claim7 := { stood := { row := instUniqueUptoRow, standIns := [], harness := (true, "3f1c41d612fce8425661dc7d8168fe5e7bd9090d9d17bf5c9b4c307c89b17751"), looks := false }, kinds := [], alts := [], laidByText := true, laidKinds := [.listed, .data], laidTests := true, laidLooks := .later }
def InstUniqueUptoCardSaid : Prop := Claim7.holds Tryd.pinned (.plain (OpenSpec.upto instUniqueSpec)) instUniqueUptoCard

/-- THE SECOND FORM's CARD OF 'acheronlaw14.InstAlike'. -/
def instAlikeUptoCard : Claim7 := { stood := { row := instAlikeUptoRow, standIns := [], harness := (true, "3f1c41d612fce8425661dc7d8168fe5e7bd9090d9d17bf5c9b4c307c89b17751"), looks := false }, kinds := [], alts := [], laidByText := true, laidKinds := [.listed, .data], laidTests := true, laidLooks := .later }
def InstAlikeUptoCardSaid : Prop := Claim7.holds Tryd.pinned (.plain (OpenSpec.upto instAlikeSpec)) instAlikeUptoCard

/-- THE SECOND FORM's CARD OF 'acheronlaw14.InstRaises'. -/
def instRaisesUptoCard : Claim7 := { stood := { row := instRaisesUptoRow, standIns := [], harness := (true, "3f1c41d612fce8425661dc7d8168fe5e7bd9090d9d17bf5c9b4c307c89b17751"), looks := false }, kinds := [], alts := [], laidByText := true, laidKinds := [.listed, .data], laidTests := true, laidLooks := .later }
def InstRaisesUptoCardSaid : Prop := Claim7.holds Tryd.pinned (.plain (OpenSpec.upto instRaisesSpec)) instRaisesUptoCard

/-- THE SECOND FORM's CARD OF 'acheronlaw14.InstThrown'. -/
def instThrownUptoCard : Claim7 := { stood := { row := instThrownUptoRow, standIns := [], harness := (true, "3f1c41d612fce8425661dc7d8168fe5e7bd9090d9d17bf5c9b4c307c89b17751"), looks := false }, kinds := [], alts := [], laidByText := true, laidKinds := [.listed, .data], laidTests := true, laidLooks := .later }
def InstThrownUptoCardSaid : Prop := Claim7.holds Tryd.pinned (.plain (OpenSpec.upto instThrownSpec)) instThrownUptoCard

/-- THE SECOND FORM's CARD OF 'acheronlaw14.InstNext'. -/
def instNextUptoCard : Claim7 := { stood := { row := instNextUptoRow, standIns := [], harness := (true, "3f1c41d612fce8425661dc7d8168fe5e7bd9090d9d17bf5c9b4c307c89b17751"), looks := false }, kinds := [], alts := [], laidByText := true, laidKinds := [.listed, .data], laidTests := true, laidLooks := .later }
def InstNextUptoCardSaid : Prop := Claim7.holds Tryd.pinned (.plain (OpenSpec.upto instNextSpec)) instNextUptoCard

/-- THE SECOND FORM's CARD OF 'acheronlaw14.InstFlow'. -/
def instFlowUptoCard : Claim7 := { stood := { row := instFlowUptoRow, standIns := [], harness := (true, "3f1c41d612fce8425661dc7d8168fe5e7bd9090d9d17bf5c9b4c307c89b17751"), looks := false }, kinds := [], alts := [], laidByText := true, laidKinds := [.listed, .data], laidTests := true, laidLooks := .later }
def InstFlowUptoCardSaid : Prop := Claim7.holds Tryd.pinned (.plain (OpenSpec.upto instFlowSpec)) instFlowUptoCard
end Rows
end Go.Proofs.YtadkbcdopcehhaaDoor
