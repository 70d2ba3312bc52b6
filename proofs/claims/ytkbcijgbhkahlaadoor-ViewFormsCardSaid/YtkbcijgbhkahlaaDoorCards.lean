/-
  DERIVED. GIVEN WITH THE SEED: THE CARDS: each row of YtkbcijgbhkahlaaDoorRows.lean that lists a variable, with what it lists TIED to the program's text (the seventh form; the later family's looks); each row that meets fmt, with fmt's text TOLD by the authors' own Lean function (tested against real Go, not proved from fmt's source: count such statements apart). THE CARD IS WHAT COUNTS. Prove the row's statement (the work); the ties are given (YtkbcijgbhkahlaaDoorTie.lean); close each card by the builder's one call (the guide's Derived/Test/ToyasCard.lean, 'card_holds'). Laid BY PROGRAM, IN A SANDBOX (cutbox-door.mjs). By AI agents, Wed Nov 11 2026. No macro, syntax, notation, axiom, sorry.
-/
import Derived.Test.YtkbcijgbhkahlaaDoorRows
import GoSem.ClaimSeven
namespace Go.Proofs.YtkbcijgbhkahlaaDoor
namespace Rows

/-- THE TIED CARD OF 'osierlaw23.ViewForms'. -/
def viewFormsCard : Claim7 := { stood := { row := viewFormsRow, standIns := [], harness := (true, "f5b7fef2b5df073c6ac1d8585acb698e7a009569989a42dcabb35b0d9366e3dd"), looks := true }, kinds := [], alts := [], laidByText := true, laidKinds := [.data, .data, .data, .sentinel, .sentinel], laidTests := true, laidLooks := .later }
def ViewFormsCardSaid : Prop := Claim7.holds Tryd.pinned (.plain (OpenSpec.ofChange viewFormsSpec)) viewFormsCard

/-- THE TIED CARD OF 'osierlaw23.ViewRaw'. -/
def viewRawCard : Claim7 := { stood := { row := viewRawRow, standIns := [], harness := (true, "f5b7fef2b5df073c6ac1d8585acb698e7a009569989a42dcabb35b0d9366e3dd"), looks := true }, kinds := [], alts := [], laidByText := true, laidKinds := [.data, .data, .data, .sentinel, .sentinel], laidTests := true, laidLooks := .later }
def ViewRawCardSaid : Prop := Claim7.holds Tryd.pinned (.plain (OpenSpec.ofChange viewRawSpec)) viewRawCard

/-- THE TIED CARD OF 'osierlaw23.ViewDeep'. -/
def viewDeepCard : Claim7 := { stood := { row := viewDeepRow, standIns := [], harness := (true, "f5b7fef2b5df073c6ac1d8585acb698e7a009569989a42dcabb35b0d9366e3dd"), looks := true }, kinds := [], alts := [], laidByText := true, laidKinds := [.data, .data, .data, .sentinel, .sentinel], laidTests := true, laidLooks := .later }
def ViewDeepCardSaid : Prop := Claim7.holds Tryd.pinned (.plain (OpenSpec.ofChange viewDeepSpec)) viewDeepCard

/-- THE TIED CARD OF 'osierlaw23.ViewTurned'. -/
def viewTurnedCard : Claim7 := { stood := { row := viewTurnedRow, standIns := [], harness := (true, "f5b7fef2b5df073c6ac1d8585acb698e7a009569989a42dcabb35b0d9366e3dd"), looks := true }, kinds := [], alts := [], laidByText := true, laidKinds := [.data, .data, .data, .sentinel, .sentinel], laidTests := true, laidLooks := .later }
def ViewTurnedCardSaid : Prop := Claim7.holds Tryd.pinned (.plain (OpenSpec.ofChange viewTurnedSpec)) viewTurnedCard

/-- THE TIED CARD OF 'osierlaw23.ViewBack'. -/
def viewBackCard : Claim7 := { stood := { row := viewBackRow, standIns := [], harness := (true, "f5b7fef2b5df073c6ac1d8585acb698e7a009569989a42dcabb35b0d9366e3dd"), looks := true }, kinds := [], alts := [], laidByText := true, laidKinds := [.data, .data, .data, .sentinel, .sentinel], laidTests := true, laidLooks := .later }
def ViewBackCardSaid : Prop := Claim7.holds Tryd.pinned (.plain (OpenSpec.ofChange viewBackSpec)) viewBackCard

/-- THE SECOND FORM's CARD OF 'osierlaw23.ViewForms'. -/
def viewFormsUptoCard : Claim7 := { stood := { row := viewFormsUptoRow, standIns := [], harness := (true, "f5b7fef2b5df073c6ac1d8585acb698e7a009569989a42dcabb35b0d9366e3dd"), looks := true }, kinds := [], alts := [], laidByText := true, laidKinds := [.data, .data, .data, .sentinel, .sentinel], laidTests := true, laidLooks := .later }
def ViewFormsUptoCardSaid : Prop := Claim7.holds Tryd.pinned (.plain (OpenSpec.upto viewFormsSpec)) viewFormsUptoCard

/-- THE SECOND FORM's CARD OF 'osierlaw23.ViewRaw'. -/
def viewRawUptoCard : Claim7 := { stood := { row := viewRawUptoRow, standIns := [], harness := (true, "f5b7fef2b5df073c6ac1d8585acb698e7a009569989a42dcabb35b0d9366e3dd"), looks := true }, kinds := [], alts := [], laidByText := true, laidKinds := [.data, .data, .data, .sentinel, .sentinel], laidTests := true, laidLooks := .later }
def ViewRawUptoCardSaid : Prop := Claim7.holds Tryd.pinned (.plain (OpenSpec.upto viewRawSpec)) viewRawUptoCard

/-- THE SECOND FORM's CARD OF 'osierlaw23.ViewDeep'. -/
def viewDeepUptoCard : Claim7 := { stood := { row := viewDeepUptoRow, standIns := [], harness := (true, "f5b7fef2b5df073c6ac1d8585acb698e7a009569989a42dcabb35b0d9366e3dd"), looks := true }, kinds := [], alts := [], laidByText := true, laidKinds := [.data, .data, .data, .sentinel, .sentinel], laidTests := true, laidLooks := .later }
def ViewDeepUptoCardSaid : Prop := Claim7.holds Tryd.pinned (.plain (OpenSpec.upto viewDeepSpec)) viewDeepUptoCard

/-- THE SECOND FORM's CARD OF 'osierlaw23.ViewTurned'. -/
def viewTurnedUptoCard : Claim7 := { stood := { row := viewTurnedUptoRow, standIns := [], harness := (true, "f5b7fef2b5df073c6ac1d8585acb698e7a009569989a42dcabb35b0d9366e3dd"), looks := true }, kinds := [], alts := [], laidByText := true, laidKinds := [.data, .data, .data, .sentinel, .sentinel], laidTests := true, laidLooks := .later }
def ViewTurnedUptoCardSaid : Prop := Claim7.holds Tryd.pinned (.plain (OpenSpec.upto viewTurnedSpec)) viewTurnedUptoCard

/-- THE SECOND FORM's CARD OF 'osierlaw23.ViewBack'. -/
def viewBackUptoCard : Claim7 := { stood := { row := viewBackUptoRow, standIns := [], harness := (true, "f5b7fef2b5df073c6ac1d8585acb698e7a009569989a42dcabb35b0d9366e3dd"), looks := true }, kinds := [], alts := [], laidByText := true, laidKinds := [.data, .data, .data, .sentinel, .sentinel], laidTests := true, laidLooks := .later }
def ViewBackUptoCardSaid : Prop := Claim7.holds Tryd.pinned (.plain (OpenSpec.upto viewBackSpec)) viewBackUptoCard
end Rows
end Go.Proofs.YtkbcijgbhkahlaaDoor
