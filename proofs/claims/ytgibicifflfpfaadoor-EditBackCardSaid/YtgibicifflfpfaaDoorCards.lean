/-
  DERIVED. GIVEN WITH THE SEED: THE CARDS: each row of YtgibicifflfpfaaDoorRows.lean that lists a variable, with what it lists TIED to the program's text (the seventh form; the later family's looks); each row that meets fmt, with fmt's text TOLD by the authors' own Lean function (tested against real Go, not proved from fmt's source: count such statements apart). THE CARD IS WHAT COUNTS. Prove the row's statement (the work); the ties are given (YtgibicifflfpfaaDoorTie.lean); close each card by the builder's one call (the guide's Derived/Test/ToyasCard.lean, 'card_holds'). Laid BY PROGRAM, IN A SANDBOX (cutbox-door.mjs). By AI agents, Wed Nov 11 2026. No macro, syntax, notation, axiom, sorry.
-/
import Derived.Test.YtgibicifflfpfaaDoorRows
import GoSem.ClaimSeven
namespace Go.Proofs.YtgibicifflfpfaaDoor
namespace Rows

/-- THE TIED CARD OF 'aquatintlaw21.EditOps'. -/
def editOpsCard : Claim7 := { stood := { row := editOpsRow, standIns := [], harness := (true, "cd324bf7c1582c52d98e5793b77ab3c3e113b47f12a87707c51291245973fdc6"), looks := true }, kinds := [], alts := [], laidByText := true, laidKinds := [.data], laidTests := true, laidLooks := .later }
def EditOpsCardSaid : Prop := Claim7.holds Tryd.pinned (.plain (OpenSpec.ofChange editOpsSpec)) editOpsCard

/-- THE TIED CARD OF 'aquatintlaw21.EditBack'. -/
def editBackCard : Claim7 := { stood := { row := editBackRow, standIns := [], harness := (true, "cd324bf7c1582c52d98e5793b77ab3c3e113b47f12a87707c51291245973fdc6"), looks := true }, kinds := [], alts := [], laidByText := true, laidKinds := [.data, .data, .pinned], laidTests := true, laidLooks := .later }
def EditBackCardSaid : Prop := Claim7.holds Tryd.pinned (.plain (OpenSpec.ofChange editBackSpec)) editBackCard

/-- THE TIED CARD OF 'aquatintlaw21.EditTexts'. -/
def editTextsCard : Claim7 := { stood := { row := editTextsRow, standIns := [], harness := (true, "cd324bf7c1582c52d98e5793b77ab3c3e113b47f12a87707c51291245973fdc6"), looks := true }, kinds := [], alts := [], laidByText := true, laidKinds := [.data, .data, .pinned], laidTests := true, laidLooks := .later }
def EditTextsCardSaid : Prop := Claim7.holds Tryd.pinned (.plain (OpenSpec.ofChange editTextsSpec)) editTextsCard

/-- THE SECOND FORM's CARD OF 'aquatintlaw21.EditOps'. -/
def editOpsUptoCard : Claim7 := { stood := { row := editOpsUptoRow, standIns := [], harness := (true, "cd324bf7c1582c52d98e5793b77ab3c3e113b47f12a87707c51291245973fdc6"), looks := true }, kinds := [], alts := [], laidByText := true, laidKinds := [.data], laidTests := true, laidLooks := .later }
def EditOpsUptoCardSaid : Prop := Claim7.holds Tryd.pinned (.plain (OpenSpec.upto editOpsSpec)) editOpsUptoCard

/-- THE SECOND FORM's CARD OF 'aquatintlaw21.EditBack'. -/
def editBackUptoCard : Claim7 := { stood := { row := editBackUptoRow, standIns := [], harness := (true, "cd324bf7c1582c52d98e5793b77ab3c3e113b47f12a87707c51291245973fdc6"), looks := true }, kinds := [], alts := [], laidByText := true, laidKinds := [.data, .data, .pinned], laidTests := true, laidLooks := .later }
def EditBackUptoCardSaid : Prop := Claim7.holds Tryd.pinned (.plain (OpenSpec.upto editBackSpec)) editBackUptoCard

/-- THE SECOND FORM's CARD OF 'aquatintlaw21.EditTexts'. -/
def editTextsUptoCard : Claim7 := { stood := { row := editTextsUptoRow, standIns := [], harness := (true, "cd324bf7c1582c52d98e5793b77ab3c3e113b47f12a87707c51291245973fdc6"), looks := true }, kinds := [], alts := [], laidByText := true, laidKinds := [.data, .data, .pinned], laidTests := true, laidLooks := .later }
def EditTextsUptoCardSaid : Prop := Claim7.holds Tryd.pinned (.plain (OpenSpec.upto editTextsSpec)) editTextsUptoCard
end Rows
end Go.Proofs.YtgibicifflfpfaaDoor
