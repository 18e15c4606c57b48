/-
  DERIVED. GIVEN WITH THE SEED: THE CARDS: each row of YtdggcoaabohlmaaDoorRows.lean that lists a variable, with what it lists TIED to the program's text (the seventh form; the later family's looks); each row that meets fmt, with fmt's text TOLD by the authors' own Lean function (tested against real Go, not proved from fmt's source: count such statements apart). THE CARD IS WHAT COUNTS. Prove the row's statement (the work); the ties are given (YtdggcoaabohlmaaDoorTie.lean); close each card by the builder's one call (the guide's Derived/Test/ToyasCard.lean, 'card_holds'). Laid BY PROGRAM, IN A SANDBOX (cutbox-door.mjs). By AI agents, Wed Nov 11 2026. No macro, syntax, notation, axiom, sorry.
-/
import Derived.Test.YtdggcoaabohlmaaDoorRows
import GoSem.ClaimSeven
namespace Go.Proofs.YtdggcoaabohlmaaDoor
namespace Rows

/-- THE TIED CARD OF 'aquatintlaw24.WireReplies'. -/
def wireRepliesCard : Claim7 := { stood := { row := wireRepliesRow, standIns := [], harness := (true, "5aad29c3b2070161844c6b6f89ac3f7bb47b963a50d27ebc6c9861630a80bdfd"), looks := true }, kinds := [], alts := [], laidByText := true, laidKinds := [.data, .data, .pinned], laidTests := true, laidLooks := .later }
def WireRepliesCardSaid : Prop := Claim7.holds Tryd.pinned (.plain (OpenSpec.ofChange wireRepliesSpec)) wireRepliesCard

/-- THE TIED CARD OF 'aquatintlaw24.WirePieces'. -/
def wirePiecesCard : Claim7 := { stood := { row := wirePiecesRow, standIns := [], harness := (true, "5aad29c3b2070161844c6b6f89ac3f7bb47b963a50d27ebc6c9861630a80bdfd"), looks := true }, kinds := [], alts := [], laidByText := true, laidKinds := [.data, .data, .pinned], laidTests := true, laidLooks := .later }
def WirePiecesCardSaid : Prop := Claim7.holds Tryd.pinned (.plain (OpenSpec.ofChange wirePiecesSpec)) wirePiecesCard

/-- THE TIED CARD OF 'aquatintlaw24.WireBuffers'. -/
def wireBuffersCard : Claim7 := { stood := { row := wireBuffersRow, standIns := [], harness := (true, "5aad29c3b2070161844c6b6f89ac3f7bb47b963a50d27ebc6c9861630a80bdfd"), looks := true }, kinds := [], alts := [], laidByText := true, laidKinds := [.data, .data, .pinned], laidTests := true, laidLooks := .later }
def WireBuffersCardSaid : Prop := Claim7.holds Tryd.pinned (.plain (OpenSpec.ofChange wireBuffersSpec)) wireBuffersCard

/-- THE SECOND FORM's CARD OF 'aquatintlaw24.WireReplies'. -/
def wireRepliesUptoCard : Claim7 := { stood := { row := wireRepliesUptoRow, standIns := [], harness := (true, "5aad29c3b2070161844c6b6f89ac3f7bb47b963a50d27ebc6c9861630a80bdfd"), looks := true }, kinds := [], alts := [], laidByText := true, laidKinds := [.data, .data, .pinned], laidTests := true, laidLooks := .later }
def WireRepliesUptoCardSaid : Prop := Claim7.holds Tryd.pinned (.plain (OpenSpec.upto wireRepliesSpec)) wireRepliesUptoCard

/-- THE SECOND FORM's CARD OF 'aquatintlaw24.WirePieces'. -/
def wirePiecesUptoCard : Claim7 := { stood := { row := wirePiecesUptoRow, standIns := [], harness := (true, "5aad29c3b2070161844c6b6f89ac3f7bb47b963a50d27ebc6c9861630a80bdfd"), looks := true }, kinds := [], alts := [], laidByText := true, laidKinds := [.data, .data, .pinned], laidTests := true, laidLooks := .later }
def WirePiecesUptoCardSaid : Prop := Claim7.holds Tryd.pinned (.plain (OpenSpec.upto wirePiecesSpec)) wirePiecesUptoCard

/-- THE SECOND FORM's CARD OF 'aquatintlaw24.WireBuffers'. -/
def wireBuffersUptoCard : Claim7 := { stood := { row := wireBuffersUptoRow, standIns := [], harness := (true, "5aad29c3b2070161844c6b6f89ac3f7bb47b963a50d27ebc6c9861630a80bdfd"), looks := true }, kinds := [], alts := [], laidByText := true, laidKinds := [.data, .data, .pinned], laidTests := true, laidLooks := .later }
def WireBuffersUptoCardSaid : Prop := Claim7.holds Tryd.pinned (.plain (OpenSpec.upto wireBuffersSpec)) wireBuffersUptoCard
end Rows
end Go.Proofs.YtdggcoaabohlmaaDoor
