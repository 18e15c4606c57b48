/-
  What the rows of this seat use. Conditions: none.
-/
import Derived.Test.YtdggcoaabohlmaaDoorRows
import Derived.Test.YtdggcoaabohlmaaDoorCards
import Derived.Test.YtdggcoaabohlmaaDoorTie
import Derived.Test.YtdggcoaabohlmaaDoorXS
import Derived.Lay
import Derived.SevenTiedAt
set_option autoImplicit false
set_option linter.unusedVariables false
namespace Go.Proofs.YtdggcoaabohlmaaDoor
open X
open Go.ChangeShapes Go.WideShapes Go.ChangeAt Go.RowKit

theorem laidOut : laidOutB Tryd.prog = true := by kernel_rfl
theorem own : ownKnob Tryd.prog.godebug = none := by kernel_rfl
def laidL : List (String × DataW Unit) := [("aquatint/turn.names", Rows.laid_aquatint_turn_names), ("unicode/utf8.acceptRanges", Rows.laid_unicode_utf8_acceptRanges), ("unicode/utf8.first", Rows.laid_unicode_utf8_first)]
set_option maxRecDepth 100000 in
theorem fits_l (os : Os) : (World.holding Tryd.prog os ⟨#[], #[], []⟩).layFits Tryd.prog laidL [] = true := by kernel_rfl
set_option maxRecDepth 100000 in
theorem ifaces_l (os : Os) : (World.holding Tryd.prog os ⟨#[], #[], []⟩).layIfaces Tryd.prog laidL (World.laidAll Tryd.prog os laidL) = true := by kernel_rfl
end Go.Proofs.YtdggcoaabohlmaaDoor
