/-
  NARROWER THAN 'FOR EVERY INPUT', by the rows' own cells (each row's printed sentence says how): EditOps: laid · EditBack: laid · EditTexts: laid.
  DERIVED. THE GIVEN ROWS OF THIS SEAT. 3 by the template 'for every input the law returns true; each argument reads behind the call as it read before'; 0 by the template 'total and deterministic' (their statements: YtgibicifflfpfaaDoorTotals.lean).
  GIVEN WITH THE SEED: the statements are not yours to turn. If you find one false, say at which input.
  Laid BY PROGRAM, IN A SANDBOX (cutbox-rows.mjs): the forced cells as the released guide's own fill.sh prints them over the translation c980eadc1570e355… (all of the seat's roots in one cut). By AI agents, Wed Nov 11 2026. No macro, syntax, notation, axiom, sorry.
-/
import Derived.Test.YtgibicifflfpfaaDoorChecked
import GoSem.PinnedTables
import GoSem.Claim
import GoSem.ClaimJoined
import GoSem.ClaimMapViews
import Derived.JoinedTies
import Derived.KernelRfl
namespace Go.Proofs.YtgibicifflfpfaaDoor
/- THE CELL 'sum', in the pinned program and in every row, IS THE sha256 OF THE DUMP (.gsa) THAT YtgibicifflfpfaaDoorProg.lean LOADS. Nothing in Lean hashes anything: it is a label: what it is worth is what the hold of that sum in a sandbox is worth. -/
noncomputable def Tryd.pinned : Pinned := { name := "ytgibicifflfpfaadoor", sum := "c980eadc1570e355560732056a8dd2ef8c131e8625312bb14d2ffe09d210940f", checked := Tryd.checked }
namespace Rows
def none {H : Type} : Left H := { results := [], args := [] }

/- WHAT THE LISTED PACKAGE-LEVEL VARIABLES READ AS WHEN THE CALL BEGINS. Each datum BY PROGRAM (the guide's laid-datum.mjs) off the statement by which the dump's own 'gosem.cut.vars' lays the variable. In a bare row this is a premise. The card (YtgibicifflfpfaaDoorCards.lean) ties it to the program's text. -/
def laid_aquatint_turn_names {H : Type} : DataW H := .agg [.lit (.string [110, 111, 110, 101]), .lit (.string [109, 105, 114, 114, 111, 114]), .lit (.string [102, 108, 105, 112]), .lit (.string [104, 97, 108, 102]), .lit (.string [115, 119, 97, 112]), .lit (.string [114, 105, 103, 104, 116]), .lit (.string [108, 101, 102, 116]), .lit (.string [97, 110, 116, 105])]
def laid_unicode_utf8_acceptRanges {H : Type} : DataW H := .agg [.agg [.lit (.int .u8 128), .lit (.int .u8 191)], .agg [.lit (.int .u8 160), .lit (.int .u8 191)], .agg [.lit (.int .u8 128), .lit (.int .u8 159)], .agg [.lit (.int .u8 144), .lit (.int .u8 191)], .agg [.lit (.int .u8 128), .lit (.int .u8 143)], .agg [.lit (.int .u8 0), .lit (.int .u8 0)], .agg [.lit (.int .u8 0), .lit (.int .u8 0)], .agg [.lit (.int .u8 0), .lit (.int .u8 0)], .agg [.lit (.int .u8 0), .lit (.int .u8 0)], .agg [.lit (.int .u8 0), .lit (.int .u8 0)], .agg [.lit (.int .u8 0), .lit (.int .u8 0)], .agg [.lit (.int .u8 0), .lit (.int .u8 0)], .agg [.lit (.int .u8 0), .lit (.int .u8 0)], .agg [.lit (.int .u8 0), .lit (.int .u8 0)], .agg [.lit (.int .u8 0), .lit (.int .u8 0)], .agg [.lit (.int .u8 0), .lit (.int .u8 0)]]
/-- One of Go's own tables, pinned by name: the form's constant. -/
def laid_unicode_utf8_first : DataW Unit := Go.Pinned.utf8First

/-- 'aquatintlaw21.EditOps': WHATEVER THE INPUT: true; the input reads as it did. -/
def editOpsSpec : ChangeSpec := { name := "editOps", fn := fun _ => fun
  | [d] => { results := [.lit (.bool true)], args := [d] }
  | _ => none }
def editOpsRow : OpenClaim := { program := "ytgibicifflfpfaadoor", sum := "c980eadc1570e355560732056a8dd2ef8c131e8625312bb14d2ffe09d210940f", func := "aquatint/aquatintlaw21.EditOps", spec := "editOps", unfollowed := true, recurses := true, named := ["aquatint/turn.names"], apart := false, laid := [("aquatint/turn.names", laid_aquatint_turn_names)] }
def EditOpsSaid : Prop := editOpsRow.holds Tryd.pinned (OpenSpec.ofChange editOpsSpec)

/-- ITS FALSE NEIGHBOUR: 'it returns false'. Refute it at one input. -/
def editOpsWrong : ChangeSpec := { name := "editOps", fn := fun _ => fun
  | [d] => { results := [.lit (.bool false)], args := [d] }
  | _ => none }
def EditOpsWrongFalsely : Prop := editOpsRow.holds Tryd.pinned (OpenSpec.ofChange editOpsWrong)

/-- 'aquatintlaw21.EditBack': WHATEVER THE INPUT: true; the input reads as it did. -/
def editBackSpec : ChangeSpec := { name := "editBack", fn := fun _ => fun
  | [d1, d2] => { results := [.lit (.bool true)], args := [d1, d2] }
  | _ => none }
def editBackRow : OpenClaim := { program := "ytgibicifflfpfaadoor", sum := "c980eadc1570e355560732056a8dd2ef8c131e8625312bb14d2ffe09d210940f", func := "aquatint/aquatintlaw21.EditBack", spec := "editBack", unfollowed := true, recurses := true, named := ["aquatint/turn.names", "unicode/utf8.first", "unicode/utf8.acceptRanges"], apart := false, laid := [("aquatint/turn.names", laid_aquatint_turn_names), ("unicode/utf8.acceptRanges", laid_unicode_utf8_acceptRanges), ("unicode/utf8.first", laid_unicode_utf8_first)] }
def EditBackSaid : Prop := editBackRow.holds Tryd.pinned (OpenSpec.ofChange editBackSpec)

/-- ITS FALSE NEIGHBOUR: 'it returns false'. Refute it at one input. -/
def editBackWrong : ChangeSpec := { name := "editBack", fn := fun _ => fun
  | [d1, d2] => { results := [.lit (.bool false)], args := [d1, d2] }
  | _ => none }
def EditBackWrongFalsely : Prop := editBackRow.holds Tryd.pinned (OpenSpec.ofChange editBackWrong)

/-- 'aquatintlaw21.EditTexts': WHATEVER THE INPUT: true; the input reads as it did. -/
def editTextsSpec : ChangeSpec := { name := "editTexts", fn := fun _ => fun
  | [d1, d2] => { results := [.lit (.bool true)], args := [d1, d2] }
  | _ => none }
def editTextsRow : OpenClaim := { program := "ytgibicifflfpfaadoor", sum := "c980eadc1570e355560732056a8dd2ef8c131e8625312bb14d2ffe09d210940f", func := "aquatint/aquatintlaw21.EditTexts", spec := "editTexts", unfollowed := true, recurses := true, named := ["aquatint/turn.names", "unicode/utf8.first", "unicode/utf8.acceptRanges"], apart := false, laid := [("aquatint/turn.names", laid_aquatint_turn_names), ("unicode/utf8.acceptRanges", laid_unicode_utf8_acceptRanges), ("unicode/utf8.first", laid_unicode_utf8_first)] }
def EditTextsSaid : Prop := editTextsRow.holds Tryd.pinned (OpenSpec.ofChange editTextsSpec)

/-- ITS FALSE NEIGHBOUR: 'it returns false'. Refute it at one input. -/
def editTextsWrong : ChangeSpec := { name := "editTexts", fn := fun _ => fun
  | [d1, d2] => { results := [.lit (.bool false)], args := [d1, d2] }
  | _ => none }
def EditTextsWrongFalsely : Prop := editTextsRow.holds Tryd.pinned (OpenSpec.ofChange editTextsWrong)

/- THE SECOND FORM. 'bulk': how many values and letters a reading holds, each counted each time it is reached (what is shared counts as often as it is met; a slice's spare places count too). A statement '..UptoSaid' is the law's where the arguments, and the package variables that the reading takes, are together of bulk at most 1048576: NARROWER than '..Said'. Prove '..Said' where nothing that the law and all that it calls make is longer than what came in: it says more and counts as full. Else prove '..UptoSaid'. A law counts once. -/
mutual
def uptoBulk {H : Type} : DataW H → Nat
  | .lit (.string bytes) => bytes.length + 1
  | .lit _ => 1
  | .nil => 1
  | .ptr d => uptoBulk d + 1
  | .slice elems spare => uptoBulkAll elems + uptoBulkAll spare + 1
  | .agg parts => uptoBulkAll parts + 1
  | .iface _ d => uptoBulk d + 1
  | .map entries => uptoBulkEntries entries + 1
  | .held _ => 1
def uptoBulkAll {H : Type} : List (DataW H) → Nat
  | [] => 0
  | d :: r => uptoBulk d + uptoBulkAll r
def uptoBulkEntries {H : Type} : List (Lit × DataW H) → Nat
  | [] => 0
  | x :: r => uptoBulkEntry x + uptoBulkEntries r
def uptoBulkEntry {H : Type} : Lit × DataW H → Nat
  | (.string bytes, d) => bytes.length + uptoBulk d + 1
  | (_, d) => uptoBulk d + 1
 end
def uptoSmall : (H : Type) → List (DataW H) → Bool := fun _ ds => decide (uptoBulkAll ds ≤ 1048576)
def OpenSpec.upto (s : _root_.Go.ChangeSpec) : _root_.Go.OpenSpec := { _root_.Go.OpenSpec.ofChange s with cond := some uptoSmall }

/-- 'aquatintlaw21.EditOps', WHERE WHAT IT READS IS OF BULK AT MOST 1048576: true; the input reads as it did. -/
def editOpsUptoRow : OpenClaim := { program := "ytgibicifflfpfaadoor", sum := "c980eadc1570e355560732056a8dd2ef8c131e8625312bb14d2ffe09d210940f", func := "aquatint/aquatintlaw21.EditOps", spec := "editOps", unfollowed := true, recurses := true, named := ["aquatint/turn.names"], apart := false, laid := [("aquatint/turn.names", laid_aquatint_turn_names)], narrowed := true }
def EditOpsUptoSaid : Prop := editOpsUptoRow.holds Tryd.pinned (OpenSpec.upto editOpsSpec)

/-- 'aquatintlaw21.EditBack', WHERE WHAT IT READS IS OF BULK AT MOST 1048576: true; the input reads as it did. -/
def editBackUptoRow : OpenClaim := { program := "ytgibicifflfpfaadoor", sum := "c980eadc1570e355560732056a8dd2ef8c131e8625312bb14d2ffe09d210940f", func := "aquatint/aquatintlaw21.EditBack", spec := "editBack", unfollowed := true, recurses := true, named := ["aquatint/turn.names", "unicode/utf8.first", "unicode/utf8.acceptRanges"], apart := false, laid := [("aquatint/turn.names", laid_aquatint_turn_names), ("unicode/utf8.acceptRanges", laid_unicode_utf8_acceptRanges), ("unicode/utf8.first", laid_unicode_utf8_first)], narrowed := true }
def EditBackUptoSaid : Prop := editBackUptoRow.holds Tryd.pinned (OpenSpec.upto editBackSpec)

/-- 'aquatintlaw21.EditTexts', WHERE WHAT IT READS IS OF BULK AT MOST 1048576: true; the input reads as it did. -/
def editTextsUptoRow : OpenClaim := { program := "ytgibicifflfpfaadoor", sum := "c980eadc1570e355560732056a8dd2ef8c131e8625312bb14d2ffe09d210940f", func := "aquatint/aquatintlaw21.EditTexts", spec := "editTexts", unfollowed := true, recurses := true, named := ["aquatint/turn.names", "unicode/utf8.first", "unicode/utf8.acceptRanges"], apart := false, laid := [("aquatint/turn.names", laid_aquatint_turn_names), ("unicode/utf8.acceptRanges", laid_unicode_utf8_acceptRanges), ("unicode/utf8.first", laid_unicode_utf8_first)], narrowed := true }
def EditTextsUptoSaid : Prop := editTextsUptoRow.holds Tryd.pinned (OpenSpec.upto editTextsSpec)

end Rows
end Go.Proofs.YtgibicifflfpfaaDoor
