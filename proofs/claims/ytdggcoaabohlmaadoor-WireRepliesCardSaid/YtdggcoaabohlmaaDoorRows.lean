/-
  NARROWER THAN 'FOR EVERY INPUT', by the rows' own cells (each row's printed sentence says how): WireReplies: laid · WirePieces: laid · WireBuffers: laid.
  DERIVED. THE GIVEN ROWS OF THIS SEAT. 3 by the template 'for every input the law returns true; each argument reads behind the call as it read before'; 0 by the template 'total and deterministic' (their statements: YtdggcoaabohlmaaDoorTotals.lean).
  GIVEN WITH THE SEED: the statements are not yours to turn. If you find one false, say at which input.
  Laid BY PROGRAM, IN A SANDBOX (cutbox-rows.mjs): the forced cells as the released guide's own fill.sh prints them over the translation 0a1c47811e32d24a… (all of the seat's roots in one cut). By AI agents, Wed Nov 11 2026. No macro, syntax, notation, axiom, sorry.
-/
import Derived.Test.YtdggcoaabohlmaaDoorChecked
import GoSem.PinnedTables
import GoSem.Claim
import GoSem.ClaimJoined
import GoSem.ClaimMapViews
import Derived.JoinedTies
import Derived.KernelRfl
namespace Go.Proofs.YtdggcoaabohlmaaDoor
/- THE CELL 'sum', in the pinned program and in every row, IS THE sha256 OF THE DUMP (.gsa) THAT YtdggcoaabohlmaaDoorProg.lean LOADS. Nothing in Lean hashes anything: it is a label: what it is worth is what the hold of that sum in a sandbox is worth. -/
noncomputable def Tryd.pinned : Pinned := { name := "ytdggcoaabohlmaadoor", sum := "0a1c47811e32d24a5464fec6e78da9f078256dfa0a2f8d5b16a6bba175d7ab69", checked := Tryd.checked }
namespace Rows
def none {H : Type} : Left H := { results := [], args := [] }

/- WHAT THE LISTED PACKAGE-LEVEL VARIABLES READ AS WHEN THE CALL BEGINS. Each datum BY PROGRAM (the guide's laid-datum.mjs) off the statement by which the dump's own 'gosem.cut.vars' lays the variable. In a bare row this is a premise. The card (YtdggcoaabohlmaaDoorCards.lean) ties it to the program's text. -/
def laid_aquatint_turn_names {H : Type} : DataW H := .agg [.lit (.string [110, 111, 110, 101]), .lit (.string [109, 105, 114, 114, 111, 114]), .lit (.string [102, 108, 105, 112]), .lit (.string [104, 97, 108, 102]), .lit (.string [115, 119, 97, 112]), .lit (.string [114, 105, 103, 104, 116]), .lit (.string [108, 101, 102, 116]), .lit (.string [97, 110, 116, 105])]
def laid_unicode_utf8_acceptRanges {H : Type} : DataW H := .agg [.agg [.lit (.int .u8 128), .lit (.int .u8 191)], .agg [.lit (.int .u8 160), .lit (.int .u8 191)], .agg [.lit (.int .u8 128), .lit (.int .u8 159)], .agg [.lit (.int .u8 144), .lit (.int .u8 191)], .agg [.lit (.int .u8 128), .lit (.int .u8 143)], .agg [.lit (.int .u8 0), .lit (.int .u8 0)], .agg [.lit (.int .u8 0), .lit (.int .u8 0)], .agg [.lit (.int .u8 0), .lit (.int .u8 0)], .agg [.lit (.int .u8 0), .lit (.int .u8 0)], .agg [.lit (.int .u8 0), .lit (.int .u8 0)], .agg [.lit (.int .u8 0), .lit (.int .u8 0)], .agg [.lit (.int .u8 0), .lit (.int .u8 0)], .agg [.lit (.int .u8 0), .lit (.int .u8 0)], .agg [.lit (.int .u8 0), .lit (.int .u8 0)], .agg [.lit (.int .u8 0), .lit (.int .u8 0)], .agg [.lit (.int .u8 0), .lit (.int .u8 0)]]
/-- One of Go's own tables, pinned by name: the form's constant. -/
def laid_unicode_utf8_first : DataW Unit := Go.Pinned.utf8First

/-- 'aquatintlaw24.WireReplies': WHATEVER THE INPUT: true; the input reads as it did. -/
def wireRepliesSpec : ChangeSpec := { name := "wireReplies", fn := fun _ => fun
  | [d] => { results := [.lit (.bool true)], args := [d] }
  | _ => none }
def wireRepliesRow : OpenClaim := { program := "ytdggcoaabohlmaadoor", sum := "0a1c47811e32d24a5464fec6e78da9f078256dfa0a2f8d5b16a6bba175d7ab69", func := "aquatint/aquatintlaw24.WireReplies", spec := "wireReplies", inPlace := ["internal/abi.NoEscape"], unfollowed := true, recurses := true, named := ["aquatint/turn.names", "unicode/utf8.first", "unicode/utf8.acceptRanges"], apart := false, laid := [("aquatint/turn.names", laid_aquatint_turn_names), ("unicode/utf8.acceptRanges", laid_unicode_utf8_acceptRanges), ("unicode/utf8.first", laid_unicode_utf8_first)] }
def WireRepliesSaid : Prop := wireRepliesRow.holds Tryd.pinned (OpenSpec.ofChange wireRepliesSpec)

/-- ITS FALSE NEIGHBOUR: 'it returns false'. Refute it at one input. -/
def wireRepliesWrong : ChangeSpec := { name := "wireReplies", fn := fun _ => fun
  | [d] => { results := [.lit (.bool false)], args := [d] }
  | _ => none }
def WireRepliesWrongFalsely : Prop := wireRepliesRow.holds Tryd.pinned (OpenSpec.ofChange wireRepliesWrong)

/-- 'aquatintlaw24.WirePieces': WHATEVER THE INPUT: true; the input reads as it did. -/
def wirePiecesSpec : ChangeSpec := { name := "wirePieces", fn := fun _ => fun
  | [d1, d2] => { results := [.lit (.bool true)], args := [d1, d2] }
  | _ => none }
def wirePiecesRow : OpenClaim := { program := "ytdggcoaabohlmaadoor", sum := "0a1c47811e32d24a5464fec6e78da9f078256dfa0a2f8d5b16a6bba175d7ab69", func := "aquatint/aquatintlaw24.WirePieces", spec := "wirePieces", inPlace := ["internal/abi.NoEscape"], unfollowed := true, recurses := true, named := ["aquatint/turn.names", "unicode/utf8.first", "unicode/utf8.acceptRanges"], apart := false, laid := [("aquatint/turn.names", laid_aquatint_turn_names), ("unicode/utf8.acceptRanges", laid_unicode_utf8_acceptRanges), ("unicode/utf8.first", laid_unicode_utf8_first)] }
def WirePiecesSaid : Prop := wirePiecesRow.holds Tryd.pinned (OpenSpec.ofChange wirePiecesSpec)

/-- ITS FALSE NEIGHBOUR: 'it returns false'. Refute it at one input. -/
def wirePiecesWrong : ChangeSpec := { name := "wirePieces", fn := fun _ => fun
  | [d1, d2] => { results := [.lit (.bool false)], args := [d1, d2] }
  | _ => none }
def WirePiecesWrongFalsely : Prop := wirePiecesRow.holds Tryd.pinned (OpenSpec.ofChange wirePiecesWrong)

/-- 'aquatintlaw24.WireBuffers': WHATEVER THE INPUT: true; the input reads as it did. -/
def wireBuffersSpec : ChangeSpec := { name := "wireBuffers", fn := fun _ => fun
  | [d1, d2] => { results := [.lit (.bool true)], args := [d1, d2] }
  | _ => none }
def wireBuffersRow : OpenClaim := { program := "ytdggcoaabohlmaadoor", sum := "0a1c47811e32d24a5464fec6e78da9f078256dfa0a2f8d5b16a6bba175d7ab69", func := "aquatint/aquatintlaw24.WireBuffers", spec := "wireBuffers", inPlace := ["internal/abi.NoEscape"], unfollowed := true, recurses := true, named := ["aquatint/turn.names", "unicode/utf8.first", "unicode/utf8.acceptRanges"], apart := false, laid := [("aquatint/turn.names", laid_aquatint_turn_names), ("unicode/utf8.acceptRanges", laid_unicode_utf8_acceptRanges), ("unicode/utf8.first", laid_unicode_utf8_first)] }
def WireBuffersSaid : Prop := wireBuffersRow.holds Tryd.pinned (OpenSpec.ofChange wireBuffersSpec)

/-- ITS FALSE NEIGHBOUR: 'it returns false'. Refute it at one input. -/
def wireBuffersWrong : ChangeSpec := { name := "wireBuffers", fn := fun _ => fun
  | [d1, d2] => { results := [.lit (.bool false)], args := [d1, d2] }
  | _ => none }
def WireBuffersWrongFalsely : Prop := wireBuffersRow.holds Tryd.pinned (OpenSpec.ofChange wireBuffersWrong)

/- THE SECOND FORM. 'bulk': how many values and letters a reading holds, each counted each time it is reached (what is shared counts as often as it is met; a slice's spare places count too). A statement '..UptoSaid' is the law's where the arguments, and the package variables that the reading takes, are together of bulk at most 1048576: NARROWER than '..Said'. Prove '..Said' where nothing that the law and all that it calls make is longer than what came in: it says more and counts as full. Else prove '..UptoSaid'. A law counts once. -/
mutual
def uptoBulk {H : Type} : DataW H → Nat
  | .lit (.string bytes) => bytes.length + 1
  | .lit _ => 1
  | .nil => 1
  | .ptr d => uptoBulk d + 1
  | .slice elems spare => uptoBulkAll elems + uptoBulkAll spare + 1
  | .agg parts => uptoBulkAll parts + 1
  | .iface _ d => uptoBulk d + 1
  | .map entries => uptoBulkEntries entries + 1
  | .held _ => 1
def uptoBulkAll {H : Type} : List (DataW H) → Nat
  | [] => 0
  | d :: r => uptoBulk d + uptoBulkAll r
def uptoBulkEntries {H : Type} : List (Lit × DataW H) → Nat
  | [] => 0
  | x :: r => uptoBulkEntry x + uptoBulkEntries r
def uptoBulkEntry {H : Type} : Lit × DataW H → Nat
  | (.string bytes, d) => bytes.length + uptoBulk d + 1
  | (_, d) => uptoBulk d + 1
 end
def uptoSmall : (H : Type) → List (DataW H) → Bool := fun _ ds => decide (uptoBulkAll ds ≤ 1048576)
def OpenSpec.upto (s : _root_.Go.ChangeSpec) : _root_.Go.OpenSpec := { _root_.Go.OpenSpec.ofChange s with cond := some uptoSmall }

/-- 'aquatintlaw24.WireReplies', WHERE WHAT IT READS IS OF BULK AT MOST 1048576: true; the input reads as it did. -/
def wireRepliesUptoRow : OpenClaim := { program := "ytdggcoaabohlmaadoor", sum := "0a1c47811e32d24a5464fec6e78da9f078256dfa0a2f8d5b16a6bba175d7ab69", func := "aquatint/aquatintlaw24.WireReplies", spec := "wireReplies", inPlace := ["internal/abi.NoEscape"], unfollowed := true, recurses := true, named := ["aquatint/turn.names", "unicode/utf8.first", "unicode/utf8.acceptRanges"], apart := false, laid := [("aquatint/turn.names", laid_aquatint_turn_names), ("unicode/utf8.acceptRanges", laid_unicode_utf8_acceptRanges), ("unicode/utf8.first", laid_unicode_utf8_first)], narrowed := true }
def WireRepliesUptoSaid : Prop := wireRepliesUptoRow.holds Tryd.pinned (OpenSpec.upto wireRepliesSpec)

/-- 'aquatintlaw24.WirePieces', WHERE WHAT IT READS IS OF BULK AT MOST 1048576: true; the input reads as it did. -/
def wirePiecesUptoRow : OpenClaim := { program := "ytdggcoaabohlmaadoor", sum := "0a1c47811e32d24a5464fec6e78da9f078256dfa0a2f8d5b16a6bba175d7ab69", func := "aquatint/aquatintlaw24.WirePieces", spec := "wirePieces", inPlace := ["internal/abi.NoEscape"], unfollowed := true, recurses := true, named := ["aquatint/turn.names", "unicode/utf8.first", "unicode/utf8.acceptRanges"], apart := false, laid := [("aquatint/turn.names", laid_aquatint_turn_names), ("unicode/utf8.acceptRanges", laid_unicode_utf8_acceptRanges), ("unicode/utf8.first", laid_unicode_utf8_first)], narrowed := true }
def WirePiecesUptoSaid : Prop := wirePiecesUptoRow.holds Tryd.pinned (OpenSpec.upto wirePiecesSpec)

/-- 'aquatintlaw24.WireBuffers', WHERE WHAT IT READS IS OF BULK AT MOST 1048576: true; the input reads as it did. -/
def wireBuffersUptoRow : OpenClaim := { program := "ytdggcoaabohlmaadoor", sum := "0a1c47811e32d24a5464fec6e78da9f078256dfa0a2f8d5b16a6bba175d7ab69", func := "aquatint/aquatintlaw24.WireBuffers", spec := "wireBuffers", inPlace := ["internal/abi.NoEscape"], unfollowed := true, recurses := true, named := ["aquatint/turn.names", "unicode/utf8.first", "unicode/utf8.acceptRanges"], apart := false, laid := [("aquatint/turn.names", laid_aquatint_turn_names), ("unicode/utf8.acceptRanges", laid_unicode_utf8_acceptRanges), ("unicode/utf8.first", laid_unicode_utf8_first)], narrowed := true }
def WireBuffersUptoSaid : Prop := wireBuffersUptoRow.holds Tryd.pinned (OpenSpec.upto wireBuffersSpec)

end Rows
end Go.Proofs.YtdggcoaabohlmaaDoor
