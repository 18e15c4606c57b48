/-
  No cell of these rows narrows 'for every input' (looked for: loops, veiled, ifaces, maps, wideKeys, modest, calm, conditions, laid).
  DERIVED. THE GIVEN ROWS OF THIS SEAT. 5 by the template 'for every input the law returns true; each argument reads behind the call as it read before'; 0 by the template 'total and deterministic' (their statements: YtomckpllbihikaaTotals.lean).
  GIVEN WITH THE SEED: the statements are not yours to turn. If you find one false, say at which input.
  Laid BY PROGRAM, IN A SANDBOX (cutbox-rows.mjs): the forced cells as the released guide's own fill.sh prints them over the translation bd3e5f33a491ac23… (all of the seat's roots in one cut). By AI agents, Wed Nov 11 2026. No macro, syntax, notation, axiom, sorry.
-/
import Derived.Test.YtomckpllbihikaaChecked
import GoSem.Claim
import GoSem.ClaimJoined
import GoSem.ClaimMapViews
import Derived.JoinedTies
import Derived.KernelRfl
namespace Go.Proofs.Ytomckpllbihikaa
/- THE CELL 'sum', in the pinned program and in every row, IS THE sha256 OF THE DUMP (.gsa) THAT YtomckpllbihikaaProg.lean LOADS. Nothing in Lean hashes anything: it is a label: what it is worth is what the hold of that sum in a sandbox is worth. -/
noncomputable def Try.pinned : Pinned := { name := "ytomckpllbihikaa", sum := "bd3e5f33a491ac23de68755bc74dcae7921ccce150e97360627d543a5dcb1df5", checked := Try.checked }
namespace Rows
def none {H : Type} : Left H := { results := [], args := [] }

/-- 'aquatintlaw06.BestRight': WHATEVER THE INPUT: true; the input reads as it did. -/
def bestRightSpec : ChangeSpec := { name := "bestRight", fn := fun _ => fun
  | [d] => { results := [.lit (.bool true)], args := [d] }
  | _ => none }
def bestRightRow : OpenClaim := { program := "ytomckpllbihikaa", sum := "bd3e5f33a491ac23de68755bc74dcae7921ccce150e97360627d543a5dcb1df5", func := "aquatint/aquatintlaw06.BestRight", spec := "bestRight", unfollowed := true, recurses := true, apart := false }
def BestRightSaid : Prop := bestRightRow.holds Try.pinned (OpenSpec.ofChange bestRightSpec)

/-- ITS FALSE NEIGHBOUR: 'it returns false'. Refute it at one input. -/
def bestRightWrong : ChangeSpec := { name := "bestRight", fn := fun _ => fun
  | [d] => { results := [.lit (.bool false)], args := [d] }
  | _ => none }
def BestRightWrongFalsely : Prop := bestRightRow.holds Try.pinned (OpenSpec.ofChange bestRightWrong)

/-- 'aquatintlaw06.BestOrder': WHATEVER THE INPUT: true; the input reads as it did. -/
def bestOrderSpec : ChangeSpec := { name := "bestOrder", fn := fun _ => fun
  | [d1, d2, d3] => { results := [.lit (.bool true)], args := [d1, d2, d3] }
  | _ => none }
def bestOrderRow : OpenClaim := { program := "ytomckpllbihikaa", sum := "bd3e5f33a491ac23de68755bc74dcae7921ccce150e97360627d543a5dcb1df5", func := "aquatint/aquatintlaw06.BestOrder", spec := "bestOrder", unfollowed := true, recurses := true, apart := false }
def BestOrderSaid : Prop := bestOrderRow.holds Try.pinned (OpenSpec.ofChange bestOrderSpec)

/-- ITS FALSE NEIGHBOUR: 'it returns false'. Refute it at one input. -/
def bestOrderWrong : ChangeSpec := { name := "bestOrder", fn := fun _ => fun
  | [d1, d2, d3] => { results := [.lit (.bool false)], args := [d1, d2, d3] }
  | _ => none }
def BestOrderWrongFalsely : Prop := bestOrderRow.holds Try.pinned (OpenSpec.ofChange bestOrderWrong)

/-- 'aquatintlaw06.BestTables': WHATEVER THE INPUT: true; the input reads as it did. -/
def bestTablesSpec : ChangeSpec := { name := "bestTables", fn := fun _ => fun
  | [d] => { results := [.lit (.bool true)], args := [d] }
  | _ => none }
def bestTablesRow : OpenClaim := { program := "ytomckpllbihikaa", sum := "bd3e5f33a491ac23de68755bc74dcae7921ccce150e97360627d543a5dcb1df5", func := "aquatint/aquatintlaw06.BestTables", spec := "bestTables", unfollowed := true, recurses := true, apart := false }
def BestTablesSaid : Prop := bestTablesRow.holds Try.pinned (OpenSpec.ofChange bestTablesSpec)

/-- ITS FALSE NEIGHBOUR: 'it returns false'. Refute it at one input. -/
def bestTablesWrong : ChangeSpec := { name := "bestTables", fn := fun _ => fun
  | [d] => { results := [.lit (.bool false)], args := [d] }
  | _ => none }
def BestTablesWrongFalsely : Prop := bestTablesRow.holds Try.pinned (OpenSpec.ofChange bestTablesWrong)

/-- 'aquatintlaw06.BestCosts': WHATEVER THE INPUT: true; the input reads as it did. -/
def bestCostsSpec : ChangeSpec := { name := "bestCosts", fn := fun _ => fun
  | [d1, d2, d3] => { results := [.lit (.bool true)], args := [d1, d2, d3] }
  | _ => none }
def bestCostsRow : OpenClaim := { program := "ytomckpllbihikaa", sum := "bd3e5f33a491ac23de68755bc74dcae7921ccce150e97360627d543a5dcb1df5", func := "aquatint/aquatintlaw06.BestCosts", spec := "bestCosts", unfollowed := true, recurses := true, apart := false }
def BestCostsSaid : Prop := bestCostsRow.holds Try.pinned (OpenSpec.ofChange bestCostsSpec)

/-- ITS FALSE NEIGHBOUR: 'it returns false'. Refute it at one input. -/
def bestCostsWrong : ChangeSpec := { name := "bestCosts", fn := fun _ => fun
  | [d1, d2, d3] => { results := [.lit (.bool false)], args := [d1, d2, d3] }
  | _ => none }
def BestCostsWrongFalsely : Prop := bestCostsRow.holds Try.pinned (OpenSpec.ofChange bestCostsWrong)

/-- 'aquatintlaw06.BestBeats': WHATEVER THE INPUT: true; the input reads as it did. -/
def bestBeatsSpec : ChangeSpec := { name := "bestBeats", fn := fun _ => fun
  | [d] => { results := [.lit (.bool true)], args := [d] }
  | _ => none }
def bestBeatsRow : OpenClaim := { program := "ytomckpllbihikaa", sum := "bd3e5f33a491ac23de68755bc74dcae7921ccce150e97360627d543a5dcb1df5", func := "aquatint/aquatintlaw06.BestBeats", spec := "bestBeats", unfollowed := true, recurses := true, apart := false }
def BestBeatsSaid : Prop := bestBeatsRow.holds Try.pinned (OpenSpec.ofChange bestBeatsSpec)

/-- ITS FALSE NEIGHBOUR: 'it returns false'. Refute it at one input. -/
def bestBeatsWrong : ChangeSpec := { name := "bestBeats", fn := fun _ => fun
  | [d] => { results := [.lit (.bool false)], args := [d] }
  | _ => none }
def BestBeatsWrongFalsely : Prop := bestBeatsRow.holds Try.pinned (OpenSpec.ofChange bestBeatsWrong)

/- THE SECOND FORM. 'bulk': how many values and letters a reading holds, each counted each time it is reached (what is shared counts as often as it is met; a slice's spare places count too). A statement '..UptoSaid' is the law's where the arguments, and the package variables that the reading takes, are together of bulk at most 1048576: NARROWER than '..Said'. Prove '..Said' where nothing that the law and all that it calls make is longer than what came in: it says more and counts as full. Else prove '..UptoSaid'. A law counts once. -/
mutual
def uptoBulk {H : Type} : DataW H → Nat
  | .lit (.string bytes) => bytes.length + 1
  | .lit _ => 1
  | .nil => 1
  | .ptr d => uptoBulk d + 1
  | .slice elems spare => uptoBulkAll elems + uptoBulkAll spare + 1
  | .agg parts => uptoBulkAll parts + 1
  | .iface _ d => uptoBulk d + 1
  | .map entries => uptoBulkEntries entries + 1
  | .held _ => 1
def uptoBulkAll {H : Type} : List (DataW H) → Nat
  | [] => 0
  | d :: r => uptoBulk d + uptoBulkAll r
def uptoBulkEntries {H : Type} : List (Lit × DataW H) → Nat
  | [] => 0
  | x :: r => uptoBulkEntry x + uptoBulkEntries r
def uptoBulkEntry {H : Type} : Lit × DataW H → Nat
  | (.string bytes, d) => bytes.length + uptoBulk d + 1
  | (_, d) => uptoBulk d + 1
 end
def uptoSmall : (H : Type) → List (DataW H) → Bool := fun _ ds => decide (uptoBulkAll ds ≤ 1048576)
def OpenSpec.upto (s : _root_.Go.ChangeSpec) : _root_.Go.OpenSpec := { _root_.Go.OpenSpec.ofChange s with cond := some uptoSmall }

/-- 'aquatintlaw06.BestRight', WHERE WHAT IT READS IS OF BULK AT MOST 1048576: true; the input reads as it did. -/
def bestRightUptoRow : OpenClaim := { program := "ytomckpllbihikaa", sum := "bd3e5f33a491ac23de68755bc74dcae7921ccce150e97360627d543a5dcb1df5", func := "aquatint/aquatintlaw06.BestRight", spec := "bestRight", unfollowed := true, recurses := true, apart := false, narrowed := true }
def BestRightUptoSaid : Prop := bestRightUptoRow.holds Try.pinned (OpenSpec.upto bestRightSpec)

/-- 'aquatintlaw06.BestOrder', WHERE WHAT IT READS IS OF BULK AT MOST 1048576: true; the input reads as it did. -/
def bestOrderUptoRow : OpenClaim := { program := "ytomckpllbihikaa", sum := "bd3e5f33a491ac23de68755bc74dcae7921ccce150e97360627d543a5dcb1df5", func := "aquatint/aquatintlaw06.BestOrder", spec := "bestOrder", unfollowed := true, recurses := true, apart := false, narrowed := true }
def BestOrderUptoSaid : Prop := bestOrderUptoRow.holds Try.pinned (OpenSpec.upto bestOrderSpec)

/-- 'aquatintlaw06.BestTables', WHERE WHAT IT READS IS OF BULK AT MOST 1048576: true; the input reads as it did. -/
def bestTablesUptoRow : OpenClaim := { program := "ytomckpllbihikaa", sum := "bd3e5f33a491ac23de68755bc74dcae7921ccce150e97360627d543a5dcb1df5", func := "aquatint/aquatintlaw06.BestTables", spec := "bestTables", unfollowed := true, recurses := true, apart := false, narrowed := true }
def BestTablesUptoSaid : Prop := bestTablesUptoRow.holds Try.pinned (OpenSpec.upto bestTablesSpec)

/-- 'aquatintlaw06.BestCosts', WHERE WHAT IT READS IS OF BULK AT MOST 1048576: true; the input reads as it did. -/
def bestCostsUptoRow : OpenClaim := { program := "ytomckpllbihikaa", sum := "bd3e5f33a491ac23de68755bc74dcae7921ccce150e97360627d543a5dcb1df5", func := "aquatint/aquatintlaw06.BestCosts", spec := "bestCosts", unfollowed := true, recurses := true, apart := false, narrowed := true }
def BestCostsUptoSaid : Prop := bestCostsUptoRow.holds Try.pinned (OpenSpec.upto bestCostsSpec)

/-- 'aquatintlaw06.BestBeats', WHERE WHAT IT READS IS OF BULK AT MOST 1048576: true; the input reads as it did. -/
def bestBeatsUptoRow : OpenClaim := { program := "ytomckpllbihikaa", sum := "bd3e5f33a491ac23de68755bc74dcae7921ccce150e97360627d543a5dcb1df5", func := "aquatint/aquatintlaw06.BestBeats", spec := "bestBeats", unfollowed := true, recurses := true, apart := false, narrowed := true }
def BestBeatsUptoSaid : Prop := bestBeatsUptoRow.holds Try.pinned (OpenSpec.upto bestBeatsSpec)

end Rows
end Go.Proofs.Ytomckpllbihikaa
