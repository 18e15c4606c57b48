/-
  For every input, BestTables returns true, and the input reads as it did. Conditions: none.
-/
import Derived.Test.YtomckpllbihikaaRows
import Derived.Test.YtomckpllbihikaaXT
import Derived.Test.YtomckpllbihikaaL5
set_option autoImplicit false
set_option linter.unusedVariables false
namespace Go.Proofs.Ytomckpllbihikaa
namespace R5
open X
open Go.ChangeShapes Go.WideShapes Go.ChangeAt Go.RowKit
open Go.ChangeMaps (open_string)

theorem laidOut : laidOutB Try.prog = true := by kernel_rfl
theorem own : ownKnob Try.prog.godebug = none := by kernel_rfl
theorem cells22 : Try.prog.cellsOf 22 = 256 := by kernel_rfl
theorem cells3 : Try.prog.cellsOf 3 = 1 := by kernel_rfl
theorem room : (∀ t ∈ Try.f5.params.toList, Try.prog.readableRec t = true ∧ t < Try.prog.types.size) := by
  have h : (Try.f5.params.toList.all fun t => Try.prog.readableRec t && decide (t < Try.prog.types.size)) = true := by kernel_rfl
  intro t ht
  have := List.all_eq_true.1 h t ht
  simpa using this

set_option maxRecDepth 100000 in
theorem lifted (os : Os) (started : os.Started) (H : Type) (enc : TypeId × Value → H) :
    ReturnsInHanded {} Try.checked os 5 .any (Rows.bestTablesSpec.pre6 enc Try.prog Try.f5 Rows.bestTablesRow.domain false) (Rows.bestTablesSpec.post enc Try.prog Try.f5 false true false false) := by
  refine law_lifted (C := Try.checked) (fn := Try.f5) (tb := 4) own started (by kernel_rfl) Try.func5
    (ChangeSpec.witness6 (enc := enc) (C := Try.checked) false ⟨#[], #[.agg (ints .i64 (List.replicate 256 0))], []⟩ 8 (by kernel_rfl) (by kernel_rfl) (by kernel_rfl) (by kernel_rfl))
    rfl laidOut room rfl Try.underlying4 ?_
  intro W base args ds ps hval hA
  rw [show Try.f5.params.toList = [22] by rw [Try.params5]] at hA
  rw [Try.params5] at hval
  obtain ⟨v0, vs0, d0, ds0, p0, q0, hargs, rfl, rfl, h0, r0⟩ := trodAll_cons hA
  obtain ⟨rfl, rfl, rfl⟩ := trodAll_nil r0
  obtain rfl : args = #[v0] := by cases args; simp_all
  obtain ⟨f, rfl, hf, _⟩ := open_arr Try.underlying22 Try.underlying3 cells22 cells3 (hval 0 22 v0 rfl rfl) h0
  exact ⟨rfl, rfl, rfl, BestTables_any W f hf⟩

theorem proved : Rows.BestTablesSaid :=
  OpenClaim.holds_of_wide 5 Try.f5 rfl rfl rfl rfl rfl rfl rfl ⟨rfl, rfl, rfl, rfl, rfl⟩ rfl rfl rfl rfl rfl (by kernel_rfl) Try.func5 (by kernel_rfl)
    (of_decide_eq_true (by kernel_rfl)) (by unfold Func.isWrapper; first | (rw [if_pos (by decide +kernel)]; kernel_rfl) | (rw [if_neg (by decide +kernel)]; exact ⟨rfl, rfl⟩))
    (fun os started H enc _ => lifted os started H enc)
#print axioms proved
end R5
end Go.Proofs.Ytomckpllbihikaa
