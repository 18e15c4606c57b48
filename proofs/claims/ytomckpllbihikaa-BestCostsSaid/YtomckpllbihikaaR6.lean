/-
  For every input, BestCosts returns true, and the input reads as it did. Conditions: none.
-/
import Derived.Test.YtomckpllbihikaaRows
import Derived.Test.YtomckpllbihikaaXT
import Derived.Test.YtomckpllbihikaaL6
set_option autoImplicit false
set_option linter.unusedVariables false
namespace Go.Proofs.Ytomckpllbihikaa
open X
open Go.ChangeShapes Go.WideShapes Go.ChangeAt Go.RowKit
open Go.ChangeMaps (open_string)

theorem laidOut : laidOutB Try.prog = true := by kernel_rfl
theorem own : ownKnob Try.prog.godebug = none := by kernel_rfl
theorem cells22 : Try.prog.cellsOf 22 = 256 := by kernel_rfl
theorem cells23 : Try.prog.cellsOf 23 = 16 := by kernel_rfl
theorem cells3 : Try.prog.cellsOf 3 = 1 := by kernel_rfl
theorem cells5 : Try.prog.cellsOf 5 = 1 := by kernel_rfl
theorem room6 : (∀ t ∈ Try.f6.params.toList, Try.prog.readableRec t = true ∧ t < Try.prog.types.size) := by
  have h : (Try.f6.params.toList.all fun t => Try.prog.readableRec t && decide (t < Try.prog.types.size)) = true := by kernel_rfl
  intro t ht
  have := List.all_eq_true.1 h t ht
  simpa using this

set_option maxRecDepth 100000 in
theorem lifted6 (os : Os) (started : os.Started) (H : Type) (enc : TypeId × Value → H) :
    ReturnsInHanded {} Try.checked os 6 .any (Rows.bestCostsSpec.pre6 enc Try.prog Try.f6 Rows.bestCostsRow.domain false) (Rows.bestCostsSpec.post enc Try.prog Try.f6 false true false false) := by
  refine law_lifted (C := Try.checked) (fn := Try.f6) (tb := 4) own started (by kernel_rfl) Try.func6
    (ChangeSpec.witness6 (enc := enc) (C := Try.checked) false ⟨#[], #[.agg (ints .i64 (List.replicate 256 0)), .agg (ints .u8 (List.replicate 16 0)), .string ByteArray.empty], []⟩ 8 (by kernel_rfl) (by kernel_rfl) (by kernel_rfl) (by kernel_rfl))
    rfl laidOut room6 rfl Try.underlying4 ?_
  intro W base args ds ps hval hA
  rw [show Try.f6.params.toList = [22, 23, 9] by rw [Try.params6]] at hA
  rw [Try.params6] at hval
  obtain ⟨v0, vs0, d0, ds0, p0, q0, hargs, rfl, rfl, h0, r0⟩ := trodAll_cons hA
  obtain ⟨v1, vs1, d1, ds1, p1, q1, rfl, rfl, rfl, h1, r1⟩ := trodAll_cons r0
  obtain ⟨v2, vs2, d2, ds2, p2, q2, rfl, rfl, rfl, h2, r2⟩ := trodAll_cons r1
  obtain ⟨rfl, rfl, rfl⟩ := trodAll_nil r2
  obtain rfl : args = #[v0, v1, v2] := by cases args; simp_all
  obtain ⟨f, rfl, hf, _⟩ := open_arr Try.underlying22 Try.underlying3 cells22 cells3 (hval 0 22 v0 rfl rfl) h0
  obtain ⟨cnt, rfl, hc, hcw⟩ := open_arr Try.underlying23 Try.underlying5 cells23 cells5 (hval 1 23 v1 rfl rfl) h1
  obtain ⟨s, rfl, _, _, _⟩ := open_string Try.underlying9 (hval 2 9 v2 rfl rfl) h2
  refine ⟨rfl, rfl, rfl, BestCosts_any W f cnt s hf hc fun i => ?_⟩
  rcases Nat.lt_or_ge i 16 with h | h
  · exact wf_u8 (hcw i h)
  · rw [g_far (by rw [hc]; exact h)]; omega

theorem BestCosts_proved : Rows.BestCostsSaid :=
  OpenClaim.holds_of_wide 6 Try.f6 rfl rfl rfl rfl rfl rfl rfl ⟨rfl, rfl, rfl, rfl, rfl⟩ rfl rfl rfl rfl rfl (by kernel_rfl) Try.func6 (by kernel_rfl)
    (of_decide_eq_true (by kernel_rfl)) (by unfold Func.isWrapper; first | (rw [if_pos (by decide +kernel)]; kernel_rfl) | (rw [if_neg (by decide +kernel)]; exact ⟨rfl, rfl⟩))
    (fun os started H enc _ => lifted6 os started H enc)
#print axioms BestCosts_proved
end Go.Proofs.Ytomckpllbihikaa
