/-
  For every input, EditOps returns true, and the input reads as it did; the listed variable is that of the program's text. Conditions: none.
-/
import Derived.Test.YtgibicifflfpfaaDoorR0
import Derived.Test.YtgibicifflfpfaaDoorEL2
set_option autoImplicit false
set_option linter.unusedVariables false
namespace Go.Proofs.YtgibicifflfpfaaDoor
namespace RO
open X
open Go.ChangeShapes Go.WideShapes Go.ChangeAt Go.RowKit

theorem room : (∀ t ∈ Tryd.f3.params.toList, Tryd.prog.readableRec t = true ∧ t < Tryd.prog.types.size) := by
  have h : (Tryd.f3.params.toList.all fun t => Tryd.prog.readableRec t && decide (t < Tryd.prog.types.size)) = true := by kernel_rfl
  intro t ht
  have := List.all_eq_true.1 h t ht
  simpa using this
set_option maxRecDepth 100000 in
theorem lifted (os : Os) (started : os.Started) (H : Type) (enc : TypeId × Value → H) :
    ReturnsInHanded {} Tryd.checked os 3 .any (fun w args => (Rows.editOpsSpec.pre enc Tryd.prog Tryd.f3 Rows.editOpsRow.domain false w args ∧ laidMet Tryd.prog laid1 w) ∧ sizedMet enc Tryd.prog Tryd.f3 (OpenSpec.ofChange Rows.editOpsSpec) false w args)
      (Rows.editOpsSpec.post enc Tryd.prog Tryd.f3 false true false false) := by
  refine law_laidX (C := Tryd.checked) (fn := Tryd.f3) (tb := 4) (X := fun w _ => laidMet Tryd.prog laid1 w) (fun _ _ _ hh h => h.of_heap hh) own started (by kernel_rfl) Tryd.func3
    (ChangeSpec.witness_at (enc := enc) (C := Tryd.checked) (os := os) (X := fun w _ => laidMet Tryd.prog laid1 w) false (World.laidAll Tryd.prog os laid1) #[.agg (edC ed0)] 8 (World.laidAll_os _ _ _) (by kernel_rfl) (by kernel_rfl) (by kernel_rfl) (by kernel_rfl) (by kernel_rfl) (laidMet_laidAll _ (fits_1 os) (ifaces_1 os)))
    rfl laidOut room rfl Tryd.underlying4 ?_
  intro W base args ds ps hval hA hX
  rw [show Tryd.f3.params.toList = [23] by rw [Tryd.params3]] at hA
  rw [Tryd.params3] at hval
  obtain ⟨v0, vs0, d0, ds0, p0, q0, hargs, rfl, rfl, h0, r0⟩ := trodAll_cons hA
  obtain ⟨rfl, rfl, rfl⟩ := trodAll_nil r0
  obtain rfl : args = #[v0] := by cases args; simp_all
  obtain ⟨e, rfl, ok⟩ := open_ed (hval 0 _ v0 rfl rfl) h0
  exact ⟨rfl, rfl, rfl, EditOps_any W e ok (tn_of hX (.head _))⟩

theorem row : Rows.EditOpsSaid :=
  OpenClaim.holds_of_wide 3 Tryd.f3 rfl rfl rfl rfl rfl rfl rfl ⟨rfl, rfl, rfl, rfl, rfl⟩ rfl rfl rfl rfl rfl (by kernel_rfl) Tryd.func3 (by kernel_rfl)
    (of_decide_eq_true (by kernel_rfl)) (by unfold Func.isWrapper; first | (rw [if_pos (by decide +kernel)]; kernel_rfl) | (rw [if_neg (by decide +kernel)]; exact ⟨rfl, rfl⟩))
    (fun os started H enc _ => lifted os started H enc)
theorem proved : Rows.EditOpsCardSaid :=
  Claim7.holds_tied_plain_at .later [] [.data] true (true, "cd324bf7c1582c52d98e5793b77ab3c3e113b47f12a87707c51291245973fdc6") true
    row (fun _ h => by cases h) (by kernel_rfl) (fun _ h => by cases h) editOps_row_tie rfl ⟨rfl, rfl⟩ (by kernel_rfl) rfl
    (fun f fn hf hfn => by
      obtain rfl : f = 3 := Option.some.inj ((show Tryd.prog.funcNamed "aquatint/aquatintlaw21.EditOps" = some 3 by kernel_rfl).symm.trans hf) |>.symm
      obtain rfl : fn = Tryd.f3 := (Option.some.inj (Tryd.func3.symm.trans hfn)).symm
      refine ⟨by kernel_rfl, fun j t ht => ?_⟩
      have h : (Tryd.f3.params.toList.all fun t => Tryd.prog.wantsStandIn t == false) = true := by kernel_rfl
      have := List.all_eq_true.1 h t (Array.mem_toList_iff.2 (Array.mem_of_getElem? ht))
      exact (show Tryd.prog.wantsStandIn t = false by simpa using this))
    (by kernel_rfl)
#print axioms proved
end RO
end Go.Proofs.YtgibicifflfpfaaDoor
