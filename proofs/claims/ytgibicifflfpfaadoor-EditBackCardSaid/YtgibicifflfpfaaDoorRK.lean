/-
  For every input, EditBack returns true, and the input reads as it did; the listed variables are those of the program's text. Conditions: none.
-/
import Derived.Test.YtgibicifflfpfaaDoorR0
import Derived.Test.YtgibicifflfpfaaDoorEL3
set_option autoImplicit false
set_option linter.unusedVariables false
namespace Go.Proofs.YtgibicifflfpfaaDoor
namespace RK
open X
open Go.ChangeShapes Go.WideShapes Go.ChangeAt Go.RowKit
open Go.ChangeMaps (open_string)

theorem room : (∀ t ∈ Tryd.f4.params.toList, Tryd.prog.readableRec t = true ∧ t < Tryd.prog.types.size) := by
  have h : (Tryd.f4.params.toList.all fun t => Tryd.prog.readableRec t && decide (t < Tryd.prog.types.size)) = true := by kernel_rfl
  intro t ht
  have := List.all_eq_true.1 h t ht
  simpa using this
set_option maxRecDepth 100000 in
theorem lifted (os : Os) (started : os.Started) (H : Type) (enc : TypeId × Value → H) :
    ReturnsInHanded {} Tryd.checked os 4 .any (fun w args => (Rows.editBackSpec.pre enc Tryd.prog Tryd.f4 Rows.editBackRow.domain false w args ∧ laidMet Tryd.prog laidL w) ∧ sizedMet enc Tryd.prog Tryd.f4 (OpenSpec.ofChange Rows.editBackSpec) false w args)
      (Rows.editBackSpec.post enc Tryd.prog Tryd.f4 false true false false) := by
  refine law_laidX (C := Tryd.checked) (fn := Tryd.f4) (tb := 4) (X := fun w _ => laidMet Tryd.prog laidL w) (fun _ _ _ hh h => h.of_heap hh) own started (by kernel_rfl) Tryd.func4
    (ChangeSpec.witness_at (enc := enc) (C := Tryd.checked) (os := os) (X := fun w _ => laidMet Tryd.prog laidL w) false (World.laidAll Tryd.prog os laidL) #[.agg (edC ed0), .string ⟨#[]⟩] 8 (World.laidAll_os _ _ _) (by kernel_rfl) (by kernel_rfl) (by kernel_rfl) (by kernel_rfl) (by kernel_rfl) (laidMet_laidAll _ (fits_l os) (ifaces_l os)))
    rfl laidOut room rfl Tryd.underlying4 ?_
  intro W base args ds ps hval hA hX
  rw [show Tryd.f4.params.toList = [23, 9] by rw [Tryd.params4]] at hA
  rw [Tryd.params4] at hval
  obtain ⟨v0, vs0, d0, ds0, p0, q0, hargs, rfl, rfl, h0, r0⟩ := trodAll_cons hA
  obtain ⟨v1, vs1, d1, ds1, p1, q1, rfl, rfl, rfl, h1, r1⟩ := trodAll_cons r0
  obtain ⟨rfl, rfl, rfl⟩ := trodAll_nil r1
  obtain rfl : args = #[v0, v1] := by cases args; simp_all
  obtain ⟨e, rfl, ok⟩ := open_ed (hval 0 _ v0 rfl rfl) h0
  obtain ⟨s, rfl, _, _, _⟩ := open_string Tryd.underlying9 (hval 1 _ v1 rfl rfl) h1
  obtain ⟨s, rfl⟩ := ba_of s
  exact ⟨rfl, rfl, rfl, EditBack_any W e s ok (tn_of hX (.head _)) (ut_of hX)⟩

theorem row : Rows.EditBackSaid :=
  OpenClaim.holds_of_wide 4 Tryd.f4 rfl rfl rfl rfl rfl rfl rfl ⟨rfl, rfl, rfl, rfl, rfl⟩ rfl rfl rfl rfl rfl (by kernel_rfl) Tryd.func4 (by kernel_rfl)
    (of_decide_eq_true (by kernel_rfl)) (by unfold Func.isWrapper; first | (rw [if_pos (by decide +kernel)]; kernel_rfl) | (rw [if_neg (by decide +kernel)]; exact ⟨rfl, rfl⟩))
    (fun os started H enc _ => lifted os started H enc)
theorem proved : Rows.EditBackCardSaid :=
  Claim7.holds_tied_plain_at .later [] [.data, .data, .pinned] true (true, "cd324bf7c1582c52d98e5793b77ab3c3e113b47f12a87707c51291245973fdc6") true
    row (fun _ h => by cases h) (by kernel_rfl) (fun _ h => by cases h) editBack_row_tie rfl ⟨rfl, rfl⟩ (by kernel_rfl) rfl
    (fun f fn hf hfn => by
      obtain rfl : f = 4 := Option.some.inj ((show Tryd.prog.funcNamed "aquatint/aquatintlaw21.EditBack" = some 4 by kernel_rfl).symm.trans hf) |>.symm
      obtain rfl : fn = Tryd.f4 := (Option.some.inj (Tryd.func4.symm.trans hfn)).symm
      refine ⟨by kernel_rfl, fun j t ht => ?_⟩
      have h : (Tryd.f4.params.toList.all fun t => Tryd.prog.wantsStandIn t == false) = true := by kernel_rfl
      have := List.all_eq_true.1 h t (Array.mem_toList_iff.2 (Array.mem_of_getElem? ht))
      exact (show Tryd.prog.wantsStandIn t = false by simpa using this))
    (by kernel_rfl)
#print axioms proved
end RK
end Go.Proofs.YtgibicifflfpfaaDoor
