/-
  The engine: structs that came in by value, read. Conditions: none.
-/
import Derived.Test.YtgibicifflfpfaaDoorXS
set_option autoImplicit false
set_option linter.unusedVariables false
namespace Go.Proofs.YtgibicifflfpfaaDoor
namespace X
open Go.ChangeShapes Go.WideShapes Go.RowKit

/-- t is a struct with these fields: type and offset. -/
def structIs (P : Program) (t : TypeId) (l : List (TypeId × Nat)) : Bool :=
  match P.underlying t with
  | some (.struct fs) => decide (fs.toList.map (fun f => (f.type, f.offset)) = l)
  | _ => false
theorem struct_of {P : Program} {t : TypeId} {l : List (TypeId × Nat)} (h : structIs P t l = true) : ∃ fs, P.underlying t = some (.struct fs) ∧ fs.toList.map (fun f => (f.type, f.offset)) = l := by
  unfold structIs at h
  split at h
  · rename_i fs hu; exact ⟨fs, hu, of_decide_eq_true h⟩
  · cases h
section
variable {H : Type} {enc : TypeId × Value → H} {P : Program} {w : World} {base : Nat} {sp : Nat → Bool} {held : Bool}
theorem open_fields {t : TypeId} {l : List (TypeId × Nat)} {cs : List Value} {fuel : Nat} {x : DataW H × List MemPlace} (ht : structIs P t l = true) (h : DataW.trod enc P w base sp held fuel t cs = some x) :
    cs.length = P.cellsOf t ∧ ∃ n : Nat, ∀ (i : Nat) (ty : TypeId) (o : Nat), l[i]? = some (ty, o) → ∃ y, DataW.trod enc P w base sp held n ty ((cs.drop o).take (P.cellsOf ty)) = some y := by
  obtain ⟨fs, hu, hl⟩ := struct_of ht
  obtain ⟨xs, n, _, _, h1, h2, h3⟩ := DataW.trod_struct hu h
  refine ⟨h1, n, fun i ty o hi => ?_⟩
  rw [← hl, List.getElem?_map] at hi
  obtain ⟨f, hf, he⟩ := Option.map_eq_some_iff.1 hi
  obtain ⟨rfl, rfl⟩ := Prod.mk.inj he
  have hf2 : fs[i]? = some f := by simpa using hf
  have hlt : i < xs.length := by rw [h2]; exact (Array.getElem?_eq_some_iff.1 hf2).1
  exact ⟨xs[i], by rw [h3 i f hf2, List.getElem?_eq_getElem hlt]⟩
theorem open_agg {t : TypeId} {l : List (TypeId × Nat)} {v : Value} {r : Reach} {b0 : Nat} (ht : structIs P t l = true) (hok : Value.okWide P w r b0 t v) : ∃ cs, v = .agg cs ∧ cs.size = P.cellsOf t := by
  obtain ⟨fs, hu, _⟩ := struct_of ht
  obtain ⟨cs, rfl, hsz, _⟩ : ∃ cs, v = .agg cs ∧ cs.size = P.cellsOf t ∧ Row.okWide P w r b0 t cs := by
    simpa [Value.okWide, hu] using hok
  exact ⟨cs, rfl, hsz⟩
theorem map_of {α : Type} {f : α → Array Value} : ∀ (l : List (Array Value)), (∀ x ∈ l, ∃ a, x = f a) → ∃ ls : List α, l = ls.map f
  | [], _ => ⟨[], rfl⟩
  | x :: l, h => by
    obtain ⟨ls, e⟩ := map_of l fun y hy => h y (List.mem_cons_of_mem _ hy)
    obtain ⟨a, e2⟩ := h x (List.mem_cons_self ..)
    exact ⟨a :: ls, by rw [e, e2]; rfl⟩
end
end X
end Go.Proofs.YtgibicifflfpfaaDoor
