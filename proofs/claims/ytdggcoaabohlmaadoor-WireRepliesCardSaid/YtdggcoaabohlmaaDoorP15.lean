/-
  Clean, as the program sees it and as the document says it: plain. Conditions: none.
-/
import Derived.Test.YtdggcoaabohlmaaDoorC15
set_option autoImplicit false
set_option linter.unusedSimpArgs false
set_option linter.unusedVariables false
namespace Go.Proofs.YtdggcoaabohlmaaDoor
open X
set_option maxRecDepth 10000

def ShortR (r : Rpl) : Prop := r.body.length ≤ 6000 ∧ r.es.length ≤ 60 ∧ ∀ x ∈ r.es, x.name.length ≤ 6000
theorem wrS_len (r : Rpl) (h : ShortR r) : (wrS r).length ≤ 16781312 := by
  have h1 := listB_len r.es h.2.2
  have h2 := h.1
  have h3 := h.2.1
  have a1 := numB_len r.kind 1; have a2 := numB_len r.e 1; have a3 := numB_len r.id 4; have a4 := numB_len r.ver 4; have a5 := numB_len r.wd 2; have a6 := numB_len r.ht 2
  unfold wrS
  repeat' split
  all_goals (simp only [List.length_append, List.length_nil]; omega)
def okP (r : Rpl) : Prop := ¬ bad1 r ∧ ¬ bad4 r ∧ ¬ bad6 r ∧ ∀ x ∈ r.es, ¬ bad11 x
theorem fitB1 (n : Int) : fits n 1 ↔ 0 ≤ n ∧ n ≤ 255 := by unfold fits; have p : (256 : Int) ^ 1 = 256 := by decide
                                                           rw [p]; omega
theorem fitB2 (n : Int) : fits n 2 ↔ 0 ≤ n ∧ n ≤ 65535 := by unfold fits; have p : (256 : Int) ^ 2 = 65536 := by decide
                                                             rw [p]; omega
theorem fitB4 (n : Int) : fits n 4 ↔ 0 ≤ n ∧ n ≤ 4294967295 := by unfold fits; have p : (256 : Int) ^ 4 = 4294967296 := by decide
                                                                  rw [p]; omega
theorem entBad_iff (x : Ent) : entBad x = false ↔ ¬ bad11 x := by
  unfold entBad bad11
  simp only [Bool.or_eq_false_iff, Bool.not_eq_false', decide_eq_true_eq, fitB4, fitB1]
  omega
theorem listBad_iff (es : List Ent) : listBad es = false ↔ ∀ x ∈ es, ¬ bad11 x := by
  unfold listBad
  rw [List.any_eq_false]
  constructor
  · intro h x hx; exact (entBad_iff x).1 (Bool.eq_false_iff.2 (h x hx))
  · intro h x hx; exact Bool.eq_false_iff.1 ((entBad_iff x).2 (h x hx))
theorem ok_iff (r : Rpl) (h : ShortR r) : progOk r = true ↔ okP r := by
  have hlen := wrS_len r h
  have hL := listBad_iff r.es
  have hn : r.es.length = 0 → listBad r.es = false := fun h => by rw [List.length_eq_zero_iff.1 h]; rfl
  unfold okP
  rw [← hL]
  clear hL
  unfold progOk
  simp only [decide_eq_true hlen, Bool.and_true]
  unfold wrBad sameB wrR pick bad1 bad4 q4 q3 q2 q1 bad6
  generalize listBad r.es = L at *
  obtain ⟨m, hm⟩ : ∃ m : Int, (L = false ↔ m = 0) ∧ (L = true ↔ m ≠ 0) := ⟨if L then 1 else 0, by cases L <;> simp⟩
  simp only [Bool.and_eq_true, Bool.not_eq_true', Bool.or_eq_false_iff, Bool.and_eq_false_iff, Bool.not_eq_false', decide_eq_true_eq, decide_eq_false_iff_not, fitB1, fitB2, fitB4, true_and, hm.1]
  rw [hm.1] at hn
  clear hm
  by_cases he : r.e = 0
  · by_cases k3 : r.kind = 3
    · simp [he, k3, nil_len, -List.length_eq_zero_iff]; omega
    · by_cases k4 : r.kind = 4
      · simp [he, k4, nil_len, -List.length_eq_zero_iff]; omega
      · by_cases k6 : r.kind = 6
        · simp [he, k6, nil_len, -List.length_eq_zero_iff]; omega
        · simp [he, k3, k4, k6, nil_len, -List.length_eq_zero_iff]; omega
  · simp [he, nil_len, -List.length_eq_zero_iff]; omega
theorem okR_of (r : Rpl) (h : okP r) : OkR r := by
  obtain ⟨h1, h4, h6, hE⟩ := h
  unfold bad1 at h1
  unfold bad6 at h6
  unfold bad4 q4 q3 q2 q1 at h4
  have hb : r.body ≠ [] → r.body.length ≠ 0 := fun h e => h (List.length_eq_zero_iff.1 e)
  have hs : r.es ≠ [] → r.es.length ≠ 0 := fun h e => h (List.length_eq_zero_iff.1 e)
  simp only [fitB4] at h6
  refine ⟨by omega, by omega, (fitB4 _).2 (by omega), (fitB4 _).2 (by omega), (fitB2 _).2 (by omega), (fitB2 _).2 (by omega), by omega, by omega, by omega, fun h => ?_, fun h => ?_, fun x hx => ?_⟩
  · have := hb h; omega
  · have := hs h; omega
  · have := hE x hx
    unfold bad11 at this
    exact ⟨Decidable.byContradiction fun h => this (.inl h), Decidable.byContradiction fun h => this (.inr (.inl h)), by omega⟩
end Go.Proofs.YtdggcoaabohlmaaDoor
