/-
  The statements' examples; EditOps: walked. Conditions: none.
-/
import Derived.Test.YtgibicifflfpfaaDoorE25
import Derived.Test.YtgibicifflfpfaaDoorE27
import Derived.Test.YtgibicifflfpfaaDoorEP2
set_option autoImplicit false
set_option linter.unusedSimpArgs false
set_option linter.unusedVariables false
namespace Go.Proofs.YtgibicifflfpfaaDoor
open X
set_option maxRecDepth 10000
set_option maxHeartbeats 1000000

theorem edOk_num {e : Ed} (hk : kindOk e) (h : rng e.a ∧ rng e.b ∧ rng e.c ∧ rng e.d) (hb : e.body.length < 100000000000) : EdOk e := by
  have w : ∀ n : Int, 0 ≤ n → n ≤ 2147483647 → (Lit.int .i64 n).wf = true := by
    intro n h0 h1
    have h1 : IntKind.i64.min = -9223372036854775808 := rfl
    have h2 : IntKind.i64.max = 9223372036854775807 := rfl
    simp [Lit.wf]; omega
  unfold rng at h
  unfold kindOk at hk
  exact ⟨w _ (by omega) (by omega), w _ (by omega) (by omega), w _ (by omega) (by omega), w _ (by omega) (by omega), w _ (by omega) (by omega), by rw [ba_size]; unfold maxLen; omega⟩
theorem edOk_ed0 : EdOk ed0 := edOk_num (.inl rfl) (by decide) (by decide)
theorem parse_edOk {s : List UInt8} (hs : s.length < 10000000000) : EdOk (parseL s).1 := by
  unfold parseL
  cases h : parseP s with
  | error x => exact edOk_ed0
  | ok e =>
    obtain ⟨hc, hl⟩ := parse_clean h
    exact edOk_num hc.1.1 hc.2.1 (by simp only; omega)
def exA : List UInt8 := [112, 117, 116, 32, 48, 32, 50, 53, 52, 32, 34, 104, 105, 34]
def exB : List UInt8 := [116, 117, 114, 110, 32, 114, 105, 103, 116, 104]
theorem ba_exA : ({ data := #[112, 117, 116, 32, 48, 32, 50, 53, 52, 32, 34, 104, 105, 34] } : ByteArray) = ba exA := (rfl)
theorem ba_exB : ({ data := #[116, 117, 114, 110, 32, 114, 105, 103, 116, 104] } : ByteArray) = ba exB := (rfl)
def edA : Ed := ⟨3, 0, 254, 0, 0, [104, 105]⟩
theorem parse_exA : parseL exA = (edA, 0, 0) := by rfl
theorem parse_exB : (parseL exB).2 = (8, 16) := by decide
end Go.Proofs.YtgibicifflfpfaaDoor
