/-
  The document's example: plain.
-/
import Derived.Test.YtomckpllbihikaaB10
set_option autoImplicit false
set_option linter.unusedSimpArgs false
set_option linter.unusedVariables false
namespace Go.Proofs.Ytomckpllbihikaa
open X

def eqL : List Int → List Int → Bool
  | [], [] => true
  | a :: l, b :: m => decide (a = b) && eqL l m
  | _, _ => false
theorem eqL_eq : ∀ {l m : List Int}, eqL l m = true → l = m
  | [], [], _ => rfl
  | a :: l, b :: m, h => by
    simp only [eqL, Bool.and_eq_true, decide_eq_true_eq] at h
    rw [h.1, eqL_eq h.2]
  | [], _ :: _, h => by cases h
  | _ :: _, [], h => by cases h
def f0 : List Int := ((List.replicate 256 0).set 7 1).set 9 2
def t0 : List Int := (List.replicate 256 0) ++ 4 :: (List.replicate 7 0 ++ 2 :: 0 :: 1 :: (List.replicate 246 0 ++ 2 :: (List.replicate 7 (-1) ++ 9 :: (List.replicate 248 (-1) ++ [7]))))
theorem tree0 : eqL (tree f0) t0 = true := by kernel_rfl
def b0 (x : Nat) : Int := if x < 257 then g t0 (257 + x) else 0
theorem bits0 : bits f0 = b0 := by
  funext x; unfold bits b0 len; rw [eqL_eq tree0]
theorem ord0 : ordL (bits f0) 256 = [7, 9] := by rw [bits0]; exact eqL_eq (by kernel_rfl)
def c0 : List Int := 1 :: 1 :: List.replicate 14 0
theorem tab0 : tabC f0 = c0 := by
  unfold tabC tabN; rw [bits0]; exact eqL_eq (by kernel_rfl)
theorem bad0 : badIn f0 = false := by kernel_rfl
def s0 : ByteArray := ⟨#[9, 7]⟩
theorem new0 : (match hNew c0 s0 with | some m => decide (g m 14 = 2) && decide (g m 15 = 2) | none => false) = true := by kernel_rfl
theorem new0' : ∃ m, hNew c0 s0 = some m ∧ g m 14 = 2 ∧ g m 15 = 2 := by
  have h := new0
  split at h
  · rename_i m hm
    simp only [Bool.and_eq_true, decide_eq_true_eq] at h
    exact ⟨m, hm, h.1, h.2⟩
  · cases h
theorem sort0 {Z : List Int} (hp : Z.Perm (ordL (bits f0) 256)) (hr : Rise (key f0) Z 0 Z.length) : bytesOf Z = s0 := by
  rw [ord0] at hp
  have hl := hp.length_eq
  have key7 : key f0 7 = 2007 := by unfold key; rw [bits0]; kernel_rfl
  have key9 : key f0 9 = 1009 := by unfold key; rw [bits0]; kernel_rfl
  match Z, hl with
  | [a, b], _ =>
    have ha := hp.mem_iff (a := a)
    have hb := hp.mem_iff (a := b)
    have hn := (hp.nodup_iff).2 (by decide)
    have h01 := hr 0 1 (Nat.zero_le _) (by decide) (show 1 < 2 by decide)
    simp [g] at ha hb hn h01
    rcases ha with rfl | rfl <;> rcases hb with rfl | rfl
    · exact absurd rfl hn
    · rw [key7, key9] at h01; exact absurd h01 (by decide)
    · rfl
    · exact absurd rfl hn
end Go.Proofs.Ytomckpllbihikaa
