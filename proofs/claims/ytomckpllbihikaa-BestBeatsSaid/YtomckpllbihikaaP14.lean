/-
  The table costs no more than codes of one length (plain).
-/
import Derived.Test.YtomckpllbihikaaP11
set_option autoImplicit false
set_option linter.unusedSimpArgs false
set_option linter.unusedVariables false
namespace Go.Proofs.Ytomckpllbihikaa
open X

theorem Sm_mulr (φ : Nat → Int) (c : Int) : ∀ n, Sm (fun k => φ k * c) n = Sm φ n * c
  | 0 => by simp [Sm]
  | n + 1 => by simp only [Sm]; rw [Sm_mulr φ c n, Int.add_mul]
theorem fits_flat {f Z : List Int} (h : f.length = 256) (hg : ∀ i, i < 256 → 0 ≤ g f i ∧ g f i ≤ 1099511627776) (hex : ∃ x, x < 256 ∧ 0 < g f x) (hp : Z.Perm (ordL (bits f) 256)) (wd : Nat) (hw : Z.length < 2 ^ wd) (hw2 : wd ≤ 256) : Fits2 (fun i => g (m0 f) i) (fun _ => wd) := by
  obtain ⟨hb, hsh, _⟩ := shape h hg
  obtain ⟨hSH, hcm⟩ := hsh hex
  refine ⟨fun i hi _ => hw2, ?_⟩
  have h1 : ∀ n, n ≤ 257 → Sm (kt (fun i => g (m0 f) i) (fun _ => wd)) n = (ordL (bits f) n).length * p2 wd := by
    intro n
    induction n with
    | zero => intro _; simp [Sm, ordL]
    | succ n ih =>
      intro hn
      simp only [Sm, ordL]
      rw [ih (by omega)]
      unfold kt
      by_cases hp : 0 < g (m0 f) n
      · rw [if_pos hp, if_pos ((hcm n (by omega)).2 ((m0_pos h (by omega)).1 hp)), List.length_append, List.length_cons, List.length_nil, Int.natCast_add, Int.add_mul]; simp
      · rw [if_neg hp, if_neg (fun h2 => hp ((m0_pos h (by omega)).2 ((hcm n (by omega)).1 h2)))]; simp
  rw [h1 257 (Nat.le_refl _)]
  have h2 : (ordL (bits f) (256 + 1)).length = Z.length + 1 := by
    show (if 0 < bits f 256 then _ else _ : List Int).length = _
    rw [if_pos ((hcm 256 (by omega)).2 (.inl rfl)), List.length_append, ← hp.length_eq]; rfl
  have e257 : (256 : Nat) + 1 = 257 := rfl
  rw [e257] at h2
  rw [h2]
  have h3 : p2 0 = ((2 ^ wd : Nat) : Int) * p2 wd := by
    unfold p2
    rw [Int.natCast_pow]
    have : (256 - 0 : Nat) = wd + (256 - wd) := by omega
    rw [this, Int.pow_add]; rfl
  rw [h3]
  exact Int.mul_le_mul_of_nonneg_right (by omega) (Int.le_of_lt (p2_pos _))
theorem cost_sum {f M : List Int} (hb : badIn f = false) (hco : ∀ x, x < 256 → 0 < g f x → 0 < g M (2 * x + 1)) : cost f M = some (Sm (fun x => g f x * g M (2 * x + 1)) 256) := by
  have key : ∀ r, r ≤ 256 → costTo f M r (Sm (fun x => g f x * g M (2 * x + 1)) (256 - r)) = some (Sm (fun x => g f x * g M (2 * x + 1)) 256) := by
    intro r
    induction r with
    | zero => intro _; rfl
    | succ r ih =>
      intro hr
      have h1 := ih (by omega)
      simp only [costTo]
      rw [if_neg (fun h => h.2 (hco (255 - r) (by omega) h.1))]
      have e1 : 256 - r = (255 - r) + 1 := by omega
      have e2 : 256 - (r + 1) = 255 - r := by omega
      rw [e1] at h1
      rw [e2]
      exact h1
  unfold cost
  rw [hb, if_neg (by decide)]
  have := key 256 (Nat.le_refl _)
  exact this
theorem table_beats {f Z M : List Int} {L : List (Nat × Nat × Nat)} (hf : f.length = 256) (hg : ∀ i, i < 256 → 0 ≤ g f i ∧ g f i ≤ 1099511627776) (hex : ∃ x, x < 256 ∧ 0 < g f x) (hp : Z.Perm (ordL (bits f) 256)) (hr : Rise (key f) Z 0 Z.length)
    (hI : CInv M L) (hL : L.map (fun t => (t.1 : Int)) = Z) (hlens : L.map (·.2.2) = lensC (tabC f) 16) (hsum : Sm (fun x => g (m0 f) x) 257 ≤ 2001) (wd : Nat) (hw : Z.length < 2 ^ wd) (hw2 : wd ≤ 256) :
    Sm (fun x => g f x * g M (2 * x + 1)) 256 ≤ Sm (fun x => g f x) 256 * wd + wd := by
  obtain ⟨hb, _⟩ := shape hf hg
  have h1 : Sm (fun x => g f x * g M (2 * x + 1)) 256 ≤ Sm (fun x => g (m0 f) x * bits f x) 256 := Sm_le 256 fun x hx => by
    (try dsimp only)
    rw [m0_lo hf hx]
    rcases Int.lt_or_le 0 (g f x) with h | h
    · exact Int.mul_le_mul_of_nonneg_left (table_lens hf hg hex hp hr hI hL hlens hsum x hx h).1 (Int.le_of_lt h)
    · have : g f x = 0 := by have := hg x hx; omega
      rw [this]; simp
  have h2 := tree_best hf hg _ (fits_flat hf hg hex hp wd hw hw2)
  have h3 : Sm (fun x => g (m0 f) x * bits f x) (256 + 1) = Sm (fun x => g (m0 f) x * bits f x) 256 + g (m0 f) 256 * bits f 256 := rfl
  have h4 : co (fun i => g (m0 f) i) (fun _ => wd) = Sm (fun i => g (m0 f) i) 257 * wd := Sm_mulr _ _ _
  have h5 : Sm (fun i => g (m0 f) i) (256 + 1) = Sm (fun i => g (m0 f) i) 256 + g (m0 f) 256 := rfl
  have h6 : Sm (fun i => g (m0 f) i) 256 = Sm (fun i => g f i) 256 := Sm_congr 256 fun k hk => m0_lo hf hk
  rw [m0_none hf] at h3 h5
  have e257 : (256 : Nat) + 1 = 257 := rfl
  rw [e257] at h3 h5
  rw [h4, h5, h6, h3, Int.add_mul] at h2
  have := (hb 256).1
  omega
end Go.Proofs.Ytomckpllbihikaa
