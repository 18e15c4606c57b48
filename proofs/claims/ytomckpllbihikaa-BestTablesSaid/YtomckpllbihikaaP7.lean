/-
  How many codes of a length there are fits a byte (plain).
-/
import Derived.Test.YtomckpllbihikaaP5
set_option autoImplicit false
set_option linter.unusedSimpArgs false
set_option linter.unusedVariables false
namespace Go.Proofs.Ytomckpllbihikaa
open X

theorem p2_mono {i k : Nat} (h : i ≤ k) : p2 k ≤ p2 i := by
  unfold p2
  exact_mod_cast Nat.pow_le_pow_right (n := 2) (by decide) (by omega : 256 - k ≤ 256 - i)
theorem ws_two (c : Nat → Int) (M : Int) (hc : ∀ k, 0 ≤ c k ∧ c k ≤ M) (n : List Int) (hn : ∀ k, 0 ≤ g n k) (i j : Nat) (hij : i ≠ j) : ∀ k,
    (if i < k then c i * g n i else 0) + (if j < k then c j * g n j else 0) ≤ ws c n k ∧
    ws c n k ≤ (if i < k then c i * g n i else 0) + (if j < k then c j * g n j else 0) + M * (ws (fun _ => 1) n k - (if i < k then g n i else 0) - (if j < k then g n j else 0))
  | 0 => by simp [ws]
  | k + 1 => by
    obtain ⟨h1, h2⟩ := ws_two c M hc n hn i j hij k
    have h3 : c k * g n k ≤ M * g n k := Int.mul_le_mul_of_nonneg_right (hc k).2 (hn k)
    have h4 : 0 ≤ c k * g n k := Int.mul_nonneg (hc k).1 (hn k)
    simp only [ws, Int.mul_sub, Int.mul_add, Int.one_mul] at *
    rcases Nat.lt_trichotomy i k with a | a | a
    · rw [if_pos a, if_pos a] at h2
      rw [if_pos a] at h1
      rw [if_pos (show i < k + 1 by omega), if_pos (show i < k + 1 by omega)]
      rcases Nat.lt_trichotomy j k with b | b | b
      · rw [if_pos b, if_pos b] at h2
        rw [if_pos b] at h1
        rw [if_pos (show j < k + 1 by omega), if_pos (show j < k + 1 by omega)]; omega
      · subst b
        rw [if_neg (Nat.lt_irrefl _), if_neg (Nat.lt_irrefl _)] at h2
        rw [if_neg (Nat.lt_irrefl _)] at h1
        rw [if_pos (show j < j + 1 by omega), if_pos (show j < j + 1 by omega)]; omega
      · rw [if_neg (show ¬ j < k by omega), if_neg (show ¬ j < k by omega)] at h2
        rw [if_neg (show ¬ j < k by omega)] at h1
        rw [if_neg (show ¬ j < k + 1 by omega), if_neg (show ¬ j < k + 1 by omega)]; omega
    · subst a
      rw [if_neg (Nat.lt_irrefl _), if_neg (Nat.lt_irrefl _)] at h2
      rw [if_neg (Nat.lt_irrefl _)] at h1
      rw [if_pos (show i < i + 1 by omega), if_pos (show i < i + 1 by omega)]
      rcases Nat.lt_or_ge j i with b | b
      · rw [if_pos b, if_pos b] at h2
        rw [if_pos b] at h1
        rw [if_pos (show j < i + 1 by omega), if_pos (show j < i + 1 by omega)]; omega
      · rw [if_neg (show ¬ j < i by omega), if_neg (show ¬ j < i by omega)] at h2
        rw [if_neg (show ¬ j < i by omega)] at h1
        rw [if_neg (show ¬ j < i + 1 by omega), if_neg (show ¬ j < i + 1 by omega)]; omega
    · rw [if_neg (show ¬ i < k by omega), if_neg (show ¬ i < k by omega)] at h2
      rw [if_neg (show ¬ i < k by omega)] at h1
      rw [if_neg (show ¬ i < k + 1 by omega), if_neg (show ¬ i < k + 1 by omega)]
      rcases Nat.lt_trichotomy j k with b | b | b
      · rw [if_pos b, if_pos b] at h2
        rw [if_pos b] at h1
        rw [if_pos (show j < k + 1 by omega), if_pos (show j < k + 1 by omega)]; omega
      · subst b
        rw [if_neg (Nat.lt_irrefl _), if_neg (Nat.lt_irrefl _)] at h2
        rw [if_neg (Nat.lt_irrefl _)] at h1
        rw [if_pos (show j < j + 1 by omega), if_pos (show j < j + 1 by omega)]; omega
      · rw [if_neg (show ¬ j < k by omega), if_neg (show ¬ j < k by omega)] at h2
        rw [if_neg (show ¬ j < k by omega)] at h1
        rw [if_neg (show ¬ j < k + 1 by omega), if_neg (show ¬ j < k + 1 by omega)]; omega

theorem p2_lo {i : Nat} (h : i ≤ 8) : 452312848583266388373324160190187140051835877600158453279131187530910662656 ≤ p2 i := Int.le_trans (by decide) (p2_mono h)
theorem p2_hi {i : Nat} (h : 9 ≤ i) : p2 i ≤ 226156424291633194186662080095093570025917938800079226639565593765455331328 := Int.le_trans (p2_mono h) (by decide)
theorem p2_00 : p2 0 = 115792089237316195423570985008687907853269984665640564039457584007913129639936 := by decide

theorem SH.few {Z : List Int} (h : SH Z 16) (i : Nat) (i1 : 1 ≤ i) (i2 : i ≤ 16) : 0 ≤ g (shLast Z) i ∧ g (shLast Z) i ≤ 255 := by
  obtain ⟨q, q1, q2⟩ := h.some
  obtain ⟨d1, d2⟩ := down_spec Z 16 ⟨q, q1, q2⟩
  have d3 := down_le Z 16
  obtain ⟨j, hj⟩ : ∃ j, down Z 16 = j := ⟨_, rfl⟩
  rw [hj] at d1 d2 d3
  have hzj := h.nn j
  have hzi := h.nn i
  have ht := h.tot
  have hkr := h.kr
  rw [p2_00] at hkr
  have hc : ∀ k, 0 ≤ p2 k ∧ p2 k ≤ p2 0 := fun k => ⟨Int.le_of_lt (p2_pos k), p2_mono (Nat.zero_le _)⟩
  rw [shLast, hj, upd_g _ _ _ _ (by have := h.len; omega)]
  by_cases e : i = j
  · subst e
    rw [if_pos rfl]
    refine ⟨by omega, ?_⟩
    by_cases hbig : 257 ≤ g Z i
    · exfalso
      obtain ⟨l1, l2⟩ := ws_two p2 (p2 0) hc Z h.nn i 256 (by omega) 257
      have hup := h.up 256 (by omega)
      obtain ⟨m1, m2⟩ := ws_two (fun _ => 1) 1 (fun _ => by omega) Z h.nn i 256 (by omega) 257
      rw [if_pos (by omega), if_pos (by omega), hup] at m1
      rw [if_pos (by omega), if_pos (by omega), if_pos (by omega), if_pos (by omega), hup] at l2
      rw [if_pos (by omega), if_pos (by omega), hup] at l1
      have hz : g Z i = 257 := by omega
      have hw : ws (fun _ => 1) Z 257 = 257 := by omega
      rw [hz, hkr] at l1
      rw [hz, hw, hkr] at l2
      rcases Nat.lt_or_ge 8 i with y | y
      · have := p2_hi y; omega
      · have := p2_lo y; omega
    · omega
  · rw [if_neg e]
    refine ⟨hzi, ?_⟩
    by_cases hbig : 256 ≤ g Z i
    · exfalso
      have hij : i < j := by
        rcases Nat.lt_or_ge i j with y | y
        · exact y
        · have := d2 i (by omega) i2; omega
      obtain ⟨l1, l2⟩ := ws_two p2 (p2 0) hc Z h.nn i j (by omega) 257
      obtain ⟨m1, m2⟩ := ws_two (fun _ => 1) 1 (fun _ => by omega) Z h.nn i j (by omega) 257
      rw [if_pos (by omega), if_pos (by omega)] at m1
      rw [if_pos (by omega), if_pos (by omega), if_pos (by omega), if_pos (by omega)] at l2
      rw [if_pos (by omega), if_pos (by omega)] at l1
      have hz : g Z i = 256 := by omega
      have hz2 : g Z j = 1 := by omega
      have hw : ws (fun _ => 1) Z 257 = 257 := by omega
      rw [hz, hz2, hkr] at l1
      rw [hz, hz2, hw, hkr] at l2
      rcases Nat.lt_or_ge 8 i with y | y
      · have := p2_hi y; have := p2_hi (i := j) (by omega); omega
      · have := p2_lo y; have := p2_pos j; omega
    · omega
end Go.Proofs.Ytomckpllbihikaa
