/-
  Layer 6, plain: lengths of at most 16. No program.
-/
import Derived.Test.YtomckpllbihikaaP1
set_option autoImplicit false
set_option linter.unusedSimpArgs false
set_option linter.unusedVariables false
namespace Go.Proofs.Ytomckpllbihikaa
open X

def upd (n : List Int) (i : Nat) (d : Int) : List Int := n.set i (g n i + d)
theorem upd_len (n : List Int) (i : Nat) (d : Int) : (upd n i d).length = n.length := by simp [upd]
theorem upd_g (n : List Int) (i k : Nat) (d : Int) (h : i < n.length) : g (upd n i d) k = if k = i then g n k + d else g n k := by
  rw [upd, g_set _ _ _ _ h]
  by_cases e : i = k
  · subst e; simp
  · rw [if_neg e, if_neg (Ne.symm e)]
/-- The last place from j on, downwards, that is not 0. -/
def down (n : List Int) : Nat → Nat
  | 0 => 0
  | j + 1 => if g n (j + 1) = 0 then down n j else j + 1
def shStep (n : List Int) (l : Nat) : List Int := upd (upd (upd (upd n l (-2)) (l - 1) 1) (down n (l - 2) + 1) 2) (down n (l - 2)) (-1)
def shW : Nat → List Int → Nat → List Int
  | 0, n, _ => n
  | f + 1, n, l => if 0 < g n l then shW f (shStep n l) l else n
def shT : Nat → List Int → List Int
  | 0, n => n
  | k + 1, n => shT k (shW 300 n (k + 17))
def shLast (n : List Int) : List Int := upd n (down n 16) (-1)

def ws (c : Nat → Int) (n : List Int) : Nat → Int
  | 0 => 0
  | k + 1 => ws c n k + c k * g n k
theorem ws_upd (c : Nat → Int) (n : List Int) (i : Nat) (d : Int) (h : i < n.length) (k : Nat) : ws c (upd n i d) k = ws c n k + (if i < k then c i * d else 0) := by
  induction k with
  | zero => simp [ws]
  | succ k ih =>
    simp only [ws, ih, upd_g n i k d h]
    by_cases e : k = i
    · subst e; simp; rw [Int.mul_add, Int.add_assoc]
    · rw [if_neg e]
      by_cases h2 : i < k
      · rw [if_pos h2, if_pos (by omega)]; omega
      · rw [if_neg h2, if_neg (by omega)]; omega
def p2 (i : Nat) : Int := 2 ^ (256 - i)
theorem p2_half {i : Nat} (h : i < 256) : p2 i = 2 * p2 (i + 1) := by
  unfold p2
  have : 256 - i = (256 - (i + 1)) + 1 := by omega
  rw [this, Int.pow_succ]; omega
theorem p2_pos (i : Nat) : 0 < p2 i := by unfold p2; exact Int.pow_pos (by decide)

theorem down_le (n : List Int) (j : Nat) : down n j ≤ j := by
  induction j with
  | zero => simp [down]
  | succ j ih => simp only [down]; split <;> omega
theorem down_spec (n : List Int) : ∀ (j : Nat), (∃ i, i ≤ j ∧ g n i ≠ 0) → g n (down n j) ≠ 0 ∧ ∀ i, down n j < i → i ≤ j → g n i = 0
  | 0, ⟨i, hi, h⟩ => by
    have : i = 0 := by omega
    subst this; exact ⟨h, fun k h1 h2 => by simp only [down] at h1; omega⟩
  | j + 1, ⟨i, hi, h⟩ => by
    simp only [down]
    split
    · rename_i h0
      have h1 : i ≤ j := by
        rcases Nat.lt_or_ge j i with h2 | h2
        · have : i = j + 1 := by omega
          subst this; exact absurd h0 h
        · exact h2
      obtain ⟨h3, h4⟩ := down_spec n j ⟨i, h1, h⟩
      refine ⟨h3, fun k hk hk2 => ?_⟩
      rcases Nat.lt_or_ge j k with h5 | h5
      · have : k = j + 1 := by omega
        subst this; exact h0
      · exact h4 k hk h5
    · rename_i h0
      exact ⟨h0, fun k h1 h2 => by omega⟩

/-- What is so of the numbers of lengths: none is longer than l. -/
structure SH (n : List Int) (l : Nat) : Prop where
  len : n.length = 257
  nn : ∀ i, 0 ≤ g n i
  z : g n 0 = 0
  up : ∀ i, l < i → g n i = 0
  tot : ws (fun _ => 1) n 257 ≤ 257
  kr : ws p2 n 257 = p2 0

theorem ws_zero (c : Nat → Int) (n : List Int) : ∀ (a k : Nat), (∀ i, a ≤ i → i < a + k → g n i = 0) → ws c n (a + k) = ws c n a
  | a, 0, _ => rfl
  | a, k + 1, h => by
    have := ws_zero c n a k fun i h1 h2 => h i h1 (by omega)
    show ws c n (a + k) + c (a + k) * g n (a + k) = _
    rw [this, h (a + k) (by omega) (by omega)]; simp
theorem ws_low (c : Nat → Int) (n : List Int) : ∀ (k : Nat), (∀ i, i < k → g n i = 0) → ws c n k = 0
  | 0, _ => rfl
  | k + 1, h => by
    show ws c n k + c k * g n k = _
    rw [ws_low c n k fun i hi => h i (by omega), h k (by omega)]; simp
theorem ws_nn (n : List Int) (h : ∀ i, 0 ≤ g n i) : ∀ k, 0 ≤ ws (fun _ => 1) n k
  | 0 => Int.le_refl _
  | k + 1 => by have := ws_nn n h k; have := h k; show 0 ≤ ws _ n k + 1 * g n k; omega
theorem ws_le (n : List Int) (h : ∀ i, 0 ≤ g n i) (i : Nat) : ∀ k, i < k → g n i ≤ ws (fun _ => 1) n k
  | 0, h1 => by omega
  | k + 1, h1 => by
    show _ ≤ ws _ n k + 1 * g n k
    have h3 := h k
    rcases Nat.lt_or_ge i k with h2 | h2
    · have := ws_le n h i k h2; omega
    · have : i = k := by omega
      subst this; have := ws_nn n h i; omega
theorem ws_dvd (n : List Int) (l : Nat) (hl : 1 ≤ l) (h : l ≤ 256) : ∀ k, k ≤ l → ∃ q, ws p2 n k = 2 * p2 l * q
  | 0, _ => ⟨0, by simp [ws]⟩
  | k + 1, hk => by
    obtain ⟨q, hq⟩ := ws_dvd n l hl h k (by omega)
    refine ⟨q + 2 ^ (l - 1 - k) * g n k, ?_⟩
    show ws p2 n k + p2 k * g n k = _
    have : p2 k = 2 * p2 l * 2 ^ (l - 1 - k) := by
      unfold p2
      have e : 256 - k = 1 + (256 - l) + (l - 1 - k) := by omega
      rw [e, Int.pow_add, Int.pow_add]; rfl
    rw [hq, this, Int.mul_add, Int.mul_assoc (2 * p2 l)]

theorem SH.cut {n : List Int} {l : Nat} (h : SH n l) (h2 : l ≤ 256) : ws p2 n 257 = ws p2 n l + p2 l * g n l := by
  have : 257 = (l + 1) + (256 - l) := by omega
  rw [this, ws_zero p2 n (l + 1) (256 - l) fun i h1 _ => h.up i (by omega)]
  rfl
theorem SH.even {n : List Int} {l : Nat} (h : SH n l) (h1 : 1 ≤ l) (h2 : l ≤ 256) : ∃ q, g n l = 2 * q := by
  obtain ⟨q, hq⟩ := ws_dvd n l h1 h2 l (Nat.le_refl _)
  have hk := h.kr
  rw [h.cut h2, hq] at hk
  have e0 : p2 0 = p2 l * (2 * 2 ^ (l - 1)) := by
    unfold p2
    have e : 256 - 0 = (256 - l) + (1 + (l - 1)) := by omega
    rw [e, Int.pow_add, Int.pow_add 2 1]; rfl
  rw [e0] at hk
  have hp := p2_pos l
  have e1 : p2 l * (2 * q + g n l) = p2 l * (2 * 2 ^ (l - 1)) := by
    rw [← hk, Int.mul_add]
    congr 1
    rw [Int.mul_comm 2 (p2 l), Int.mul_assoc]
  have e2 := Int.eq_of_mul_eq_mul_left (by omega) e1
  exact ⟨2 ^ (l - 1) - q, by omega⟩
theorem SH.has {n : List Int} {l : Nat} (h : SH n l) (h1 : 17 ≤ l) (h2 : l ≤ 256) (hp : 0 < g n l) : ∃ i, i ≤ l - 2 ∧ g n i ≠ 0 := by
  refine Classical.byContradiction fun hc => ?_
  have hz : ∀ i, i < l - 1 → g n i = 0 := fun i hi => Classical.byContradiction fun hx => hc ⟨i, by omega, hx⟩
  have hk := h.kr
  rw [h.cut h2] at hk
  obtain ⟨k, rfl⟩ : ∃ k, l = k + 1 := ⟨l - 1, by omega⟩
  have e1 : ws p2 n (k + 1) = p2 k * g n k := by show ws p2 n k + _ = _; rw [ws_low p2 n k fun i hi => hz i (by omega)]; omega
  have ht := h.tot
  have t1 := ws_le n h.nn (k + 1) 257 (by omega)
  have t2 : g n k ≤ 257 := by have := ws_le n h.nn k 257 (by omega); omega
  rw [e1, p2_half (by omega)] at hk
  have e0 : p2 0 = p2 (k + 1) * 2 ^ (k + 1) := by
    unfold p2
    have e : 256 - 0 = (256 - (k + 1)) + (k + 1) := by omega
    rw [e, Int.pow_add]
  rw [e0] at hk
  have hp := p2_pos (k + 1)
  have e3 : p2 (k + 1) * (2 * g n k + g n (k + 1)) = p2 (k + 1) * 2 ^ (k + 1) := by
    rw [← hk, Int.mul_add, Int.mul_comm 2 (p2 (k + 1)), Int.mul_assoc]
  have e4 := Int.eq_of_mul_eq_mul_left (by omega) e3
  have e5 : (2 : Int) ^ 17 ≤ 2 ^ (k + 1) := by
    have : k + 1 = 17 + (k + 1 - 17) := by omega
    rw [this, Int.pow_add]
    have : (1 : Int) ≤ 2 ^ (k + 1 - 17) := by have := @Int.pow_pos 2 (k + 1 - 17) (by decide); omega
    have h17 : (2 : Int) ^ 17 = 131072 := by decide
    rw [h17]; omega
  have h17 : (2 : Int) ^ 17 = 131072 := by decide
  omega

theorem sh_step {n : List Int} {l : Nat} (h : SH n l) (h1 : 17 ≤ l) (h2 : l ≤ 256) (hp : 0 < g n l) :
    SH (shStep n l) l ∧ g (shStep n l) l = g n l - 2 ∧ 0 < down n (l - 2) ∧ down n (l - 2) ≤ l - 2 ∧ 0 < g n (down n (l - 2)) := by
  obtain ⟨hj, _⟩ := down_spec n (l - 2) (h.has h1 h2 hp)
  have hle := down_le n (l - 2)
  obtain ⟨q, hq⟩ := h.even (by omega) h2
  have hj0 : 0 < down n (l - 2) := by
    rcases Nat.eq_zero_or_pos (down n (l - 2)) with e | e
    · rw [e] at hj; exact absurd h.z hj
    · exact e
  have hjp : 0 < g n (down n (l - 2)) := by have := h.nn (down n (l - 2)); omega
  unfold shStep
  generalize down n (l - 2) = j at *
  have len := h.len
  have G : ∀ k, g (upd (upd (upd (upd n l (-2)) (l - 1) 1) (j + 1) 2) j (-1)) k = g n k + (if k = l then -2 else 0) + (if k = l - 1 then 1 else 0) + (if k = j + 1 then 2 else 0) + (if k = j then -1 else 0) := by
    intro k
    rw [upd_g _ _ _ _ (by simp [upd_len]; omega), upd_g _ _ _ _ (by simp [upd_len]; omega), upd_g _ _ _ _ (by simp [upd_len]; omega), upd_g _ _ _ _ (by omega)]
    repeat' split
    all_goals omega
  have W : ∀ c : Nat → Int, ws c (upd (upd (upd (upd n l (-2)) (l - 1) 1) (j + 1) 2) j (-1)) 257 = ws c n 257 + c l * (-2) + c (l - 1) * 1 + c (j + 1) * 2 + c j * (-1) := by
    intro c
    rw [ws_upd _ _ _ _ (by simp [upd_len]; omega), ws_upd _ _ _ _ (by simp [upd_len]; omega), ws_upd _ _ _ _ (by simp [upd_len]; omega), ws_upd _ _ _ _ (by omega)]
    rw [if_pos (by omega), if_pos (by omega), if_pos (by omega), if_pos (by omega)]
  refine ⟨⟨by simp [upd_len, len], fun i => ?_, ?_, fun i hi => ?_, ?_, ?_⟩, ?_, hj0, hle, hjp⟩
  · rw [G]
    have := h.nn i
    have : i = j → 0 < g n i := fun e => e ▸ hjp
    have : i = l → 2 ≤ g n i := fun e => by subst e; omega
    repeat' split
    all_goals omega
  · rw [G, if_neg (by omega), if_neg (by omega), if_neg (by omega), if_neg (by omega)]; have := h.z; omega
  · rw [G, if_neg (by omega), if_neg (by omega), if_neg (by omega), if_neg (by omega)]; have := h.up i hi; omega
  · rw [W]; have := h.tot; omega
  · rw [W, h.kr]
    have a1 := @p2_half (l - 1) (by omega)
    have a2 := @p2_half j (by omega)
    have a3 : l - 1 + 1 = l := by omega
    rw [a3] at a1
    omega
  · rw [G, if_pos rfl, if_neg (by omega), if_neg (by omega), if_neg (by omega)]; omega
end Go.Proofs.Ytomckpllbihikaa
