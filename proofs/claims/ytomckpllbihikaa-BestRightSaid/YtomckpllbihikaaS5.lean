/-
  Insertion sort sorts (plain).
-/
import Derived.Test.YtomckpllbihikaaS4
set_option autoImplicit false
set_option linter.unusedSimpArgs false
set_option linter.unusedVariables false
namespace Go.Proofs.Ytomckpllbihikaa
open X

/-- What comes later is more as a number; and of such pairs the comparison says what the key says. -/
def Tells (D : Int → Prop) (lt : Int → Int → Bool) (K : Int → Int) : Prop := ∀ x y, D x → D y → y < x → (lt x y = true ↔ K x < K y) ∧ K x ≠ K y

/-- The places from a up to b of z hold o's numbers there, rising by the key. -/
structure Seg (K : Int → Int) (o z : List Int) (a b : Nat) : Prop where
  rise : Rise K z a b
  mem : ∀ k, a ≤ k → k < b → ∃ q, a ≤ q ∧ q < b ∧ g z k = g o q

theorem insDown_perm (lt : Int → Int → Bool) (a : Nat) : ∀ (j : Nat) (d : List Int), j < d.length → (insDown lt a d j).Perm d
  | 0, d, _ => .refl _
  | j + 1, d, hj => by
    simp only [insDown]; split
    · exact (insDown_perm lt a j _ (by rw [swp_len]; omega)).trans (swp_perm _ _ _ (by omega) (by omega))
    · exact .refl _

theorem insDown_is {D : Int → Prop} {lt : Int → Int → Bool} {K : Int → Int} (ht : Tells D lt K) {d : List Int} {a i n : Nat} (hn : d.length = n) (hi : i < n) (hD : ∀ k, k < n → D (g d k)) (hlt : ∀ q, a ≤ q → q < i → g d q < g d i) :
    ∀ (j : Nat) (z : List Int), z.length = n → a ≤ j → j ≤ i → (∀ k, k < n → g z k = dnR d j i k) → (∀ q, j ≤ q → q < i → K (g d i) < K (g d q)) →
      ∃ p, a ≤ p ∧ p ≤ i ∧ (∀ k, k < n → g (insDown lt a z j) k = dnR d p i k) ∧ (∀ q, p ≤ q → q < i → K (g d i) < K (g d q)) ∧ (a < p → K (g d (p - 1)) < K (g d i)) := by
  intro j
  induction j with
  | zero => intro z hl h1 h2 hz h3; exact ⟨0, h1, h2, hz, h3, fun h => by omega⟩
  | succ j ih =>
    intro z hl h1 h2 hz h3
    simp only [insDown]
    have e1 : g z (j + 1) = g d i := by rw [hz _ (by omega)]; unfold dnR; rw [if_neg (by omega), if_pos rfl]
    have e2 : g z j = g d j := by rw [hz _ (by omega)]; unfold dnR; rw [if_neg (by omega), if_neg (by omega)]
    rw [e1, e2]
    split
    · rename_i hc
      have ⟨t1, t2⟩ := ht _ _ (hD i hi) (hD j (by omega)) (hlt j (by omega) (by omega))
      refine ih (swp z (j + 1) j) (by rw [swp_len]; exact hl) (by omega) (by omega) (fun k hk => dnR_step (by omega) hi hl hz k hk) (fun q x1 x2 => ?_)
      rcases Nat.lt_or_ge j q with y | y
      · exact h3 q y x2
      · have : q = j := by omega
        subst this; exact t1.1 hc.2
    · rename_i hc
      refine ⟨j + 1, h1, h2, hz, h3, fun h => ?_⟩
      have ⟨t1, t2⟩ := ht _ _ (hD i hi) (hD j (by omega)) (hlt j (by omega) (by omega))
      have : ¬ K (g d i) < K (g d j) := fun x => hc ⟨h, t1.2 x⟩
      have e3 : j + 1 - 1 = j := by omega
      rw [e3]; omega

theorem insTo_is {D : Int → Prop} {lt : Int → Int → Bool} {K : Int → Int} (ht : Tells D lt K) {o : List Int} {a e n : Nat} (ho : o.length = n) (he : e ≤ n) (hD : ∀ k, k < n → D (g o k)) (hup : ∀ i j, a ≤ i → i < j → j < e → g o i < g o j) :
    ∀ (k i : Nat) (z : List Int), z.length = n → z.Perm o → a < i → i + k = e → (∀ q, q < n → (q < a ∨ i ≤ q) → g z q = g o q) → Seg K o z a i →
      (insTo lt a k z i).length = n ∧ (insTo lt a k z i).Perm o ∧ (∀ q, q < n → (q < a ∨ e ≤ q) → g (insTo lt a k z i) q = g o q) ∧ Seg K o (insTo lt a k z i) a e := by
  intro k
  induction k with
  | zero => intro i z hl hp hi hk hq hs; obtain rfl : i = e := by omega
            exact ⟨hl, hp, hq, hs⟩
  | succ k ih =>
    intro i z hl hp hi hk hq hs
    simp only [insTo]
    have hzD : ∀ q, q < n → ∃ r, r < n ∧ g z q = g o r := by
      intro q hqn
      rcases Nat.lt_or_ge q a with x | x
      · exact ⟨q, hqn, hq q hqn (.inl x)⟩
      rcases Nat.lt_or_ge q i with y | y
      · obtain ⟨r, r1, r2, r3⟩ := hs.mem q x y; exact ⟨r, by omega, r3⟩
      · exact ⟨q, hqn, hq q hqn (.inr y)⟩
    have hi' : g z i = g o i := hq i (by omega) (.inr (Nat.le_refl _))
    obtain ⟨p, p1, p2, p3, p4, p5⟩ := insDown_is ht hl (by omega) (fun q hqn => by obtain ⟨r, r1, r2⟩ := hzD q hqn; rw [r2]; exact hD r r1) (fun q x1 x2 => by
        obtain ⟨r, r1, r2, r3⟩ := hs.mem q x1 x2
        rw [r3, hi']; exact hup r i r1 r2 (by omega)) i z hl (by omega) (Nat.le_refl _) (fun q hqn => by
        unfold dnR; rw [if_neg (by omega)]; split
        · rename_i h; rw [h]
        · rfl) (fun q x1 x2 => by omega)
    refine ih (i + 1) _ (by rw [insDown_len]; exact hl) ((insDown_perm lt a i z (by omega)).trans hp) (by omega) (by omega) (fun q hqn x => ?_) ⟨?_, fun q x1 x2 => ?_⟩
    · rw [p3 q hqn]; unfold dnR; rw [if_neg (by omega), if_neg (by omega)]; exact hq q hqn (by omega)
    · refine dn_rise p1 p2 (by omega) p3 hs.rise (fun q x1 x2 => ?_) p4
      have h5 := p5 (by omega)
      rcases Nat.lt_or_ge q (p - 1) with y | y
      · exact Int.lt_trans (hs.rise q (p - 1) x1 y (by omega)) h5
      · have : q = p - 1 := by omega
        subst this; exact h5
    · rw [p3 q (by omega)]; unfold dnR
      split
      · obtain ⟨r, r1, r2, r3⟩ := hs.mem (q - 1) (by omega) (by omega)
        exact ⟨r, r1, by omega, r3⟩
      split
      · exact ⟨i, by omega, by omega, hi'⟩
      · obtain ⟨r, r1, r2, r3⟩ := hs.mem q x1 (by omega)
        exact ⟨r, r1, by omega, r3⟩

/-- Insertion sort of the places from a up to e, as they were at first. -/
theorem insTo_seg {D : Int → Prop} {lt : Int → Int → Bool} {K : Int → Int} (ht : Tells D lt K) {o z : List Int} {a e n : Nat} (ho : o.length = n) (hz : z.length = n) (he : e ≤ n) (ha : a ≤ e) (hp : z.Perm o) (hD : ∀ k, k < n → D (g z k)) (hup : ∀ i j, a ≤ i → i < j → j < e → g z i < g z j) (hzo : ∀ q, a ≤ q → q < e → g z q = g o q) :
    (insTo lt a (e - (a + 1)) z (a + 1)).length = n ∧ (insTo lt a (e - (a + 1)) z (a + 1)).Perm o ∧ (∀ q, q < n → (q < a ∨ e ≤ q) → g (insTo lt a (e - (a + 1)) z (a + 1)) q = g z q) ∧ Seg K o (insTo lt a (e - (a + 1)) z (a + 1)) a e := by
  rcases Nat.eq_or_lt_of_le ha with h | h
  · subst h
    have e1 : a - (a + 1) = 0 := by omega
    rw [e1]; simp only [insTo]
    exact ⟨hz, hp, fun _ _ _ => trivial, ⟨fun i j _ _ _ => by omega, fun k _ _ => by omega⟩⟩
  · obtain ⟨h1, h2, h3, h4⟩ := insTo_is ht hz he hD hup (e - (a + 1)) (a + 1) z hz (.refl _) (by omega) (by omega) (fun _ _ _ => rfl) ⟨fun i j _ _ _ => by omega, fun k x1 x2 => ⟨k, x1, x2, rfl⟩⟩
    refine ⟨h1, h2.trans hp, h3, h4.rise, fun k x1 x2 => ?_⟩
    obtain ⟨q, q1, q2, q3⟩ := h4.mem k x1 x2
    exact ⟨q, q1, q2, by rw [q3, hzo q q1 q2]⟩

theorem Seg.same {K : Int → Int} {o y z : List Int} {a b : Nat} (h : Seg K o y a b) (he : ∀ k, a ≤ k → k < b → g z k = g y k) : Seg K o z a b :=
  ⟨h.rise.same he, fun k x1 x2 => by rw [he k x1 x2]; exact h.mem k x1 x2⟩
/-- Two parts, one behind the other, may be merged. -/
theorem Seg.agree {D : Int → Prop} {lt : Int → Int → Bool} {K : Int → Int} (ht : Tells D lt K) {o z : List Int} {a m b n : Nat} (hD : ∀ k, k < n → D (g o k)) (hup : ∀ i j, i < j → j < n → g o i < g o j) (hb : b ≤ n) (h1 : Seg K o z a m) (h2 : Seg K o z m b) : Agree lt K z a m b := by
  intro i j x1 x2 x3 x4
  obtain ⟨p, p1, p2, p3⟩ := h1.mem i x1 x2
  obtain ⟨q, q1, q2, q3⟩ := h2.mem j x3 x4
  rw [p3, q3]
  exact ht _ _ (hD q (by omega)) (hD p (by omega)) (hup p q (by omega) (by omega))
end Go.Proofs.Ytomckpllbihikaa
