/-
  symMerge: what holds of the parts (plain).
-/
import Derived.Test.YtomckpllbihikaaS3b
set_option autoImplicit false
set_option linter.unusedSimpArgs false
set_option linter.unusedVariables false
namespace Go.Proofs.Ytomckpllbihikaa
open X

theorem half (x : Nat) : ((x : Int).fdiv (2 ^ min 1 IntKind.u64.bits)) = ((x / 2 : Nat) : Int) := by
  have : min 1 IntKind.u64.bits = 1 := by decide
  rw [this, Int.pow_one, Int.fdiv_eq_ediv_of_nonneg _ (by decide)]; rfl

/-- The places from a up to b rise by the key. -/
def Rise (K : Int → Int) (d : List Int) (a b : Nat) : Prop := ∀ i j, a ≤ i → i < j → j < b → K (g d i) < K (g d j)
/-- Between the places from a up to m and those from m up to b the comparison says what the key says. -/
def Agree (lt : Int → Int → Bool) (K : Int → Int) (d : List Int) (a m b : Nat) : Prop := ∀ i j, a ≤ i → i < m → m ≤ j → j < b → (lt (g d j) (g d i) = true ↔ K (g d j) < K (g d i)) ∧ K (g d j) ≠ K (g d i)

def MergePost (J : World → Prop) (D : Int → Prop) (K : Int → Int) (w : World) (bk n a b : Nat) (d : List Int) (rest : List Value) (r : Ending) (w' : World) : Prop :=
  r = .returned (.tuple #[]) ∧ ∃ Z : List Int, Own w' bk (Z.map (Value.int .i64) ++ rest).toArray ∧ Z.length = n ∧ Z.Perm d ∧ (∀ k, k < n → (k < a ∨ b ≤ k) → g Z k = g d k) ∧ Rise K Z a b ∧
    (∀ k, a ≤ k → k < b → ∃ q, a ≤ q ∧ q < b ∧ g Z k = g d q) ∧ (∀ k, k < n → D (g Z k)) ∧ J w' ∧ Fr (· = bk) w w'

/-- a moved up to place p, those between one down. -/
def upR (d : List Int) (a p k : Nat) : Int := if a ≤ k ∧ k < p then g d (k + 1) else if k = p then g d a else g d k
theorem upR_step {d z : List Int} {a p n : Nat} (ha : a ≤ p) (hp : p + 1 < n) (hl : z.length = n) (hz : ∀ k, k < n → g z k = upR d a p k) (k : Nat) (hk : k < n) : g (swp z p (p + 1)) k = upR d a (p + 1) k := by
  rw [swp_g _ _ _ _ (by omega) (by omega), hz k hk, hz p (by omega), hz (p + 1) (by omega)]
  unfold upR
  repeat' split
  all_goals first
    | (exfalso; omega)
    | rfl
    | (congr 1 <;> omega)
theorem up_rise {K : Int → Int} {d z : List Int} {a p b n : Nat} (hap : a ≤ p) (hpb : p < b) (hb : b ≤ n) (hz : ∀ k, k < n → g z k = upR d a p k) (h2 : Rise K d (a + 1) b)
    (h4 : ∀ q, a + 1 ≤ q → q < p + 1 → K (g d q) < K (g d a)) (h5 : ∀ q, p + 1 ≤ q → q < b → K (g d a) < K (g d q)) : Rise K z a b := by
  intro i j h1 hij hj
  rw [hz i (by omega), hz j (by omega)]
  unfold upR
  repeat' split
  all_goals first
    | (exfalso; omega)
    | (exact h2 _ _ (by omega) (by omega) (by omega))
    | (exact h4 _ (by omega) (by omega))
    | (exact h5 _ (by omega) (by omega))
    | (exact Int.lt_trans (h4 _ (by omega) (by omega)) (h5 _ (by omega) (by omega)))

/-- m moved down to place p, those between one up. -/
def dnR (d : List Int) (p m k : Nat) : Int := if p < k ∧ k ≤ m then g d (k - 1) else if k = p then g d m else g d k
theorem dnR_step {d z : List Int} {p m n : Nat} (hp : p + 1 ≤ m) (hm : m < n) (hl : z.length = n) (hz : ∀ k, k < n → g z k = dnR d (p + 1) m k) (k : Nat) (hk : k < n) : g (swp z (p + 1) p) k = dnR d p m k := by
  rw [swp_g _ _ _ _ (by omega) (by omega), hz k hk, hz p (by omega), hz (p + 1) (by omega)]
  unfold dnR
  repeat' split
  all_goals first
    | (exfalso; omega)
    | rfl
    | (congr 1 <;> omega)
theorem dn_rise {K : Int → Int} {d z : List Int} {a p m n : Nat} (hap : a ≤ p) (hpb : p ≤ m) (hb : m < n) (hz : ∀ k, k < n → g z k = dnR d p m k) (h1 : Rise K d a m)
    (h4 : ∀ q, a ≤ q → q < p → K (g d q) < K (g d m)) (h5 : ∀ q, p ≤ q → q < m → K (g d m) < K (g d q)) : Rise K z a (m + 1) := by
  intro i j h1' hij hj
  rw [hz i (by omega), hz j (by omega)]
  unfold dnR
  repeat' split
  all_goals first
    | (exfalso; omega)
    | (exact h1 _ _ (by omega) (by omega) (by omega))
    | (exact h4 _ (by omega) (by omega))
    | (exact h5 _ (by omega) (by omega))
    | (exact Int.lt_trans (h4 _ (by omega) (by omega)) (h5 _ (by omega) (by omega)))

/-- y has d's numbers, elsewhere than from a up to b in their places; what lies below mid is less than what lies from mid on. -/
structure Part (D : Int → Prop) (K : Int → Int) (d y : List Int) (n a mid b : Nat) : Prop where
  len : y.length = n
  perm : y.Perm d
  out : ∀ k, k < n → (k < a ∨ b ≤ k) → g y k = g d k
  mem : ∀ k, a ≤ k → k < b → ∃ q, a ≤ q ∧ q < b ∧ g y k = g d q
  dom : ∀ k, k < n → D (g y k)
  low : ∀ i j, a ≤ i → i < mid → mid ≤ j → j < b → K (g y i) < K (g y j)
theorem Part.left {D : Int → Prop} {K : Int → Int} {d y z : List Int} {n a mid b : Nat} (h : Part D K d y n a mid b) (hab : a ≤ mid ∧ mid ≤ b ∧ b ≤ n) (hl : z.length = n) (hp : z.Perm y) (ho : ∀ k, k < n → (k < a ∨ mid ≤ k) → g z k = g y k)
    (hm : ∀ k, a ≤ k → k < mid → ∃ q, a ≤ q ∧ q < mid ∧ g z k = g y q) (hD : ∀ k, k < n → D (g z k)) : Part D K d z n a mid b := by
  refine ⟨hl, hp.trans h.perm, fun k hk hx => ?_, fun k x1 x2 => ?_, hD, fun i j x1 x2 x3 x4 => ?_⟩
  · rw [ho k hk (by omega), h.out k hk hx]
  · rcases Nat.lt_or_ge k mid with y | y
    · obtain ⟨q, q1, q2, q3⟩ := hm k x1 y
      rw [q3]; exact h.mem q q1 (by omega)
    · rw [ho k (by omega) (.inr y)]; exact h.mem k x1 x2
  · obtain ⟨q, q1, q2, q3⟩ := hm i x1 x2
    rw [q3, ho j (by omega) (.inr x3)]
    exact h.low q j q1 q2 x3 x4
theorem Part.right {D : Int → Prop} {K : Int → Int} {d y z : List Int} {n a mid b : Nat} (h : Part D K d y n a mid b) (hab : a ≤ mid ∧ mid ≤ b ∧ b ≤ n) (hl : z.length = n) (hp : z.Perm y) (ho : ∀ k, k < n → (k < mid ∨ b ≤ k) → g z k = g y k)
    (hm : ∀ k, mid ≤ k → k < b → ∃ q, mid ≤ q ∧ q < b ∧ g z k = g y q) (hD : ∀ k, k < n → D (g z k)) : Part D K d z n a mid b := by
  refine ⟨hl, hp.trans h.perm, fun k hk hx => ?_, fun k x1 x2 => ?_, hD, fun i j x1 x2 x3 x4 => ?_⟩
  · rw [ho k hk (by omega), h.out k hk hx]
  · rcases Nat.lt_or_ge k mid with y | y
    · rw [ho k (by omega) (.inl y)]; exact h.mem k x1 x2
    · obtain ⟨q, q1, q2, q3⟩ := hm k y x2
      rw [q3]; exact h.mem q (by omega) q2
  · obtain ⟨q, q1, q2, q3⟩ := hm j x3 x4
    rw [q3, ho i (by omega) (.inl x2)]
    exact h.low i q x1 x2 q1 q2
theorem Part.rise {D : Int → Prop} {K : Int → Int} {d y : List Int} {n a mid b : Nat} (h : Part D K d y n a mid b) (h1 : Rise K y a mid) (h2 : Rise K y mid b) : Rise K y a b := by
  intro i j x1 x2 x3
  rcases Nat.lt_or_ge j mid with y | y
  · exact h1 i j x1 x2 y
  · rcases Nat.lt_or_ge i mid with z | z
    · exact h.low i j x1 z y x3
    · exact h2 i j z x2 x3
theorem Rise.same {K : Int → Int} {y z : List Int} {a b : Nat} (h : Rise K y a b) (he : ∀ k, a ≤ k → k < b → g z k = g y k) : Rise K z a b := fun i j x1 x2 x3 => by
  rw [he i x1 (by omega), he j (by omega) x3]; exact h i j x1 x2 x3
theorem Agree.same {lt : Int → Int → Bool} {K : Int → Int} {y z : List Int} {a m b : Nat} (hm : a ≤ m ∧ m ≤ b) (h : Agree lt K y a m b) (he : ∀ k, a ≤ k → k < b → g z k = g y k) : Agree lt K z a m b := fun i j x1 x2 x3 x4 => by
  rw [he i x1 (by omega), he j (by omega) x4]; exact h i j x1 x2 x3 x4

end Go.Proofs.Ytomckpllbihikaa
