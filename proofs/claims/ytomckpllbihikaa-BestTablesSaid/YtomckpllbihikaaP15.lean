/-
  The document's groups are the tree's roots (plain).
-/
import Derived.Test.YtomckpllbihikaaP4
set_option autoImplicit false
set_option linter.unusedSimpArgs false
set_option linter.unusedVariables false
namespace Go.Proofs.Ytomckpllbihikaa
open X

/-- The place of the least group but one, of the first n. -/
def rl (N F : Nat → Int) (but : Int) : Nat → Int
  | 0 => -1
  | n + 1 => if (n : Int) = but then rl N F but n else if rl N F but n < 0 ∨ N n < N (rl N F but n).toNat ∨ (N n = N (rl N F but n).toNat ∧ F (rl N F but n).toNat < F n) then (n : Int) else rl N F but n
theorem rl_ge (N F : Nat → Int) (but : Int) : ∀ n, -1 ≤ rl N F but n ∧ rl N F but n < n
  | 0 => by simp [rl]
  | n + 1 => by
    have := rl_ge N F but n
    simp only [rl]; split
    · omega
    · split <;> omega
theorem rl_spec (N F : Nat → Int) (but : Int) : ∀ n, (rl N F but n < 0 → ∀ p, p < n → (p : Int) = but) ∧
    (0 ≤ rl N F but n → rl N F but n ≠ but ∧ ∀ p, p < n → (p : Int) ≠ but → N (rl N F but n).toNat < N p ∨ (N (rl N F but n).toNat = N p ∧ F p ≤ F (rl N F but n).toNat))
  | 0 => ⟨fun _ p hp => absurd hp (Nat.not_lt_zero _), fun h => by simp [rl] at h⟩
  | n + 1 => by
    obtain ⟨i1, i2⟩ := rl_spec N F but n
    have hg := rl_ge N F but n
    simp only [rl]
    split
    · rename_i hb
      refine ⟨fun h p hp => ?_, fun h => ⟨(i2 h).1, fun p hp hpb => ?_⟩⟩
      · rcases Nat.lt_or_ge p n with y | y
        · exact i1 h p y
        · have : p = n := by omega
          rw [this]; exact hb
      · rcases Nat.lt_or_ge p n with y | y
        · exact (i2 h).2 p y hpb
        · exact absurd (by rw [show p = n by omega]; exact hb) hpb
    · rename_i hb
      split
      · rename_i hc
        refine ⟨fun h => by omega, fun _ => ⟨hb, fun p hp hpb => ?_⟩⟩
        rw [Int.toNat_natCast]
        rcases Nat.lt_or_ge p n with y | y
        · rcases Int.lt_or_le (rl N F but n) 0 with z | z
          · exact absurd (i1 z p y) hpb
          · have := (i2 z).2 p y hpb
            rcases hc with c | c | c <;> omega
        · rw [show p = n by omega]; exact .inr ⟨rfl, Int.le_refl _⟩
      · rename_i hc
        refine ⟨fun h => absurd (.inl h) hc, fun h => ⟨(i2 h).1, fun p hp hpb => ?_⟩⟩
        rcases Nat.lt_or_ge p n with y | y
        · exact (i2 h).2 p y hpb
        · rw [show p = n by omega]
          have h1 : ¬ N n < N (rl N F but n).toNat := fun x => hc (.inr (.inl x))
          have h2 : ¬ (N n = N (rl N F but n).toNat ∧ F (rl N F but n).toNat < F n) := fun x => hc (.inr (.inr x))
          omega

/-- R are the roots of m, each once. -/
structure Roots (m : List Int) (R : List Nat) : Prop where
  nod : R.Nodup
  mem : ∀ i, i ∈ R ↔ i < 257 ∧ 0 < g m i
def rAt (R : List Nat) (p : Nat) : Nat := R.getD p 0
theorem rAt_mem {R : List Nat} {p : Nat} (h : p < R.length) : rAt R p ∈ R := by
  simp only [rAt, List.getD_eq_getElem?_getD, List.getElem?_eq_getElem h, Option.getD_some]; exact List.getElem_mem h
theorem mem_rAt {R : List Nat} {x : Nat} (h : x ∈ R) : ∃ p, p < R.length ∧ rAt R p = x := by
  obtain ⟨p, hp, rfl⟩ := List.mem_iff_getElem.1 h
  exact ⟨p, hp, by simp [rAt, List.getD_eq_getElem?_getD, List.getElem?_eq_getElem hp]⟩
theorem rAt_inj {R : List Nat} (h : R.Nodup) {p q : Nat} (hp : p < R.length) (hq : q < R.length) (e : rAt R p = rAt R q) : p = q := by
  simp only [rAt, List.getD_eq_getElem?_getD, List.getElem?_eq_getElem hp, List.getElem?_eq_getElem hq, Option.getD_some] at e
  rcases Nat.lt_trichotomy p q with y | y | y
  · exact absurd e (List.pairwise_iff_getElem.1 h p q hp hq y)
  · exact y
  · exact absurd e.symm (List.pairwise_iff_getElem.1 h q p hq hp y)
/-- The least group is the least root. -/
theorem least_pos {m : List Int} {R : List Nat} (hR : Roots m R) {q bt : Int} (hq : ∀ p, p < R.length → ((p : Int) = q ↔ (rAt R p : Int) = bt)) (hex : ∃ p, p < R.length ∧ (p : Int) ≠ q) :
    0 ≤ rl (fun p => g m (rAt R p)) (fun p => rAt R p) q R.length ∧ (rAt R (rl (fun p => g m (rAt R p)) (fun p => rAt R p) q R.length).toNat : Int) = leastTo m bt 257 := by
  obtain ⟨s1, s2⟩ := rl_spec (fun p => g m (rAt R p)) (fun p => rAt R p) q R.length
  have sg := rl_ge (fun p => g m (rAt R p)) (fun p => rAt R p) q R.length
  obtain ⟨x, hx⟩ : ∃ x, rl (fun p => g m (rAt R p)) (fun p => rAt R p) q R.length = x := ⟨_, rfl⟩
  rw [hx] at s1 s2 sg ⊢
  obtain ⟨p, p1, p2⟩ := hex
  have hx0 : 0 ≤ x := by
    rcases Int.lt_or_le x 0 with y | y
    · exact absurd (s1 y p p1) p2
    · exact y
  refine ⟨hx0, ?_⟩
  obtain ⟨x1, x2⟩ := s2 hx0
  have hxl : x.toNat < R.length := by omega
  obtain ⟨t1, t2⟩ := least_spec m bt 257
  obtain ⟨y, hy⟩ : ∃ y, leastTo m bt 257 = y := ⟨_, rfl⟩
  rw [hy] at t1 t2 ⊢
  have hpm := (hR.mem _).1 (rAt_mem p1)
  have hy0 : 0 ≤ y := by
    rcases Int.lt_or_le y 0 with z | z
    · have := t1 z (rAt R p) hpm.1 (fun e => p2 ((hq p p1).2 e)); omega
    · exact z
  obtain ⟨y1, y2, y3, y4⟩ := t2 hy0
  obtain ⟨k, k1, k2⟩ := mem_rAt ((hR.mem y.toNat).2 ⟨y1, y2⟩)
  have hkq : (k : Int) ≠ q := fun e => y3 (by rw [← k2]; exact (hq k k1).1 e)
  have hxm := (hR.mem _).1 (rAt_mem hxl)
  have hxb : (rAt R x.toNat : Int) ≠ bt := fun e => x1 (by have := (hq x.toNat hxl).2 e; omega)
  have z1 := x2 k k1 hkq
  have z2 := y4 (rAt R x.toNat) hxm.1 hxb hxm.2
  (try dsimp only at z1)
  rw [k2] at z1
  omega

/-- The groups but two. -/
def keepR (R : List Nat) (pa pb : Nat) : Nat → List Nat
  | 0 => []
  | n + 1 => if n ≠ pa ∧ n ≠ pb then keepR R pa pb n ++ [rAt R n] else keepR R pa pb n
theorem keepR_mem {R : List Nat} {pa pb x : Nat} : ∀ n, x ∈ keepR R pa pb n ↔ ∃ p, p < n ∧ p ≠ pa ∧ p ≠ pb ∧ rAt R p = x
  | 0 => by simp [keepR]
  | n + 1 => by
    simp only [keepR]
    split
    · rename_i h
      rw [List.mem_append, keepR_mem n, List.mem_singleton]
      constructor
      · rintro (⟨p, h1, h2⟩ | h1)
        · exact ⟨p, by omega, h2⟩
        · exact ⟨n, by omega, h.1, h.2, h1.symm⟩
      · rintro ⟨p, h1, h2, h3, h4⟩
        rcases Nat.lt_or_ge p n with y | y
        · exact .inl ⟨p, y, h2, h3, h4⟩
        · obtain rfl : p = n := by omega
          exact .inr h4.symm
    · rename_i h
      rw [keepR_mem n]
      constructor
      · rintro ⟨p, h1, h2⟩; exact ⟨p, by omega, h2⟩
      · rintro ⟨p, h1, h2, h3, h4⟩
        rcases Nat.lt_or_ge p n with y | y
        · exact ⟨p, y, h2, h3, h4⟩
        · obtain rfl : p = n := by omega
          exact absurd ⟨h2, h3⟩ h
theorem keepR_nodup {R : List Nat} (hR : R.Nodup) {pa pb : Nat} : ∀ n, n ≤ R.length → (keepR R pa pb n).Nodup
  | 0, _ => by simp [keepR]
  | n + 1, h => by
    simp only [keepR]
    split
    · rw [List.nodup_append]
      refine ⟨keepR_nodup hR n (by omega), by simp, fun x hx y hy e => ?_⟩
      rw [List.mem_singleton] at hy
      obtain ⟨p, h1, h2, h3, h4⟩ := (keepR_mem n).1 hx
      have := rAt_inj hR (by omega) (by omega) (h4.trans (e.trans hy))
      omega
    · exact keepR_nodup hR n (by omega)
theorem keepR_len {R : List Nat} {pa pb : Nat} (hab : pa ≠ pb) : ∀ n, (keepR R pa pb n).length + (if pa < n then 1 else 0) + (if pb < n then 1 else 0) = n
  | 0 => by simp [keepR]
  | n + 1 => by
    have ih := keepR_len (R := R) hab n
    simp only [keepR]
    split
    · rename_i h
      rw [List.length_append, List.length_singleton]
      rcases Nat.lt_trichotomy pa n with a | a | a
      · rcases Nat.lt_trichotomy pb n with b | b | b
        · rw [if_pos a, if_pos b] at ih; rw [if_pos (by omega), if_pos (by omega)]; omega
        · exact absurd b.symm h.2
        · rw [if_pos a, if_neg (by omega)] at ih; rw [if_pos (by omega), if_neg (by omega)]; omega
      · exact absurd a.symm h.1
      · rcases Nat.lt_trichotomy pb n with b | b | b
        · rw [if_neg (by omega), if_pos b] at ih; rw [if_neg (by omega), if_pos (by omega)]; omega
        · exact absurd b.symm h.2
        · rw [if_neg (by omega), if_neg (by omega)] at ih; rw [if_neg (by omega), if_neg (by omega)]; omega
    · rename_i h
      rcases Nat.decEq pa n with a | a
      · rcases Nat.decEq pb n with b | b
        · exact absurd ⟨fun e => a e.symm, fun e => b e.symm⟩ h
        · subst b
          rw [if_neg (Nat.lt_irrefl _)] at ih
          rw [if_pos (Nat.lt_succ_self _)]
          rcases Nat.lt_or_ge pa pb with y | y
          · rw [if_pos y] at ih; rw [if_pos (by omega)]; omega
          · rw [if_neg (by omega)] at ih; rw [if_neg (by omega)]; omega
      · subst a
        rw [if_neg (Nat.lt_irrefl _)] at ih
        rw [if_pos (Nat.lt_succ_self _)]
        rcases Nat.lt_or_ge pb pa with y | y
        · rw [if_pos y] at ih; rw [if_pos (by omega)]; omega
        · rw [if_neg (by omega)] at ih; rw [if_neg (by omega)]; omega
/-- Two roots are merged. -/
theorem Roots.step {m m' : List Int} {R : List Nat} (h : Roots m R) {pa pb : Nat} (ha : pa < R.length) (hb : pb < R.length) (hab : pa ≠ pb)
    (hm : ∀ k, k < 257 → g m' k = if k = rAt R pb then 0 else if k = rAt R pa then g m (rAt R pa) + g m (rAt R pb) else g m k) : Roots m' (keepR R pa pb R.length ++ [rAt R pa]) := by
  have la := (h.mem _).1 (rAt_mem ha)
  have lb := (h.mem _).1 (rAt_mem hb)
  have hne : rAt R pa ≠ rAt R pb := fun e => hab (rAt_inj h.nod ha hb e)
  refine ⟨?_, fun i => ?_⟩
  · rw [List.nodup_append]
    refine ⟨keepR_nodup h.nod _ (Nat.le_refl _), by simp, fun x hx y hy e => ?_⟩
    rw [List.mem_singleton] at hy
    obtain ⟨p, h1, h2, h3, h4⟩ := (keepR_mem _).1 hx
    exact h2 (rAt_inj h.nod h1 ha (h4.trans (e.trans hy)))
  · rw [List.mem_append, keepR_mem, List.mem_singleton]
    constructor
    · rintro (⟨p, h1, h2, h3, h4⟩ | rfl)
      · have lp := (h.mem _).1 (rAt_mem h1)
        rw [← h4]
        refine ⟨lp.1, ?_⟩
        rw [hm _ lp.1, if_neg (fun e => h3 (rAt_inj h.nod h1 hb e)), if_neg (fun e => h2 (rAt_inj h.nod h1 ha e))]
        exact lp.2
      · refine ⟨la.1, ?_⟩
        rw [hm _ la.1, if_neg hne, if_pos rfl]; omega
    · rintro ⟨i1, i2⟩
      rw [hm i i1] at i2
      split at i2
      · omega
      · rename_i e1
        split at i2
        · rename_i e2; exact .inr e2
        · rename_i e2
          obtain ⟨p, p1, p2⟩ := mem_rAt ((h.mem i).2 ⟨i1, i2⟩)
          exact .inl ⟨p, p1, fun e => e2 (by rw [← p2, e]), fun e => e1 (by rw [← p2, e]), p2⟩
end Go.Proofs.Ytomckpllbihikaa
