/-
  The tree is the best one; under few symbols it is not deep (plain).
-/
import Derived.Test.YtomckpllbihikaaP10
set_option autoImplicit false
set_option linter.unusedSimpArgs false
set_option linter.unusedVariables false
namespace Go.Proofs.Ytomckpllbihikaa
open X

/-- A sum over the first n places. -/
def Sm (φ : Nat → Int) : Nat → Int
  | 0 => 0
  | n + 1 => Sm φ n + φ n
theorem Sm_congr {φ ψ : Nat → Int} : ∀ n, (∀ k, k < n → ψ k = φ k) → Sm ψ n = Sm φ n
  | 0, _ => rfl
  | n + 1, h => by simp only [Sm]; rw [Sm_congr n fun k hk => h k (by omega), h n (by omega)]
theorem Sm_one {φ ψ : Nat → Int} {i : Nat} : ∀ n, (∀ k, k < n → k ≠ i → ψ k = φ k) → Sm ψ n = Sm φ n + if i < n then ψ i - φ i else 0
  | 0, _ => by simp [Sm]
  | n + 1, h => by
    simp only [Sm]
    rw [Sm_one n fun k hk => h k (by omega)]
    rcases Nat.lt_trichotomy i n with a | a | a
    · rw [if_pos a, if_pos (by omega), h n (by omega) (by omega)]; omega
    · subst a; rw [if_neg (by omega), if_pos (by omega)]; omega
    · rw [if_neg (by omega), if_neg (by omega), h n (by omega) (by omega)]; omega
theorem Sm_two {φ ψ : Nat → Int} {i j n : Nat} (hi : i < n) (hj : j < n) (hij : i ≠ j) (h : ∀ k, k < n → k ≠ i → k ≠ j → ψ k = φ k) : Sm ψ n = Sm φ n + (ψ i - φ i) + (ψ j - φ j) := by
  have h1 := Sm_one (φ := φ) (ψ := fun k => if k = i then ψ i else φ k) (i := i) n (fun k _ hk => if_neg hk)
  have h2 := Sm_one (φ := fun k => if k = i then ψ i else φ k) (ψ := ψ) (i := j) n (fun k hk hj => by
    (try dsimp only); split
    · rename_i e; rw [e]
    · rename_i e; exact h k hk e hj)
  rw [if_pos hi, if_pos rfl] at h1
  rw [if_pos hj, if_neg hij.symm] at h2
  omega
theorem Sm_le {φ ψ : Nat → Int} : ∀ n, (∀ k, k < n → φ k ≤ ψ k) → Sm φ n ≤ Sm ψ n
  | 0, _ => Int.le_refl _
  | n + 1, h => by
    have h1 := Sm_le n fun k hk => h k (by omega)
    have h2 := h n (by omega)
    simp only [Sm]; omega
theorem Sm_nn {φ : Nat → Int} (n : Nat) (h : ∀ k, k < n → 0 ≤ φ k) : 0 ≤ Sm φ n := by
  have := Sm_le (φ := fun _ => 0) n h
  have h0 : Sm (fun _ => 0) n = 0 := by
    clear this h
    induction n with
    | zero => rfl
    | succ n ih => simp only [Sm, ih]; rfl
  omega
theorem Sm_at {φ : Nat → Int} {i : Nat} : ∀ n, (∀ k, k < n → 0 ≤ φ k) → i < n → φ i ≤ Sm φ n
  | 0, _, h => absurd h (Nat.not_lt_zero _)
  | n + 1, h, hi => by
    simp only [Sm]
    rcases Nat.lt_or_ge i n with a | a
    · have := Sm_at n (fun k hk => h k (by omega)) a
      have := h n (by omega); omega
    · obtain rfl : i = n := by omega
      have := Sm_nn i fun k hk => h k (by omega); omega
theorem Sm_dvd {φ : Nat → Int} (q : Int) : ∀ n, (∀ k, k < n → ∃ c, φ k = q * c) → ∃ c, Sm φ n = q * c
  | 0, _ => ⟨0, by simp [Sm]⟩
  | n + 1, h => by
    obtain ⟨c, hc⟩ := Sm_dvd q n fun k hk => h k (by omega)
    obtain ⟨d, hd⟩ := h n (by omega)
    exact ⟨c + d, by simp only [Sm]; rw [hc, hd, Int.mul_add]⟩

/-- The lengths l fit the weights W: of which those that are more than 0 count. -/
def kt (W : Nat → Int) (l : Nat → Nat) (i : Nat) : Int := if 0 < W i then p2 (l i) else 0
structure Fits2 (W : Nat → Int) (l : Nat → Nat) : Prop where
  le : ∀ i, i < 257 → 0 < W i → l i ≤ 256
  kr : Sm (kt W l) 257 ≤ p2 0
def co (W : Nat → Int) (l : Nat → Nat) : Int := Sm (fun i => W i * l i) 257
theorem kt_nn (W : Nat → Int) (l : Nat → Nat) (k : Nat) : 0 ≤ kt W l k := by
  unfold kt; split
  · exact Int.le_of_lt (p2_pos _)
  · exact Int.le_refl _

def swf (l : Nat → Nat) (i j k : Nat) : Nat := if k = i then l j else if k = j then l i else l k
theorem swf_fits {W : Nat → Int} {l : Nat → Nat} (h : Fits2 W l) {i j : Nat} (hi : i < 257) (hj : j < 257) (pi : 0 < W i) (pj : 0 < W j) (hW : W i ≤ W j) (hl : l i ≤ l j) : Fits2 W (swf l i j) ∧ co W (swf l i j) ≤ co W l := by
  rcases Nat.decEq i j with hij | hij
  · have e1 : swf l i j i = l j := by unfold swf; rw [if_pos rfl]
    have e2 : swf l i j j = l i := by unfold swf; rw [if_neg (fun e => hij e.symm), if_pos rfl]
    have e3 : ∀ k, k ≠ i → k ≠ j → swf l i j k = l k := fun k a b => by unfold swf; rw [if_neg a, if_neg b]
    refine ⟨⟨fun k hk pk => ?_, ?_⟩, ?_⟩
    · rcases Nat.decEq k i with a | a
      · rcases Nat.decEq k j with b | b
        · rw [e3 k a b]; exact h.le k hk pk
        · rw [b, e2]; exact h.le i hi pi
      · rw [a, e1]; exact h.le j hj pj
    · rw [Sm_two (φ := kt W l) hi hj hij fun k _ a b => by unfold kt; rw [e3 k a b]]
      have k1 : kt W (swf l i j) i = kt W l j := by unfold kt; rw [if_pos pi, if_pos pj, e1]
      have k2 : kt W (swf l i j) j = kt W l i := by unfold kt; rw [if_pos pi, if_pos pj, e2]
      rw [k1, k2]; have := h.kr; omega
    · unfold co
      rw [Sm_two (φ := fun i => W i * l i) hi hj hij fun k _ a b => by rw [e3 k a b]]
      rw [e1, e2]
      obtain ⟨d, hd⟩ : ∃ d : Nat, l j = l i + d := ⟨l j - l i, by omega⟩
      have h1 : W i * d ≤ W j * d := Int.mul_le_mul_of_nonneg_right hW (by omega)
      rw [hd, Int.natCast_add, Int.mul_add, Int.mul_add]
      omega
  · subst hij
    have e : swf l i i = l := by funext k; unfold swf; split
                                 · rename_i e; rw [e]
                                 · rfl
    rw [e]; exact ⟨h, Int.le_refl _⟩
theorem argmax (l : Nat → Nat) (A : Nat → Prop) : ∀ n, (∃ i, i < n ∧ A i) → ∃ u, u < n ∧ A u ∧ ∀ i, i < n → A i → l i ≤ l u
  | 0, ⟨i, hi, _⟩ => absurd hi (Nat.not_lt_zero _)
  | n + 1, ⟨i, hi, ha⟩ => by
    rcases Classical.em (∃ i, i < n ∧ A i) with h | h
    · obtain ⟨u, u1, u2, u3⟩ := argmax l A n h
      rcases Classical.em (A n ∧ l u < l n) with hn | hn
      · refine ⟨n, by omega, hn.1, fun k hk ak => ?_⟩
        rcases Nat.lt_or_ge k n with y | y
        · have := u3 k y ak; omega
        · obtain rfl : k = n := by omega
          exact Nat.le_refl _
      · refine ⟨u, by omega, u2, fun k hk ak => ?_⟩
        rcases Nat.lt_or_ge k n with y | y
        · exact u3 k y ak
        · obtain rfl : k = n := by omega
          rcases Nat.lt_or_ge (l u) (l k) with z | z
          · exact absurd ⟨ak, z⟩ hn
          · exact z
    · have : i = n := by
        rcases Nat.lt_or_ge i n with y | y
        · exact absurd ⟨i, y, ha⟩ h
        · omega
      subst this
      refine ⟨i, by omega, ha, fun k hk ak => ?_⟩
      rcases Nat.lt_or_ge k i with y | y
      · exact absurd ⟨k, y, ak⟩ h
      · obtain rfl : k = i := by omega
        exact Nat.le_refl _
theorem p2_split {i M : Nat} (h : i ≤ M) (hM : M ≤ 256) : ∃ c, p2 i = p2 M * c := by
  refine ⟨2 ^ (M - i), ?_⟩
  unfold p2; rw [← Int.pow_add]; congr 1; omega

/-- Lengths that fit may be turned so that the two least weights have the same one, and the longest; it costs no more. -/
theorem fits_two {W : Nat → Int} {l : Nat → Nat} (h : Fits2 W l) (hW : ∀ i, i < 257 → 0 ≤ W i) {a b : Nat} (ha : a < 257) (hb : b < 257) (hab : a ≠ b) (pa : 0 < W a) (pb : 0 < W b) (la : ∀ i, i < 257 → 0 < W i → W a ≤ W i) (lb : ∀ i, i < 257 → 0 < W i → i ≠ a → W b ≤ W i) :
    ∃ l2, Fits2 W l2 ∧ co W l2 ≤ co W l ∧ l2 a = l2 b ∧ 1 ≤ l2 b := by
  obtain ⟨u, u1, u2, u3⟩ := argmax l (fun i => 0 < W i) 257 ⟨a, ha, pa⟩
  obtain ⟨f1, c1⟩ := swf_fits h ha u1 pa u2 (la u u1 u2) (u3 a ha pa)
  have m1 : ∀ i, i < 257 → 0 < W i → swf l a u i ≤ swf l a u a := fun i hi pi => by
    have e : swf l a u a = l u := by unfold swf; rw [if_pos rfl]
    rw [e]; unfold swf
    split
    · exact Nat.le_refl _
    · split
      · exact u3 a ha pa
      · exact u3 i hi pi
  generalize swf l a u = l1 at *
  obtain ⟨v, v1, v2, v3⟩ := argmax l1 (fun i => 0 < W i ∧ i ≠ a) 257 ⟨b, hb, pb, hab.symm⟩
  obtain ⟨f2, c2⟩ := swf_fits f1 hb v1 pb v2.1 (lb v v1 v2.1 v2.2) (v3 b hb ⟨pb, hab.symm⟩)
  have ea : swf l1 b v a = l1 a := by unfold swf; rw [if_neg hab, if_neg (fun e => v2.2 e.symm)]
  have m2 : ∀ i, i < 257 → 0 < W i → i ≠ a → swf l1 b v i ≤ swf l1 b v b := fun i hi pi ia => by
    have e : swf l1 b v b = l1 v := by unfold swf; rw [if_pos rfl]
    rw [e]; unfold swf
    split
    · exact Nat.le_refl _
    · split
      · exact v3 b hb ⟨pb, hab.symm⟩
      · exact v3 i hi ⟨pi, ia⟩
  have m3 : swf l1 b v b ≤ swf l1 b v a := by
    rw [ea]; have e : swf l1 b v b = l1 v := by unfold swf; rw [if_pos rfl]
    rw [e]; exact m1 v v1 v2.1
  generalize swf l1 b v = l2 at *
  clear m1 v3 u3
  -- the longest one is made as long as the next
  have hM := f2.le b hb pb
  have hN := f2.le a ha pa
  have hoth : ∃ c, Sm (fun i => if i = a then 0 else kt W l2 i) 257 = p2 (l2 b) * c := by
    refine Sm_dvd _ _ fun k hk => ?_
    (try dsimp only)
    split
    · exact ⟨0, by simp⟩
    · rename_i ka
      unfold kt; split
      · rename_i pk; exact p2_split (m2 k hk pk ka) hM
      · exact ⟨0, by simp⟩
  have hsum : Sm (kt W l2) 257 = Sm (fun i => if i = a then 0 else kt W l2 i) 257 + p2 (l2 a) := by
    rw [Sm_one (φ := fun i => if i = a then 0 else kt W l2 i) (ψ := kt W l2) (i := a) 257 (fun k _ hk => by (try dsimp only); rw [if_neg hk]), if_pos ha, if_pos rfl]
    unfold kt; rw [if_pos pa]; omega
  obtain ⟨c, hc⟩ := hoth
  obtain ⟨d, hd⟩ := p2_split (Nat.zero_le (l2 b)) hM
  have hq := p2_pos (l2 b)
  have hpa := p2_pos (l2 a)
  have hlt : c < d := by
    have := f2.kr
    rw [hsum, hc, hd] at this
    exact Int.lt_of_mul_lt_mul_left (by omega) (Int.le_of_lt hq)
  have hb1 : 1 ≤ l2 b := by
    rcases Nat.eq_zero_or_pos (l2 b) with e | e
    · exfalso
      have h1 : kt W l2 b ≤ Sm (fun i => if i = a then 0 else kt W l2 i) 257 := by
        have := Sm_at (φ := fun i => if i = a then 0 else kt W l2 i) (i := b) 257 (fun k _ => by (try dsimp only); split; exact Int.le_refl _; exact kt_nn _ _ _) hb
        (try dsimp only at this); rwa [if_neg hab.symm] at this
      have h2 : kt W l2 b = p2 0 := by unfold kt; rw [if_pos pb, e]
      have := f2.kr
      omega
    · exact e
  refine ⟨fun k => if k = a then l2 b else l2 k, ⟨fun k hk pk => ?_, ?_⟩, ?_, ?_, ?_⟩
  · (try dsimp only); split
    · exact hM
    · exact f2.le k hk pk
  · rw [Sm_one (φ := kt W l2) (i := a) 257 (fun k _ hk => by unfold kt; (try dsimp only); rw [if_neg hk]), if_pos ha, hsum, hc]
    have e1 : kt W (fun k => if k = a then l2 b else l2 k) a = p2 (l2 b) := by unfold kt; (try dsimp only); rw [if_pos pa, if_pos rfl]
    have e2 : kt W l2 a = p2 (l2 a) := by unfold kt; rw [if_pos pa]
    rw [e1, e2, hd]
    have : p2 (l2 b) * (c + 1) ≤ p2 (l2 b) * d := Int.mul_le_mul_of_nonneg_left (by omega) (Int.le_of_lt hq)
    rw [Int.mul_add] at this
    omega
  · refine Int.le_trans ?_ (Int.le_trans c2 c1)
    unfold co
    refine Sm_le _ fun k hk => ?_
    (try dsimp only); split
    · rename_i e; subst e
      exact Int.mul_le_mul_of_nonneg_left (by omega) (hW k hk)
    · exact Int.le_refl _
  · (try dsimp only); rw [if_pos rfl, if_neg hab.symm]
  · (try dsimp only); rw [if_neg hab.symm]; exact hb1


def fib : Nat → Nat
  | 0 => 1
  | 1 => 2
  | n + 2 => fib (n + 1) + fib n
theorem fib_step : ∀ n, fib (n + 1) = fib n + fib (n - 1)
  | 0 => rfl
  | n + 1 => rfl
theorem fib_mono : ∀ n, fib n ≤ fib (n + 1) := fun n => by rw [fib_step]; omega
theorem fib_le {a b : Nat} (h : a ≤ b) : fib a ≤ fib b := by
  induction b with
  | zero => rw [show a = 0 by omega]; exact Nat.le_refl _
  | succ b ih =>
    rcases Nat.lt_or_ge a (b + 1) with y | y
    · exact Nat.le_trans (ih (by omega)) (fib_mono b)
    · rw [show a = b + 1 by omega]; exact Nat.le_refl _

theorem Sm_add (φ ψ : Nat → Int) : ∀ n, Sm (fun k => φ k + ψ k) n = Sm φ n + Sm ψ n
  | 0 => rfl
  | n + 1 => by simp only [Sm]; rw [Sm_add φ ψ n]; omega
theorem Sm_mem {F : Nat → Int} : ∀ (l : List Nat), l.Nodup → (∀ x ∈ l, x < 257) → Sm (fun x => if x ∈ l then F x else 0) 257 = (l.map F).sum
  | [], _, _ => by
    rw [Sm_congr (φ := fun _ => 0) 257 (fun k _ => by simp)]
    have : ∀ n, Sm (fun _ => (0 : Int)) n = 0 := fun n => by
      induction n with
      | zero => rfl
      | succ n ih => simp only [Sm, ih]; rfl
    rw [this]; rfl
  | y :: l, hn, hl => by
    obtain ⟨h1, h2⟩ := List.nodup_cons.1 hn
    rw [Sm_one (φ := fun x => if x ∈ l then F x else 0) (i := y) 257 (fun k _ hk => by simp [hk]), Sm_mem l h2 fun x hx => hl x (List.mem_cons_of_mem _ hx), if_pos (hl y (List.mem_cons_self ..))]
    simp only [List.mem_cons, true_or, if_true, List.map_cons, List.sum_cons, if_neg h1]
    omega

/-- What all symbols have cost up to now. -/
def acc (F : Nat → Int) (m : List Int) : Int := Sm (fun x => F x * g m (257 + x)) 257
structure OI (F : Nat → Int) (P : Nat → Prop) (m : List Int) (cs : Nat → List Nat) : Prop where
  ki : KI P m cs
  wt : ∀ i, i < 257 → 0 < g m i → g m i = ((cs i).map F).sum
  own : ∀ i, i < 257 → 0 < g m i → ∀ x ∈ cs i, (fib (g m (257 + x)).toNat : Int) ≤ g m i
  oth : ∀ i j, i < 257 → j < 257 → 0 < g m i → 0 < g m j → i ≠ j → ∀ x ∈ cs i, (fib ((g m (257 + x)).toNat - 1) : Int) ≤ g m j

theorem OI.step {F : Nat → Int} {P : Nat → Prop} {m : List Int} {cs : Nat → List Nat} (h : OI F P m cs) {a b : Nat} (ha : a < 257) (hb : b < 257) (hab : a ≠ b) (pa : 0 < g m a) (pb : 0 < g m b) (la : ∀ i, i < 257 → 0 < g m i → g m a ≤ g m i) (lb : ∀ i, i < 257 → 0 < g m i → i ≠ a → g m b ≤ g m i) :
    OI F P (mrg m a b (cs a) (cs b)) (fun i => if i = a then cs a ++ cs b else cs i) ∧ cnt (mrg m a b (cs a) (cs b)) + 1 = cnt m ∧ acc F (mrg m a b (cs a) (cs b)) = acc F m + g m a + g m b := by
  obtain ⟨hk, hc⟩ := h.ki.step ha hb hab pa pb
  obtain ⟨hf, hl⟩ := mrg_facts h.ki.wf ha hb hab pa pb
  have ca := h.ki.wf.ch a ha pa
  have cb := h.ki.wf.ch b hb pb
  have la7 := chain_lt ca.2.1
  have lb7 := chain_lt cb.2.1
  have hd := h.ki.wf.dis a b ha hb pa pb hab
  have hwf := h.ki.wf
  generalize mrg m a b (cs a) (cs b) = m' at *
  have up1 : ∀ x ∈ cs a, (g m' (257 + x)).toNat = (g m (257 + x)).toNat + 1 := fun x hx => by
    have := hwf.le x (la7 x hx)
    rw [hl x (la7 x hx), if_pos hx, if_neg (hd x hx)]; omega
  have up2 : ∀ x ∈ cs b, (g m' (257 + x)).toNat = (g m (257 + x)).toNat + 1 := fun x hx => by
    have := hwf.le x (lb7 x hx)
    rw [hl x (lb7 x hx), if_pos hx, if_neg (fun h => hd x h hx)]; omega
  have same : ∀ i, i < 257 → 0 < g m i → i ≠ a → i ≠ b → ∀ x ∈ cs i, g m' (257 + x) = g m (257 + x) := fun i hi pi ia ib x hx => by
    have hx7 := chain_lt (hwf.ch i hi pi).2.1 x hx
    rw [hl x hx7, if_neg (fun hy => hwf.dis i a hi ha pi pa ia x hx hy), if_neg (fun hy => hwf.dis i b hi hb pi pb ib x hx hy)]; omega
  have live : ∀ i, i < 257 → 0 < g m' i → i ≠ b ∧ (i = a ∨ (i ≠ a ∧ 0 < g m i ∧ g m' i = g m i)) := fun i hi hp => by
    rw [hf i hi] at hp
    by_cases ib : i = b
    · rw [if_pos ib] at hp; omega
    · rw [if_neg ib] at hp
      refine ⟨ib, ?_⟩
      by_cases ia : i = a
      · exact .inl ia
      · rw [if_neg ia] at hp
        exact .inr ⟨ia, hp, by rw [hf i hi, if_neg ib, if_neg ia]⟩
  have ga : g m' a = g m a + g m b := by rw [hf a ha, if_neg hab, if_pos rfl]
  have both : ∀ x, x ∈ cs a ++ cs b → (g m' (257 + x)).toNat = (g m (257 + x)).toNat + 1 ∧ (fib (g m (257 + x)).toNat : Int) ≤ g m b ∧ (fib ((g m (257 + x)).toNat + 1) : Int) ≤ g m a + g m b := fun x hx => by
    have hba := lb
    rcases List.mem_append.1 hx with y | y
    · have h1 := h.own a ha pa x y
      have h2 := h.oth a b ha hb pa pb hab x y
      refine ⟨up1 x y, Int.le_trans h1 (la b hb pb), ?_⟩
      rw [fib_step]; omega
    · have h1 := h.own b hb pb x y
      have h2 := h.oth b a hb ha pb pa hab.symm x y
      refine ⟨up2 x y, h1, ?_⟩
      rw [fib_step]; omega
  refine ⟨⟨hk, fun i hi hp => ?_, fun i hi hp x hx => ?_, fun i j hi hj pi pj hij x hx => ?_⟩, hc, ?_⟩
  · obtain ⟨ib, rfl | ⟨ia, p, e⟩⟩ := live i hi hp
    · (try dsimp only); rw [ga, if_pos rfl, List.map_append, List.sum_append, h.wt i hi pa, h.wt b hb pb]
    · (try dsimp only); rw [e, if_neg ia]; exact h.wt i hi p
  · obtain ⟨ib, rfl | ⟨ia, p, e⟩⟩ := live i hi hp
    · (try dsimp only at hx); rw [if_pos rfl] at hx
      obtain ⟨b1, b2, b3⟩ := both x hx
      rw [b1, ga]; exact b3
    · (try dsimp only at hx); rw [if_neg ia] at hx
      rw [same i hi p ia ib x hx, e]; exact h.own i hi p x hx
  · obtain ⟨ib, iA⟩ := live i hi pi
    obtain ⟨jb, jA⟩ := live j hj pj
    rcases iA with rfl | ⟨ia, p, e⟩
    · (try dsimp only at hx); rw [if_pos rfl] at hx
      obtain ⟨b1, b2, b3⟩ := both x hx
      rw [b1, Nat.add_sub_cancel]
      rcases jA with e2 | ⟨ja, p2, e2⟩
      · exact absurd e2.symm hij
      · rw [e2]; exact Int.le_trans b2 (lb j hj p2 ja)
    · (try dsimp only at hx); rw [if_neg ia] at hx
      rw [same i hi p ia ib x hx]
      rcases jA with rfl | ⟨ja, p2, e2⟩
      · have := h.oth i j hi ha p pa ia x hx
        rw [ga]; omega
      · rw [e2]; exact h.oth i j hi hj p p2 hij x hx
  · unfold acc
    have e1 : ∀ k, k < 257 → F k * g m' (257 + k) = F k * g m (257 + k) + ((if k ∈ cs a then F k else 0) + (if k ∈ cs b then F k else 0)) := fun k hk => by
      rw [hl k hk, Int.mul_add, Int.mul_add]
      split <;> split <;> simp <;> omega
    rw [Sm_congr (φ := fun k => F k * g m (257 + k) + ((if k ∈ cs a then F k else 0) + (if k ∈ cs b then F k else 0))) 257 e1, Sm_add, Sm_add, Sm_mem _ ca.2.2 la7, Sm_mem _ cb.2.2 lb7, ← h.wt a ha pa, ← h.wt b hb pb]
    omega

/-- Two are merged: lengths that fit before give lengths that fit behind it, and cost as much less as the two weigh. -/
theorem fits_step {W W' : Nat → Int} {l : Nat → Nat} (h : Fits2 W l) {a b : Nat} (ha : a < 257) (hb : b < 257) (hab : a ≠ b) (pa : 0 < W a) (pb : 0 < W b) (hW' : ∀ k, k < 257 → W' k = if k = b then 0 else if k = a then W a + W b else W k) (e : l a = l b) (h1 : 1 ≤ l b) :
    ∃ l', Fits2 W' l' ∧ co W' l' = co W l - W a - W b := by
  have wa : W' a = W a + W b := by rw [hW' a ha, if_neg hab, if_pos rfl]
  have wb : W' b = 0 := by rw [hW' b hb, if_pos rfl]
  have wk : ∀ k, k < 257 → k ≠ a → k ≠ b → W' k = W k := fun k hk x y => by rw [hW' k hk, if_neg y, if_neg x]
  have hM := h.le b hb pb
  refine ⟨fun k => if k = a then l b - 1 else l k, ⟨fun k hk pk => ?_, ?_⟩, ?_⟩
  · (try dsimp only); split
    · omega
    · rename_i ka
      have kb : k ≠ b := fun e => by rw [e, wb] at pk; omega
      rw [wk k hk ka kb] at pk; exact h.le k hk pk
  · rw [Sm_two (φ := kt W l) ha hb hab fun k hk x y => by unfold kt; (try dsimp only); rw [wk k hk x y, if_neg x]]
    have k1 : kt W' (fun k => if k = a then l b - 1 else l k) a = 2 * p2 (l b) := by
      unfold kt; (try dsimp only); rw [if_pos (by rw [wa]; omega), if_pos rfl, p2_half (i := l b - 1) (by omega), show l b - 1 + 1 = l b by omega]
    have k2 : kt W' (fun k => if k = a then l b - 1 else l k) b = 0 := by unfold kt; rw [wb]; rfl
    have k3 : kt W l a = p2 (l b) := by unfold kt; rw [if_pos pa, e]
    have k4 : kt W l b = p2 (l b) := by unfold kt; rw [if_pos pb]
    rw [k1, k2, k3, k4]
    have := h.kr; omega
  · unfold co
    rw [Sm_two (φ := fun i => W i * l i) ha hb hab fun k hk x y => by (try dsimp only); rw [wk k hk x y, if_neg x]]
    (try dsimp only)
    rw [if_pos rfl, wa, wb, e]
    obtain ⟨d, hd⟩ : ∃ d, l b = d + 1 := ⟨l b - 1, by omega⟩
    rw [hd, Nat.add_sub_cancel, Int.natCast_add, Int.mul_add, Int.mul_add, Int.add_mul]
    simp
    omega

theorem OI.run {F : Nat → Int} {P : Nat → Prop} : ∀ (n : Nat) (m : List Int) (cs : Nat → List Nat), OI F P m cs → cnt m ≤ n →
    OI F P (runT n (m, cs)).1 (runT n (m, cs)).2 ∧ ∀ l, Fits2 (fun i => g m i) l → acc F (runT n (m, cs)).1 ≤ acc F m + co (fun i => g m i) l
  | n, m, cs, h, hc => by
    obtain ⟨p, hp⟩ : ∃ p, leastTo m (-1) 257 = p := ⟨_, rfl⟩
    obtain ⟨q, hq⟩ : ∃ q, leastTo m p 257 = q := ⟨_, rfl⟩
    rcases Int.lt_or_le q 0 with hb | hb
    · have hs := stepT_none (cs := cs) hp hq hb
      rw [runT_none hs n]
      refine ⟨h, fun l _ => ?_⟩
      have : 0 ≤ co (fun i => g m i) l := Sm_nn 257 fun k hk => Int.mul_nonneg (h.ki.wf.nn k hk) (by omega)
      show acc F m ≤ _
      omega
    · obtain ⟨a, b, ea, eb, ha, hb', hab, pa, pb, hs⟩ := stepT_some h.ki.wf hp hq hb
      have s1 := (least_spec m (-1) 257).2 (by rw [hp, ea]; omega)
      have s2 := (least_spec m p 257).2 (by rw [hq]; exact hb)
      rw [hp, ea] at s1
      rw [hq, eb, ea] at s2
      simp only [Int.toNat_natCast] at s1 s2
      have la : ∀ i, i < 257 → 0 < g m i → g m a ≤ g m i := fun i hi pi => by
        have := s1.2.2.2 i hi (by omega) pi; omega
      have lb : ∀ i, i < 257 → 0 < g m i → i ≠ a → g m b ≤ g m i := fun i hi pi ia => by
        have := s2.2.2.2 i hi (by omega) pi; omega
      obtain ⟨h1, h2, h3⟩ := h.step ha hb' hab pa pb la lb
      have h4 := cnt_two h.ki.wf.len ha hb' hab pa pb
      obtain ⟨hf, _⟩ := mrg_facts h.ki.wf ha hb' hab pa pb
      cases n with
      | zero => omega
      | succ n =>
        obtain ⟨r1, r2⟩ := OI.run n _ _ h1 (by omega)
        simp only [runT, hs]
        refine ⟨r1, fun l hl => ?_⟩
        obtain ⟨l2, f1, f2, f3, f4⟩ := fits_two hl h.ki.wf.nn ha hb' hab pa pb la lb
        obtain ⟨l3, g1, g2⟩ := fits_step (W' := fun i => g (mrg m a b (cs a) (cs b)) i) f1 ha hb' hab pa pb (fun k hk => hf k hk) f3 f4
        have := r2 l3 g1
        (try dsimp only at g2 f2)
        omega

theorem m0_oi {f : List Int} (h : f.length = 256) (hf : ∀ i, i < 256 → 0 ≤ g f i ∧ g f i ≤ 1099511627776) : OI (fun x => g (m0 f) x) (Comes f) (m0 f) (fun i => [i]) := by
  refine ⟨m0_ki h hf, fun i hi hp => by simp, fun i hi hp x hx => ?_, fun i j hi hj pi pj hij x hx => ?_⟩
  · have : x = i := by simpa using hx
    subst this
    rw [m0_mid h hi]; show (1 : Int) ≤ _; omega
  · have : x = i := by simpa using hx
    subst this
    rw [m0_mid h hi]; show (1 : Int) ≤ _; omega
theorem m0_cnt {f : List Int} (h : f.length = 256) : cnt (m0 f) ≤ 257 := by
  unfold cnt
  exact Nat.le_trans List.countP_le_length (by have := m0_len h; rw [List.length_take]; omega)
theorem acc0 {f : List Int} (h : f.length = 256) : acc (fun x => g (m0 f) x) (m0 f) = 0 := by
  unfold acc
  rw [Sm_congr (φ := fun _ => 0) 257 (fun k hk => by rw [m0_mid h hk, Int.mul_zero])]
  have : ∀ n, Sm (fun _ => (0 : Int)) n = 0 := fun n => by
    induction n with
    | zero => rfl
    | succ n ih => simp only [Sm, ih]; rfl
  exact this 257
/-- The tree costs no more than any lengths that fit. -/
theorem tree_best {f : List Int} (h : f.length = 256) (hf : ∀ i, i < 256 → 0 ≤ g f i ∧ g f i ≤ 1099511627776) (l : Nat → Nat) (hl : Fits2 (fun i => g (m0 f) i) l) : Sm (fun x => g (m0 f) x * bits f x) 257 ≤ co (fun i => g (m0 f) i) l := by
  have := (OI.run 257 (m0 f) (fun i => [i]) (m0_oi h hf) (m0_cnt h)).2 l hl
  rw [acc0 h] at this
  have e : acc (fun x => g (m0 f) x) (runT 257 (m0 f, fun i => [i])).1 = Sm (fun x => g (m0 f) x * bits f x) 257 := by
    unfold acc
    refine Sm_congr 257 fun k hk => ?_
    (try dsimp only)
    unfold bits len tree; rw [if_pos hk]
  rw [e] at this; omega
/-- A symbol that comes is not deeper than all weights bear. -/
theorem tree_fib {f : List Int} (h : f.length = 256) (hf : ∀ i, i < 256 → 0 ≤ g f i ∧ g f i ≤ 1099511627776) (x : Nat) (hx : x < 257) : (fib (bits f x).toNat : Int) ≤ Sm (fun x => g (m0 f) x) 257 := by
  have hr := (OI.run 257 (m0 f) (fun i => [i]) (m0_oi h hf) (m0_cnt h)).1
  have eb : bits f x = g (runT 257 (m0 f, fun i => [i])).1 (257 + x) := by unfold bits len tree; rw [if_pos hx]
  have hnn : ∀ k, k < 257 → 0 ≤ g (m0 f) k := fun k hk => (m0_wf h hf).nn k hk
  by_cases hc : Comes f x
  · obtain ⟨i, i1, i2, i3⟩ := hr.ki.all x hx hc
    have h1 := hr.own i i1 i2 x i3
    have h2 := hr.wt i i1 i2
    have ci := hr.ki.wf.ch i i1 i2
    rw [← Sm_mem _ ci.2.2 (chain_lt ci.2.1)] at h2
    have h3 := Sm_le (φ := fun x => if x ∈ (runT 257 (m0 f, fun i => [i])).2 i then g (m0 f) x else 0) (ψ := fun x => g (m0 f) x) 257 fun k hk => by
      (try dsimp only); split
      · exact Int.le_refl _
      · exact hnn k hk
    rw [eb]
    rw [← h2] at h3
    exact Int.le_trans h1 h3
  · rw [eb, (hr.ki.non x hx hc).1]
    have := Sm_at (φ := fun x => g (m0 f) x) (i := 256) 257 hnn (by omega)
    have h1 : g (m0 f) 256 = 1 := m0_none h
    (try dsimp only at this)
    rw [h1] at this
    exact this


/-- Of a rising list just those ahead of their number are l at most. -/
theorem pref {l : Nat} : ∀ (xs : List Nat), xs.Pairwise (· ≤ ·) → ∀ p (hp : p < xs.length), (xs[p] ≤ l ↔ p < xs.countP (fun x => decide (x ≤ l)))
  | [], _, p, hp => by simp at hp
  | y :: ys, h, p, hp => by
    obtain ⟨h1, h2⟩ := List.pairwise_cons.1 h
    rw [List.countP_cons]
    by_cases hy : y ≤ l
    · rw [if_pos (by simpa using hy)]
      cases p with
      | zero => simp [hy]
      | succ p =>
        have := pref (l := l) ys h2 p (by simpa using hp)
        rw [List.getElem_cons_succ, this]; omega
    · rw [if_neg (by simpa using hy)]
      have h0 : ys.countP (fun x => decide (x ≤ l)) = 0 := by
        rw [List.countP_eq_zero]
        intro x hx
        have := h1 x hx
        simp; omega
      rw [h0]
      cases p with
      | zero => simp; omega
      | succ p =>
        have := h1 _ (List.getElem_mem (by simpa using hp : p < ys.length))
        rw [List.getElem_cons_succ]; omega

def cl (l k : Nat) : Int := if k ≤ l then 1 else 0
theorem lensC_ws (f : List Int) (hnn : ∀ i, 1 ≤ i → i ≤ 16 → 0 ≤ g (tabN f) i) (l : Nat) (T : Int) (hT : ws (cl l) (tabN f) 17 = T) : ∀ r, r ≤ 16 → ((lensC (tabC f) r).countP (fun x => decide (x ≤ l)) : Int) + ws (cl l) (tabN f) (17 - r) = T
  | 0, _ => by simp only [lensC]; rw [Nat.sub_zero, hT]; simp
  | r + 1, h => by
    have ih := lensC_ws f hnn l T hT r (by omega)
    have e2 : g (tabC f) (15 - r) = g (tabN f) (16 - r) := tabC_g f (by omega) (by omega)
    have h0 := hnn (16 - r) (by omega) (by omega)
    obtain ⟨j, hj⟩ : ∃ j, 16 - r = j := ⟨_, rfl⟩
    rw [show 17 - r = j + 1 by omega] at ih
    rw [show 17 - (r + 1) = j by omega]
    rw [hj] at e2 h0
    simp only [ws] at ih
    simp only [lensC, List.countP_append, List.countP_replicate]
    rw [hj, e2]
    unfold cl at ih ⊢
    by_cases h : j ≤ l
    · rw [if_pos h] at ih; simp only [h, decide_true, if_true]; omega
    · rw [if_neg h] at ih; simp only [h, decide_false]; simp; omega
theorem lensC_rise (cnt : List Int) : ∀ r, r ≤ 16 → (lensC cnt r).Pairwise (· ≤ ·) ∧ ∀ x ∈ lensC cnt r, 17 - r ≤ x ∧ x ≤ 16
  | 0, _ => by simp [lensC]
  | r + 1, h => by
    obtain ⟨h1, h2⟩ := lensC_rise cnt r (by omega)
    simp only [lensC]
    refine ⟨List.pairwise_append.2 ⟨?_, h1, fun x hx y hy => ?_⟩, fun x hx => ?_⟩
    · rw [List.pairwise_replicate]; exact .inr (Nat.le_refl _)
    · have := (List.mem_replicate.1 hx).2
      have := h2 y hy; omega
    · rcases List.mem_append.1 hx with y | y
      · have := (List.mem_replicate.1 y).2; omega
      · have := h2 x y; omega
theorem ord_ws {L : Nat → Int} (hL : ∀ x, L x ≤ 256) (l : Nat) : ∀ k, ws (cl l) (nT L k) 257 = ((ordL L k).countP fun x => decide ((L x.toNat).toNat ≤ l))
  | 0 => ws_rep _ _ (by omega)
  | k + 1 => by
    rw [ws_nT hL, ord_ws hL l k]
    simp only [ordL]; split
    · rw [List.countP_append]
      simp only [List.countP_cons, List.countP_nil, Int.toNat_natCast]
      unfold cl
      by_cases h : (L k).toNat ≤ l
      · simp [h]
      · simp [h]
    · simp
set_option maxRecDepth 10000 in
theorem shT_none : ∀ (k : Nat) (n : List Int), (∀ l, 17 ≤ l → g n l ≤ 0) → shT k n = n
  | 0, _, _ => rfl
  | k + 1, n, h => by
    have e : shW 300 n (k + 17) = n := by
      show shW (299 + 1) n (k + 17) = n
      simp only [shW]; rw [if_neg (by have := h (k + 17) (by omega); omega)]
    simp only [shT]; rw [e]; exact shT_none k n h

theorem Sm_zero (n : Nat) : Sm (fun _ => (0 : Int)) n = 0 := by
  induction n with
  | zero => rfl
  | succ n ih => simp only [Sm, ih]; rfl
theorem kt_sk {f : List Int} (h : f.length = 256) (hg : ∀ i, i < 256 → 0 ≤ g f i ∧ g f i ≤ 1099511627776) (hex : ∃ x, x < 256 ∧ 0 < g f x) : Fits2 (fun i => g (m0 f) i) (fun i => (bits f i).toNat) := by
  obtain ⟨hb, hsh, _⟩ := shape h hg
  obtain ⟨hSH, hcm⟩ := hsh hex
  refine ⟨fun i hi _ => by have := hb i; (try dsimp only); omega, ?_⟩
  have h1 : ∀ n, n ≤ 257 → Sm (kt (fun i => g (m0 f) i) (fun i => (bits f i).toNat)) n = sk (bits f) n := by
    intro n
    induction n with
    | zero => intro _; rfl
    | succ n ih =>
      intro hn
      simp only [Sm, sk]
      rw [ih (by omega)]
      congr 1
      unfold kt
      by_cases hp : 0 < g (m0 f) n
      · rw [if_pos hp, if_pos ((hcm n (by omega)).2 ((m0_pos h (by omega)).1 hp))]
      · rw [if_neg hp, if_neg (fun h2 => hp ((m0_pos h (by omega)).2 ((hcm n (by omega)).1 h2)))]
  rw [h1 257 (Nat.le_refl _), ← ws_sk (fun x => (hb x).2), hSH.kr]
  exact Int.le_refl _
/-- What comes more often is not deeper. -/
theorem tree_order {f : List Int} (h : f.length = 256) (hg : ∀ i, i < 256 → 0 ≤ g f i ∧ g f i ≤ 1099511627776) (hex : ∃ x, x < 256 ∧ 0 < g f x) {x y : Nat} (hx : x < 257) (hy : y < 257) (py : 0 < g (m0 f) y) (hxy : g (m0 f) y < g (m0 f) x) : bits f x ≤ bits f y := by
  obtain ⟨hb, hsh, _⟩ := shape h hg
  rcases Int.lt_or_le (bits f y) (bits f x) with hlt | hle
  · exfalso
    have hk := kt_sk h hg hex
    have bx := hb x
    have by' := hb y
    obtain ⟨f1, _⟩ := swf_fits hk hy hx py (by (try dsimp only); omega) (by (try dsimp only); omega) (by (try dsimp only); omega)
    have h1 := tree_best h hg _ f1
    have hne : y ≠ x := fun e => by rw [e] at hlt; omega
    have h2 : co (fun i => g (m0 f) i) (swf (fun i => (bits f i).toNat) y x) = co (fun i => g (m0 f) i) (fun i => (bits f i).toNat) + (g (m0 f) y * bits f x - g (m0 f) y * bits f y) + (g (m0 f) x * bits f y - g (m0 f) x * bits f x) := by
      unfold co
      rw [Sm_two (φ := fun i => g (m0 f) i * ((bits f i).toNat : Int)) hy hx hne fun k _ a b => by
        unfold swf; (try dsimp only); rw [if_neg a, if_neg b]]
      unfold swf
      (try dsimp only)
      rw [if_pos rfl, if_neg (fun e => hne e.symm), if_pos rfl]
      rw [Int.toNat_of_nonneg bx.1, Int.toNat_of_nonneg by'.1]
    have h3 : co (fun i => g (m0 f) i) (fun i => (bits f i).toNat) = Sm (fun x => g (m0 f) x * bits f x) 257 := by
      unfold co
      refine Sm_congr 257 fun k _ => ?_
      (try dsimp only)
      rw [Int.toNat_of_nonneg (hb k).1]
    rw [h2, h3] at h1
    have h4 : 0 < (g (m0 f) x - g (m0 f) y) * (bits f x - bits f y) := Int.mul_pos (by omega) (by omega)
    rw [Int.sub_mul, Int.mul_sub, Int.mul_sub] at h4
    omega
  · exact hle

set_option maxRecDepth 10000 in
/-- How long the codes of Table's table are, where no more than 2000 come. -/
theorem table_lens {f Z M : List Int} {L : List (Nat × Nat × Nat)} (hf : f.length = 256) (hg : ∀ i, i < 256 → 0 ≤ g f i ∧ g f i ≤ 1099511627776) (hex : ∃ x, x < 256 ∧ 0 < g f x) (hp : Z.Perm (ordL (bits f) 256)) (hr : Rise (key f) Z 0 Z.length)
    (hI : CInv M L) (hL : L.map (fun t => (t.1 : Int)) = Z) (hlens : L.map (·.2.2) = lensC (tabC f) 16) (hsum : Sm (fun x => g (m0 f) x) 257 ≤ 2001) (x : Nat) (hx : x < 256) (hfx : 0 < g f x) :
    g M (2 * x + 1) ≤ bits f x ∧ ∀ l : Int, l ≤ bits f 256 → l ≤ bits f x → l ≤ g M (2 * x + 1) := by
  obtain ⟨hb, hsh, _⟩ := shape hf hg
  obtain ⟨hSH, hcm⟩ := hsh hex
  have h15 : ∀ y, bits f y ≤ 15 := fun y => by
    rcases Nat.lt_or_ge y 257 with hy | hy
    · have h1 := tree_fib hf hg y hy
      rcases Int.lt_or_le 15 (bits f y) with h2 | h2
      · exfalso
        have h3 : fib 16 ≤ fib (bits f y).toNat := fib_le (by omega)
        have h4 : fib 16 = 2584 := by decide
        omega
      · exact h2
    · unfold bits; rw [if_neg (by omega)]; decide
  have hn17 : ∀ l, 17 ≤ l → g (nT (bits f) 257) l = 0 := by
    intro l hl
    have key : ∀ k, g (nT (bits f) k) l = 0 := by
      intro k
      induction k with
      | zero =>
        simp only [nT]
        rcases Nat.lt_or_ge l 257 with h | h
        · exact g_rep _ _ _ h
        · exact g_far (by simp only [List.length_replicate]; exact h)
      | succ k ih => rw [nT_g (fun x => (hb x).2), ih, if_neg (by have := h15 k; omega)]; rfl
    exact key 257
  have hnone : 0 < bits f 256 := (hcm 256 (by omega)).2 (.inl rfl)
  obtain ⟨T, hT⟩ : ∃ T, nT (bits f) (256 + 1) = T := ⟨_, rfl⟩
  have hTl : T.length = 257 := by rw [← hT]; exact nT_len _ _
  have hT1 : 1 ≤ g T (bits f 256).toNat := by
    rw [← hT, nT_g (fun x => (hb x).2), if_pos ⟨hnone, rfl⟩]
    have := nT_nn (fun x => (hb x).2) (bits f 256).toNat 256
    omega
  have hTw : ∀ l, ws (cl l) T 257 = ((ordL (bits f) 256).countP fun x => decide ((bits f x.toNat).toNat ≤ l)) + cl l (bits f 256).toNat := fun l => by
    rw [← hT, ws_nT (fun x => (hb x).2), if_pos hnone, ord_ws (fun x => (hb x).2) l 256]
  have e257 : (256 : Nat) + 1 = 257 := rfl
  rw [e257] at hT
  have hNT : tabN f = shLast (shT 240 T) := by unfold tabN; rw [hT]
  rw [hT] at hSH hn17
  clear hT
  have hsT : shT 240 T = T := shT_none _ _ fun l hl => by rw [hn17 l hl]; exact Int.le_refl _
  obtain ⟨j, hj⟩ : ∃ j, down T 16 = j := ⟨_, rfl⟩
  have hN : tabN f = upd T j (-1) := by rw [hNT, hsT]; unfold shLast; rw [hj]
  obtain ⟨N, hNN⟩ : ∃ N, tabN f = N := ⟨_, rfl⟩
  have hSH16 : SH T 16 := ⟨hSH.len, hSH.nn, hSH.z, fun i hi => hn17 i (by omega), hSH.tot, hSH.kr⟩
  have hfew : ∀ i, 1 ≤ i → i ≤ 16 → 0 ≤ g (tabN f) i := fun i h1 h2 => by
    have := (hSH16.few i h1 h2).1
    rw [hNT, hsT]; exact this
  obtain ⟨q, q1, q2⟩ := hSH16.some
  obtain ⟨d1, d2⟩ := down_spec T 16 ⟨q, q1, q2⟩
  have d3 := down_le T 16
  rw [hj] at d1 d2 d3
  have hbj : bits f 256 ≤ j := by
    rcases Nat.lt_or_ge j (bits f 256).toNat with y | y
    · exfalso
      have h1 := d2 _ y (by have := h15 256; omega)
      omega
    · omega
  have hlr := (lensC_rise (tabC f) 16 (Nat.le_refl _)).1
  -- how many are l at most
  have cntC : ∀ l : Nat, ((lensC (tabC f) 16).countP (fun x => decide (x ≤ l)) : Int) = (Z.countP fun x => decide ((bits f x.toNat).toNat ≤ l)) + cl l (bits f 256).toNat - cl l j := by
    intro l
    have h1 := lensC_ws f hfew l _ rfl 16 (Nat.le_refl _)
    have h5 := hTw l
    rw [hp.countP_eq]
    have hj0 : j ≠ 0 := fun e => d1 (by rw [e]; exact hSH.z)
    have h0 : ws (cl l) (tabN f) (17 - 16) = 0 := by
      show ws (cl l) (tabN f) 0 + cl l 0 * g (tabN f) 0 = 0
      rw [hN, upd_g _ _ _ _ (by omega), if_neg (fun e => hj0 e.symm), hSH.z]; simp [ws]
    have h2 : ws (cl l) (tabN f) (17 + 240) = ws (cl l) (tabN f) 17 := ws_zero _ _ 17 240 fun k k1 k2 => by
      rw [hN, upd_g _ _ _ _ (by omega), if_neg (by omega)]; exact hn17 k k1
    have h3 : ws (cl l) (tabN f) 257 = ws (cl l) T 257 - cl l j := by
      rw [hN, ws_upd _ _ _ _ (by omega), if_pos (by omega)]; omega
    have e17 : (17 : Nat) + 240 = 257 := rfl
    rw [e17] at h2
    rw [h0] at h1
    omega
  obtain ⟨LC, hLC⟩ : ∃ LC, lensC (tabC f) 16 = LC := ⟨_, rfl⟩
  rw [hLC] at hlens hlr
  simp only [hLC] at cntC
  clear hLC
  -- the place of x
  have hxb : 0 < bits f x := (hcm x (by omega)).2 (.inr hfx)
  have hxZ : (x : Int) ∈ Z := hp.mem_iff.2 (ord_mem.2 ⟨x, hx, hxb, rfl⟩)
  obtain ⟨p, hpl, hpx⟩ := List.mem_iff_getElem.1 hxZ
  have hpL : p < L.length := by have := congrArg List.length hL; simp at this; omega
  have t1 : ((L[p]).1 : Int) = x := by
    have h1 : (L.map (fun t => (t.1 : Int)))[p]? = Z[p]? := by rw [hL]
    rw [List.getElem?_map, List.getElem?_eq_getElem hpL, List.getElem?_eq_getElem hpl, hpx] at h1
    simpa using h1
  have hpc : p < (LC).length := by rw [← hlens]; simpa using hpL
  have t2 : (L[p]).2.2 = (LC)[p] := by
    have h1 : (L.map (·.2.2))[p]? = (LC)[p]? := by rw [hlens]
    rw [List.getElem?_map, List.getElem?_eq_getElem hpL, List.getElem?_eq_getElem hpc] at h1
    simpa using h1
  have t3 : g M (2 * x + 1) = (L[p]).2.2 := by
    obtain ⟨_, _, h3, _⟩ := hI.mem (L[p]).1 (L[p]).2.1 (L[p]).2.2 (List.getElem_mem hpL)
    have e : (L[p]).1 = x := Int.ofNat.inj t1
    rw [e] at h3; exact h3
  have hZr : (Z.map fun x => (bits f x.toNat).toNat).Pairwise (· ≤ ·) := by
    rw [List.pairwise_iff_getElem]
    intro a b ha hb' hab
    simp only [List.length_map] at ha hb'
    rw [List.getElem_map, List.getElem_map]
    have h1 := hr a b (Nat.zero_le _) hab hb'
    have hm : ∀ k (hk : k < Z.length), g Z k = Z[k] := fun k hk => by simp [g, List.getD_eq_getElem?_getD, List.getElem?_eq_getElem hk]
    rw [hm a ha, hm b hb'] at h1
    obtain ⟨u, u1, _, u3⟩ := ord_mem.1 (hp.mem_iff.1 (List.getElem_mem ha))
    obtain ⟨v, v1, _, v3⟩ := ord_mem.1 (hp.mem_iff.1 (List.getElem_mem hb'))
    rw [u3, v3] at h1 ⊢
    simp only [key, Int.toNat_natCast] at h1 ⊢
    have := hb u
    have := hb v
    omega
  have pc : ∀ l : Nat, ((L[p]).2.2 ≤ l ↔ p < (LC).countP (fun x => decide (x ≤ l))) := fun l => by rw [t2]; exact pref _ hlr p hpc
  have pz : ∀ l : Nat, ((bits f x).toNat ≤ l ↔ p < Z.countP fun x => decide ((bits f x.toNat).toNat ≤ l)) := fun l => by
    have h1 := pref (l := l) _ hZr p (by simpa using hpl)
    rw [List.countP_map, List.getElem_map, hpx] at h1
    exact h1
  rw [t3]
  constructor
  · have h1 := (pz (bits f x).toNat).1 (Nat.le_refl _)
    have h2 := cntC (bits f x).toNat
    have h3 : cl (bits f x).toNat j ≤ cl (bits f x).toNat (bits f 256).toNat := by
      unfold cl; split
      · rw [if_pos (by omega)]; exact Int.le_refl _
      · split <;> omega
    have := (pc (bits f x).toNat).2 (by omega)
    omega
  · intro l hl1 hl2
    rcases Int.lt_or_le 0 l with hl0 | hl0
    · rcases Nat.lt_or_ge (L[p]).2.2 l.toNat with y | y
      · exfalso
        have h1 := (pc (l.toNat - 1)).1 (by omega)
        have h2 := cntC (l.toNat - 1)
        have h3 : ¬ p < Z.countP fun x => decide ((bits f x.toNat).toNat ≤ l.toNat - 1) := fun h => by
          have := (pz (l.toNat - 1)).2 h; omega
        have h4 : cl (l.toNat - 1) (bits f 256).toNat = 0 := by unfold cl; rw [if_neg (by omega)]
        have h5 : cl (l.toNat - 1) j = 0 := by unfold cl; rw [if_neg (by omega)]
        omega
      · omega
    · omega
end Go.Proofs.Ytomckpllbihikaa
