/-
  Insertion sort sorts (plain).
-/
import Derived.Test.YtomckpllbihikaaS4
set_option autoImplicit false
set_option linter.unusedSimpArgs false
set_option linter.unusedVariables false
namespace Go.Proofs.Ytomckpllbihikaa
open X

/-- What comes later is more as a number; and of such pairs the comparison says what the key says. -/
def Tells (D : Int → Prop) (lt : Int → Int → Bool) (K : Int → Int) : Prop := ∀ x y, D x → D y → y < x → (lt x y = true ↔ K x < K y) ∧ K x ≠ K y

/-- The places from a up to b of z hold o's numbers there, rising by the key. -/
structure Seg (K : Int → Int) (o z : List Int) (a b : Nat) : Prop where
  rise : Rise K z a b
  mem : ∀ k, a ≤ k → k < b → ∃ q, a ≤ q ∧ q < b ∧ g z k = g o q

theorem insDown_perm (lt : Int → Int → Bool) (a : Nat) : ∀ (j : Nat) (d : List Int), j < d.length → (insDown lt a d j).Perm d
  | 0, d, _ => .refl _
  | j + 1, d, hj => by
    simp only [insDown]; split
    · exact (insDown_perm lt a j _ (by rw [swp_len]; omega)).trans (swp_perm _ _ _ (by omega) (by omega))
    · exact .refl _

theorem insDown_is {D : Int → Prop} {lt : Int → Int → Bool} {K : Int → Int} (ht : Tells D lt K) {d : List Int} {a i n : Nat} (hn : d.length = n) (hi : i < n) (hD : ∀ k, k < n → D (g d k)) (hlt : ∀ q, a ≤ q → q < i → g d q < g d i) :
    ∀ (j : Nat) (z : List Int), z.length = n → a ≤ j → j ≤ i → (∀ k, k < n → g z k = dnR d j i k) → (∀ q, j ≤ q → q < i → K (g d i) < K (g d q)) →
      ∃ p, a ≤ p ∧ p ≤ i ∧ (∀ k, k < n → g (insDown lt a z j) k = dnR d p i k) ∧ (∀ q, p ≤ q → q < i → K (g d i) < K (g d q)) ∧ (a < p → K (g d (p - 1)) < K (g d i)) := by
  intro j
  induction j with
  | zero => intro z hl h1 h2 hz h3; exact ⟨0, h1, h2, hz, h3, fun h => by omega⟩
  | succ j ih =>
    intro z hl h1 h2 hz h3
    simp only [insDown]
    have e1 : g z (j + 1) = g d i := by rw [hz _ (by omega)]; unfold dnR; rw [if_neg (by omega), if_pos rfl]
    have e2 : g z j = g d j := by rw [hz _ (by omega)]; unfold dnR; rw [if_neg (by omega), if_neg (by omega)]
    rw [e1, e2]
    split
    · rename_i hc
      have ⟨t1, t2⟩ := ht _ _ (hD i hi) (hD j (by omega)) (hlt j (by omega) (by omega))
      refine ih (swp z (j + 1) j) (by rw [swp_len]; exact hl) (by omega) (by omega) (fun k hk => dnR_step (by omega) hi hl hz k hk) (fun q x1 x2 => ?_)
      rcases Nat.lt_or_ge j q with y | y
      · exact h3 q y x2
      · have : q = j := by omega
        subst this; exact t1.1 hc.2
    · rename_i hc
      refine ⟨j + 1, h1, h2, hz, h3, fun h => ?_⟩
      have ⟨t1, t2⟩ := ht _ _ (hD i hi) (hD j (by omega)) (hlt j (by omega) (by omega))
      have : ¬ K (g d i) < K (g d j) := fun x => hc ⟨h, t1.2 x⟩
      have e3 : j + 1 - 1 = j := by omega
      rw [e3]; omega

theorem insTo_is {D : Int → Prop} {lt : Int → Int → Bool} {K : Int → Int} (ht : Tells D lt K) {o : List Int} {a e n : Nat} (ho : o.length = n) (he : e ≤ n) (hD : ∀ k, k < n → D (g o k)) (hup : ∀ i j, a ≤ i → i < j → j < e → g o i < g o j) :
    ∀ (k i : Nat) (z : List Int), z.length = n → z.Perm o → a < i → i + k = e → (∀ q, q < n → (q < a ∨ i ≤ q) → g z q = g o q) → Seg K o z a i →
      (insTo lt a k z i).length = n ∧ (insTo lt a k z i).Perm o ∧ (∀ q, q < n → (q < a ∨ e ≤ q) → g (insTo lt a k z i) q = g o q) ∧ Seg K o (insTo lt a k z i) a e := by
  intro k
  induction k with
  | zero => intro i z hl hp hi hk hq hs; obtain rfl : i = e := by omega
            exact ⟨hl, hp, hq, hs⟩
  | succ k ih =>
    intro i z hl hp hi hk hq hs
    simp only [insTo]
    have hzD : ∀ q, q < n → ∃ r, r < n ∧ g z q = g o r := by
      intro q hqn
      rcases Nat.lt_or_ge q a with x | x
      · exact ⟨q, hqn, hq q hqn (.inl x)⟩
      rcases Nat.lt_or_ge q i with y | y
      · obtain ⟨r, r1, r2, r3⟩ := hs.mem q x y; exact ⟨r, by omega, r3⟩
      · exact ⟨q, hqn, hq q hqn (.inr y)⟩
    have hi' : g z i = g o i := hq i (by omega) (.inr (Nat.le_refl _))
    obtain ⟨p, p1, p2, p3, p4, p5⟩ := insDown_is ht hl (by omega) (fun q hqn => by obtain ⟨r, r1, r2⟩ := hzD q hqn; rw [r2]; exact hD r r1) (fun q x1 x2 => by
        obtain ⟨r, r1, r2, r3⟩ := hs.mem q x1 x2
        rw [r3, hi']; exact hup r i r1 r2 (by omega)) i z hl (by omega) (Nat.le_refl _) (fun q hqn => by
        unfold dnR; rw [if_neg (by omega)]; split
        · rename_i h; rw [h]
        · rfl) (fun q x1 x2 => by omega)
    refine ih (i + 1) _ (by rw [insDown_len]; exact hl) ((insDown_perm lt a i z (by omega)).trans hp) (by omega) (by omega) (fun q hqn x => ?_) ⟨?_, fun q x1 x2 => ?_⟩
    · rw [p3 q hqn]; unfold dnR; rw [if_neg (by omega), if_neg (by omega)]; exact hq q hqn (by omega)
    · refine dn_rise p1 p2 (by omega) p3 hs.rise (fun q x1 x2 => ?_) p4
      have h5 := p5 (by omega)
      rcases Nat.lt_or_ge q (p - 1) with y | y
      · exact Int.lt_trans (hs.rise q (p - 1) x1 y (by omega)) h5
      · have : q = p - 1 := by omega
        subst this; exact h5
    · rw [p3 q (by omega)]; unfold dnR
      split
      · obtain ⟨r, r1, r2, r3⟩ := hs.mem (q - 1) (by omega) (by omega)
        exact ⟨r, r1, by omega, r3⟩
      split
      · exact ⟨i, by omega, by omega, hi'⟩
      · obtain ⟨r, r1, r2, r3⟩ := hs.mem q x1 (by omega)
        exact ⟨r, r1, by omega, r3⟩

/-- Insertion sort of the places from a up to e, as they were at first. -/
theorem insTo_seg {D : Int → Prop} {lt : Int → Int → Bool} {K : Int → Int} (ht : Tells D lt K) {o z : List Int} {a e n : Nat} (ho : o.length = n) (hz : z.length = n) (he : e ≤ n) (ha : a ≤ e) (hp : z.Perm o) (hD : ∀ k, k < n → D (g z k)) (hup : ∀ i j, a ≤ i → i < j → j < e → g z i < g z j) (hzo : ∀ q, a ≤ q → q < e → g z q = g o q) :
    (insTo lt a (e - (a + 1)) z (a + 1)).length = n ∧ (insTo lt a (e - (a + 1)) z (a + 1)).Perm o ∧ (∀ q, q < n → (q < a ∨ e ≤ q) → g (insTo lt a (e - (a + 1)) z (a + 1)) q = g z q) ∧ Seg K o (insTo lt a (e - (a + 1)) z (a + 1)) a e := by
  rcases Nat.eq_or_lt_of_le ha with h | h
  · subst h
    have e1 : a - (a + 1) = 0 := by omega
    rw [e1]; simp only [insTo]
    exact ⟨hz, hp, fun _ _ _ => trivial, ⟨fun i j _ _ _ => by omega, fun k _ _ => by omega⟩⟩
  · obtain ⟨h1, h2, h3, h4⟩ := insTo_is ht hz he hD hup (e - (a + 1)) (a + 1) z hz (.refl _) (by omega) (by omega) (fun _ _ _ => rfl) ⟨fun i j _ _ _ => by omega, fun k x1 x2 => ⟨k, x1, x2, rfl⟩⟩
    refine ⟨h1, h2.trans hp, h3, h4.rise, fun k x1 x2 => ?_⟩
    obtain ⟨q, q1, q2, q3⟩ := h4.mem k x1 x2
    exact ⟨q, q1, q2, by rw [q3, hzo q q1 q2]⟩

theorem Seg.same {K : Int → Int} {o y z : List Int} {a b : Nat} (h : Seg K o y a b) (he : ∀ k, a ≤ k → k < b → g z k = g y k) : Seg K o z a b :=
  ⟨h.rise.same he, fun k x1 x2 => by rw [he k x1 x2]; exact h.mem k x1 x2⟩
/-- Two parts, one behind the other, may be merged. -/
theorem Seg.agree {D : Int → Prop} {lt : Int → Int → Bool} {K : Int → Int} (ht : Tells D lt K) {o z : List Int} {a m b n : Nat} (hD : ∀ k, k < n → D (g o k)) (hup : ∀ i j, i < j → j < n → g o i < g o j) (hb : b ≤ n) (h1 : Seg K o z a m) (h2 : Seg K o z m b) : Agree lt K z a m b := by
  intro i j x1 x2 x3 x4
  obtain ⟨p, p1, p2, p3⟩ := h1.mem i x1 x2
  obtain ⟨q, q1, q2, q3⟩ := h2.mem j x3 x4
  rw [p3, q3]
  exact ht _ _ (hD q (by omega)) (hD p (by omega)) (hup p q (by omega) (by omega))


theorem g_mem {z : List Int} {k : Nat} (h : k < z.length) : g z k ∈ z := by
  simp only [g, List.getD_eq_getElem?_getD, List.getElem?_eq_getElem h, Option.getD_some]; exact List.getElem_mem h
theorem mem_g {z : List Int} {x : Int} (h : x ∈ z) : ∃ k, k < z.length ∧ g z k = x := by
  obtain ⟨k, hk, rfl⟩ := List.mem_iff_getElem.1 h
  exact ⟨k, hk, by simp [g, List.getD_eq_getElem?_getD, List.getElem?_eq_getElem hk]⟩
theorem perm_dom {D : Int → Prop} {o z : List Int} {n : Nat} (hp : z.Perm o) (ho : o.length = n) (hD : ∀ k, k < n → D (g o k)) (k : Nat) (hk : k < n) : D (g z k) := by
  have hl : z.length = n := hp.length_eq.trans ho
  obtain ⟨q, q1, q2⟩ := mem_g (hp.mem_iff.1 (g_mem (by omega : k < z.length)))
  rw [← q2]; exact hD q (by omega)

/-- All blocks of bs places are sorted. -/
def Lev (K : Int → Int) (o z : List Int) (bs n : Nat) : Prop := ∀ u, u * bs < n → Seg K o z (u * bs) (min (u * bs + bs) n)

/-- How far a pass of merges is: all blocks of 2 * bs places that end at a are sorted, behind them those of bs places. -/
structure Pass (K : Int → Int) (o z : List Int) (bs n t : Nat) : Prop where
  len : z.length = n
  perm : z.Perm o
  le : t * (2 * bs) ≤ n
  lo : ∀ u, u < t → Seg K o z (u * (2 * bs)) (u * (2 * bs) + 2 * bs)
  hi : ∀ u, 2 * t ≤ u → u * bs < n → Seg K o z (u * bs) (min (u * bs + bs) n)
theorem Pass.same {K : Int → Int} {o y z : List Int} {bs n t : Nat} (h : Pass K o y bs n t) (hbs : 0 < bs) (hl : z.length = n) (hp : z.Perm o) (he : t * (2 * bs) + 2 * bs ≤ n) (ho : ∀ k, k < n → (k < t * (2 * bs) ∨ t * (2 * bs) + 2 * bs ≤ k) → g z k = g y k)
    (hs : Seg K o z (t * (2 * bs)) (t * (2 * bs) + 2 * bs)) : Pass K o z bs n (t + 1) := by
  refine ⟨hl, hp, by rw [Nat.add_mul, Nat.one_mul]; exact he, fun u hu => ?_, fun u hu hn => ?_⟩
  · rcases Nat.lt_or_ge u t with x | x
    · have h1 : (u + 1) * (2 * bs) ≤ t * (2 * bs) := Nat.mul_le_mul_right _ (by omega)
      rw [Nat.add_mul, Nat.one_mul] at h1
      exact (h.lo u x).same fun k x1 x2 => ho k (by omega) (by omega)
    · obtain rfl : u = t := by omega
      exact hs
  · have h1 : (2 * (t + 1)) * bs ≤ u * bs := Nat.mul_le_mul_right _ hu
    have h2 : (2 * (t + 1)) * bs = t * (2 * bs) + 2 * bs := by rw [Nat.mul_assoc, Nat.mul_left_comm, Nat.add_mul, Nat.one_mul]
    exact (h.hi u (by omega) hn).same fun k x1 x2 => ho k (by omega) (by omega)
theorem Pass.two {K : Int → Int} {o z : List Int} {bs n t : Nat} (h : Pass K o z bs n t) (hbs : 0 < bs) (he : t * (2 * bs) + bs < n) : Seg K o z (t * (2 * bs)) (t * (2 * bs) + bs) ∧ Seg K o z (t * (2 * bs) + bs) (min (t * (2 * bs) + 2 * bs) n) := by
  have e1 : (2 * t) * bs = t * (2 * bs) := by rw [Nat.mul_assoc, Nat.mul_left_comm]
  have e2 : (2 * t + 1) * bs = t * (2 * bs) + bs := by rw [Nat.add_mul, e1, Nat.one_mul]
  have h1 := h.hi (2 * t) (by omega) (by omega)
  have h2 := h.hi (2 * t + 1) (by omega) (by omega)
  rw [e1, Nat.min_eq_left (by omega)] at h1
  rw [e2, show t * (2 * bs) + bs + bs = t * (2 * bs) + 2 * bs by omega] at h2
  exact ⟨h1, h2⟩
theorem Pass.one {K : Int → Int} {o z : List Int} {bs n t : Nat} (h : Pass K o z bs n t) (hbs : 0 < bs) (he : n ≤ t * (2 * bs) + bs) (ha : t * (2 * bs) < n) : Seg K o z (t * (2 * bs)) n := by
  have e1 : (2 * t) * bs = t * (2 * bs) := by rw [Nat.mul_assoc, Nat.mul_left_comm]
  have h1 := h.hi (2 * t) (by omega) (by omega)
  rw [e1, Nat.min_eq_right (by omega)] at h1
  exact h1
theorem Pass.lev {K : Int → Int} {o y z : List Int} {bs n t : Nat} (h : Pass K o y bs n t) (hbs : 0 < bs) (he : n < t * (2 * bs) + 2 * bs) (ho : ∀ k, k < n → k < t * (2 * bs) → g z k = g y k) (hs : t * (2 * bs) < n → Seg K o z (t * (2 * bs)) n) : Lev K o z (2 * bs) n := by
  intro u hu
  rcases Nat.lt_or_ge u t with x | x
  · have h1 : (u + 1) * (2 * bs) ≤ t * (2 * bs) := Nat.mul_le_mul_right _ (by omega)
    rw [Nat.add_mul, Nat.one_mul] at h1
    have h3 := h.le
    have y : u * (2 * bs) + 2 * bs ≤ n := by omega
    rw [Nat.min_eq_left y]
    exact (h.lo u x).same fun k x1 x2 => ho k (by omega) (by omega)
  · have h1 : t * (2 * bs) ≤ u * (2 * bs) := Nat.mul_le_mul_right _ x
    rcases Nat.lt_or_ge t u with y | y
    · have h2 : (t + 1) * (2 * bs) ≤ u * (2 * bs) := Nat.mul_le_mul_right _ y
      rw [Nat.add_mul, Nat.one_mul] at h2
      omega
    · obtain rfl : u = t := by omega
      rw [Nat.min_eq_right (by omega)]
      exact hs hu

def StablePost (J : World → Prop) (K : Int → Int) (w : World) (bk n : Nat) (o : List Int) (rest : List Value) (r : Ending) (w' : World) : Prop :=
  r = .returned (.tuple #[]) ∧ ∃ Z : List Int, Own w' bk (Z.map (Value.int .i64) ++ rest).toArray ∧ Z.length = n ∧ Z.Perm o ∧ Rise K Z 0 n ∧ J w' ∧ Fr (· = bk) w w'

set_option maxHeartbeats 1000000 in
set_option maxRecDepth 10000 in
theorem stable_any {cf : Value} {J : World → Prop} {D : Int → Prop} {lt : Int → Int → Bool} {K : Int → Int} (hcf : Cmp cf J D lt) (ht : Tells D lt K) (w : World) (bk n cap : Nat) (o : List Int) (rest : List Value) (hk : Keeps J bk) (hJ : J w) (hn : o.length = n) (hn2 : n < 100000)
    (hD : ∀ k, k < n → D (g o k)) (hup : ∀ i j, i < j → j < n → g o i < g o j) (hb : Own w bk (o.map (Value.int .i64) ++ rest).toArray) :
    Calls Try.prog 28 [.slice (some ⟨bk, 0, none⟩) n cap, .int .i64 (n : Int), cf].toArray w (StablePost J K w bk n o rest) := by
  refine enter28 (by simp) ?_
  (repeat' first | (simp only [RA, MI, S.dst, Nat.reduceAdd, Nat.reduceMul, Nat.reduceEqDiff, ↓reduceIte, reduceCtorEq, ne_eq, Nat.reduceLT, Nat.reduceLeDiff, gt_iff_lt, ge_iff_le, Int.reduceToNat, Nat.reduceSub, c28, x28, true_and]) | ((with_reducible first | apply bound_of | apply wr_i64 | apply wr_u8 | apply wr_u64); (first | omega | (simp only [LN] at *; omega)); (first | omega | (simp only [LN] at *; omega))) | ((with_reducible apply ld_row); (focus ((repeat' first | (with_reducible first | assumption | apply Own.set | apply Own.new | apply Own.newD | apply Own.drew | apply Row.drew | apply Row.set | apply Row.new | apply Row.newD | apply Own.alloc | apply Row.alloc | apply Own.ne | apply Row.ne | apply Own.row) | (first | omega | (simp only [LN] at *; omega))); done))) | ((with_reducible apply ldN_row); (focus ((repeat' first | (with_reducible first | assumption | apply Own.set | apply Own.new | apply Own.newD | apply Own.drew | apply Row.drew | apply Row.set | apply Row.new | apply Row.newD | apply Own.alloc | apply Row.alloc | apply Own.ne | apply Row.ne | apply Own.row) | (first | omega | (simp only [LN] at *; omega))); done)); (first | omega | (simp only [LN] at *; omega))) | ((with_reducible apply st_row); (focus ((repeat' first | (with_reducible first | assumption | apply Own.set | apply Own.new | apply Own.newD | apply Own.drew | apply Row.drew | apply Row.set | apply Row.new | apply Row.newD | apply Own.alloc | apply Row.alloc | apply Own.ne | apply Row.ne | apply Own.row) | (first | omega | (simp only [LN] at *; omega))); done)); (first | omega | (simp only [LN] at *; omega)); rfl) | ((with_reducible first | apply ints_at | apply le_andI | apply le_andN | apply ne_andI); (first | omega | (simp only [LN] at *; omega))) | (with_reducible refine ite_of (fun _ => ?_) (fun _ => ?_)))
  refine loop_of (σ := Nat × List Int) (fun t => [(0, .slice (some ⟨bk, 0, none⟩) n cap), (1, .int .i64 (n : Int)), (2, cf), (6, .int .i64 20), (7, .int .i64 ((20 * t.1 : Nat) : Int)), (8, .int .i64 ((20 * t.1 + 20 : Nat) : Int))])
    (fun t w' => 20 * t.1 ≤ n ∧ t.2.length = n ∧ t.2.Perm o ∧ (∀ u, u < t.1 → Seg K o t.2 (20 * u) (20 * u + 20)) ∧ (∀ k, 20 * t.1 ≤ k → k < n → g t.2 k = g o k) ∧ Own w' bk (t.2.map (Value.int .i64) ++ rest).toArray ∧ J w' ∧ Fr (· = bk) w w')
    (fun t => n + 40 - 20 * t.1) (0, o) rfl ⟨by simp, hn, .refl _, fun u hu => absurd hu (Nat.not_lt_zero _), fun _ _ _ => rfl, hb, hJ, .refl _ _⟩ ?_
  clear hb hJ
  rintro ⟨t, z⟩ w' ⟨h1, hz, hp, hs, hzo, hb, hJ, hf⟩
  dsimp only at *
  have hzD := perm_dom hp hn hD
  have hzup : ∀ e, e ≤ n → ∀ i j, 20 * t ≤ i → i < j → j < e → g z i < g z j := fun e he i j x1 x2 x3 => by
    rw [hzo i x1 (by omega), hzo j (by omega) (by omega)]; exact hup i j x2 (by omega)
  (repeat' first | (simp only [RA, MI, S.dst, Nat.reduceAdd, Nat.reduceMul, Nat.reduceEqDiff, ↓reduceIte, reduceCtorEq, ne_eq, Nat.reduceLT, Nat.reduceLeDiff, gt_iff_lt, ge_iff_le, Int.reduceToNat, Nat.reduceSub, c28, x28, true_and]) | ((with_reducible first | apply bound_of | apply wr_i64 | apply wr_u8 | apply wr_u64); (first | omega | (simp only [LN] at *; omega)); (first | omega | (simp only [LN] at *; omega))) | ((with_reducible apply ld_row); (focus ((repeat' first | (with_reducible first | assumption | apply Own.set | apply Own.new | apply Own.newD | apply Own.drew | apply Row.drew | apply Row.set | apply Row.new | apply Row.newD | apply Own.alloc | apply Row.alloc | apply Own.ne | apply Row.ne | apply Own.row) | (first | omega | (simp only [LN] at *; omega))); done))) | ((with_reducible apply ldN_row); (focus ((repeat' first | (with_reducible first | assumption | apply Own.set | apply Own.new | apply Own.newD | apply Own.drew | apply Row.drew | apply Row.set | apply Row.new | apply Row.newD | apply Own.alloc | apply Row.alloc | apply Own.ne | apply Row.ne | apply Own.row) | (first | omega | (simp only [LN] at *; omega))); done)); (first | omega | (simp only [LN] at *; omega))) | ((with_reducible apply st_row); (focus ((repeat' first | (with_reducible first | assumption | apply Own.set | apply Own.new | apply Own.newD | apply Own.drew | apply Row.drew | apply Row.set | apply Row.new | apply Row.newD | apply Own.alloc | apply Row.alloc | apply Own.ne | apply Row.ne | apply Own.row) | (first | omega | (simp only [LN] at *; omega))); done)); (first | omega | (simp only [LN] at *; omega)); rfl) | ((with_reducible first | apply ints_at | apply le_andI | apply le_andN | apply ne_andI); (first | omega | (simp only [LN] at *; omega))) | (with_reducible refine ite_of (fun _ => ?_) (fun _ => ?_)))
  · rename_i hle
    obtain ⟨s1, s2, s3, s4⟩ := insTo_seg ht hn hz (e := 20 * t + 20) (a := 20 * t) (by omega) (by omega) hp hzD (hzup _ (by omega)) (fun q x1 x2 => hzo q x1 (by omega))
    refine calls_mono (insertion_any hcf w' bk n cap (20 * t) (20 * t + 20) z rest hk hJ hz (by omega) hzD hb h1 (by omega) _ rfl) ?_
    rintro _ w2 ⟨rfl, hb2, hl2, hD2, hJ2, hf2⟩
    obtain ⟨y, hy⟩ : ∃ y, insTo lt (20 * t) (20 * t + 20 - (20 * t + 1)) z (20 * t + 1) = y := ⟨_, rfl⟩
    rw [hy] at hb2 hl2 s1 s2 s4
    simp only [hy] at s3 hD2
    (repeat' first | (simp only [RA, MI, S.dst, Nat.reduceAdd, Nat.reduceMul, Nat.reduceEqDiff, ↓reduceIte, reduceCtorEq, ne_eq, Nat.reduceLT, Nat.reduceLeDiff, gt_iff_lt, ge_iff_le, Int.reduceToNat, Nat.reduceSub, c28, x28, true_and]) | ((with_reducible first | apply bound_of | apply wr_i64 | apply wr_u8 | apply wr_u64); (first | omega | (simp only [LN] at *; omega)); (first | omega | (simp only [LN] at *; omega))) | ((with_reducible apply ld_row); (focus ((repeat' first | (with_reducible first | assumption | apply Own.set | apply Own.new | apply Own.newD | apply Own.drew | apply Row.drew | apply Row.set | apply Row.new | apply Row.newD | apply Own.alloc | apply Row.alloc | apply Own.ne | apply Row.ne | apply Own.row) | (first | omega | (simp only [LN] at *; omega))); done))) | ((with_reducible apply ldN_row); (focus ((repeat' first | (with_reducible first | assumption | apply Own.set | apply Own.new | apply Own.newD | apply Own.drew | apply Row.drew | apply Row.set | apply Row.new | apply Row.newD | apply Own.alloc | apply Row.alloc | apply Own.ne | apply Row.ne | apply Own.row) | (first | omega | (simp only [LN] at *; omega))); done)); (first | omega | (simp only [LN] at *; omega))) | ((with_reducible apply st_row); (focus ((repeat' first | (with_reducible first | assumption | apply Own.set | apply Own.new | apply Own.newD | apply Own.drew | apply Row.drew | apply Row.set | apply Row.new | apply Row.newD | apply Own.alloc | apply Row.alloc | apply Own.ne | apply Row.ne | apply Own.row) | (first | omega | (simp only [LN] at *; omega))); done)); (first | omega | (simp only [LN] at *; omega)); rfl) | ((with_reducible first | apply ints_at | apply le_andI | apply le_andN | apply ne_andI); (first | omega | (simp only [LN] at *; omega))) | (with_reducible refine ite_of (fun _ => ?_) (fun _ => ?_)))
    refine ⟨(t + 1, y), ?_, ⟨by dsimp only; omega, s1, s2, fun u hu => ?_, fun k x1 x2 => ?_, hb2, hJ2, hf.trans hf2⟩, by dsimp only; omega⟩
    · (first | rfl | (simp only [List.cons.injEq, Prod.mk.injEq, Value.int.injEq, Value.bool.injEq, true_and, and_true, List.cons_append, List.nil_append]; done) | (simp only [List.cons.injEq, Prod.mk.injEq, Value.int.injEq, Value.bool.injEq, true_and, and_true, List.cons_append, List.nil_append]; omega))
    · rcases Nat.lt_or_ge u t with x | x
      · exact (hs u x).same fun k x1 x2 => s3 k (by omega) (by omega)
      · obtain rfl : u = t := by omega
        exact s4
    · dsimp only at x1
      rw [s3 k x2 (by omega)]; exact hzo k (by omega) x2
  · rename_i hle
    obtain ⟨s1, s2, s3, s4⟩ := insTo_seg ht hn hz (e := n) (a := 20 * t) (by omega) (by omega) hp hzD (hzup _ (by omega)) (fun q x1 x2 => hzo q x1 (by omega))
    refine calls_mono (insertion_any hcf w' bk n cap (20 * t) n z rest hk hJ hz (by omega) hzD hb h1 (by omega) _ rfl) ?_
    rintro _ w2 ⟨rfl, hb2, hl2, hD2, hJ2, hf2⟩
    obtain ⟨y, hy⟩ : ∃ y, insTo lt (20 * t) (n - (20 * t + 1)) z (20 * t + 1) = y := ⟨_, rfl⟩
    rw [hy] at hb2 hl2 s1 s2 s4
    simp only [hy] at s3 hD2
    have hl : Lev K o y 20 n := by
      intro u hu
      rcases Nat.lt_or_ge u t with x | x
      · rw [Nat.min_eq_left (by omega), Nat.mul_comm]
        exact (hs u x).same fun k x1 x2 => s3 k (by omega) (by omega)
      · obtain rfl : u = t := by omega
        rw [Nat.min_eq_right (by omega), Nat.mul_comm]; exact s4
    have hf3 := hf.trans hf2
    clear hb hJ hzo hs hzD hzup hp hz s1 s3 s4 hy hf hf2 hD2
    (repeat' first | (simp only [RA, MI, S.dst, Nat.reduceAdd, Nat.reduceMul, Nat.reduceEqDiff, ↓reduceIte, reduceCtorEq, ne_eq, Nat.reduceLT, Nat.reduceLeDiff, gt_iff_lt, ge_iff_le, Int.reduceToNat, Nat.reduceSub, c28, x28, true_and]) | ((with_reducible first | apply bound_of | apply wr_i64 | apply wr_u8 | apply wr_u64); (first | omega | (simp only [LN] at *; omega)); (first | omega | (simp only [LN] at *; omega))) | ((with_reducible apply ld_row); (focus ((repeat' first | (with_reducible first | assumption | apply Own.set | apply Own.new | apply Own.newD | apply Own.drew | apply Row.drew | apply Row.set | apply Row.new | apply Row.newD | apply Own.alloc | apply Row.alloc | apply Own.ne | apply Row.ne | apply Own.row) | (first | omega | (simp only [LN] at *; omega))); done))) | ((with_reducible apply ldN_row); (focus ((repeat' first | (with_reducible first | assumption | apply Own.set | apply Own.new | apply Own.newD | apply Own.drew | apply Row.drew | apply Row.set | apply Row.new | apply Row.newD | apply Own.alloc | apply Row.alloc | apply Own.ne | apply Row.ne | apply Own.row) | (first | omega | (simp only [LN] at *; omega))); done)); (first | omega | (simp only [LN] at *; omega))) | ((with_reducible apply st_row); (focus ((repeat' first | (with_reducible first | assumption | apply Own.set | apply Own.new | apply Own.newD | apply Own.drew | apply Row.drew | apply Row.set | apply Row.new | apply Row.newD | apply Own.alloc | apply Row.alloc | apply Own.ne | apply Row.ne | apply Own.row) | (first | omega | (simp only [LN] at *; omega))); done)); (first | omega | (simp only [LN] at *; omega)); rfl) | ((with_reducible first | apply ints_at | apply le_andI | apply le_andN | apply ne_andI); (first | omega | (simp only [LN] at *; omega))) | (with_reducible refine ite_of (fun _ => ?_) (fun _ => ?_)))
    refine loop_of (σ := Nat × List Int) (fun t => [(0, .slice (some ⟨bk, 0, none⟩) n cap), (1, .int .i64 (n : Int)), (2, cf), (6, .int .i64 (t.1 : Int))])
      (fun t w' => 20 ≤ t.1 ∧ t.1 ≤ 2 * n + 20 ∧ t.2.length = n ∧ t.2.Perm o ∧ Lev K o t.2 t.1 n ∧ Own w' bk (t.2.map (Value.int .i64) ++ rest).toArray ∧ J w' ∧ Fr (· = bk) w w')
      (fun t => 2 * n + 40 - t.1) (20, y) rfl ⟨by simp, by simp, hl2, s2, hl, hb2, hJ2, hf3⟩ ?_
    clear hb2 hJ2 hf3 hl s2 hl2 hle h1
    rintro ⟨bs, z⟩ w' ⟨h1, h2, hz, hp, hl, hb, hJ, hf⟩
    dsimp only at *
    (repeat' first | (simp only [RA, MI, S.dst, Nat.reduceAdd, Nat.reduceMul, Nat.reduceEqDiff, ↓reduceIte, reduceCtorEq, ne_eq, Nat.reduceLT, Nat.reduceLeDiff, gt_iff_lt, ge_iff_le, Int.reduceToNat, Nat.reduceSub, c28, x28, true_and]) | ((with_reducible first | apply bound_of | apply wr_i64 | apply wr_u8 | apply wr_u64); (first | omega | (simp only [LN] at *; omega)); (first | omega | (simp only [LN] at *; omega))) | ((with_reducible apply ld_row); (focus ((repeat' first | (with_reducible first | assumption | apply Own.set | apply Own.new | apply Own.newD | apply Own.drew | apply Row.drew | apply Row.set | apply Row.new | apply Row.newD | apply Own.alloc | apply Row.alloc | apply Own.ne | apply Row.ne | apply Own.row) | (first | omega | (simp only [LN] at *; omega))); done))) | ((with_reducible apply ldN_row); (focus ((repeat' first | (with_reducible first | assumption | apply Own.set | apply Own.new | apply Own.newD | apply Own.drew | apply Row.drew | apply Row.set | apply Row.new | apply Row.newD | apply Own.alloc | apply Row.alloc | apply Own.ne | apply Row.ne | apply Own.row) | (first | omega | (simp only [LN] at *; omega))); done)); (first | omega | (simp only [LN] at *; omega))) | ((with_reducible apply st_row); (focus ((repeat' first | (with_reducible first | assumption | apply Own.set | apply Own.new | apply Own.newD | apply Own.drew | apply Row.drew | apply Row.set | apply Row.new | apply Row.newD | apply Own.alloc | apply Row.alloc | apply Own.ne | apply Row.ne | apply Own.row) | (first | omega | (simp only [LN] at *; omega))); done)); (first | omega | (simp only [LN] at *; omega)); rfl) | ((with_reducible first | apply ints_at | apply le_andI | apply le_andN | apply ne_andI); (first | omega | (simp only [LN] at *; omega))) | (with_reducible refine ite_of (fun _ => ?_) (fun _ => ?_)))
    · rename_i hbn
      refine loop_of (σ := Nat × Nat × List Int) (fun t => [(0, .slice (some ⟨bk, 0, none⟩) n cap), (1, .int .i64 (n : Int)), (2, cf), (6, .int .i64 (bs : Int)), (7, .int .i64 (t.2.1 : Int)), (8, .int .i64 ((t.2.1 + 2 * bs : Nat) : Int))])
        (fun t w' => t.2.1 = t.1 * (2 * bs) ∧ Pass K o t.2.2 bs n t.1 ∧ Own w' bk (t.2.2.map (Value.int .i64) ++ rest).toArray ∧ J w' ∧ Fr (· = bk) w w')
        (fun t => n + 1 - t.2.1) (0, 0, z) ?_ ⟨by simp, ⟨hz, hp, by simp, fun u hu => absurd hu (Nat.not_lt_zero _), fun u _ hu => hl u hu⟩, hb, hJ, hf⟩ ?_
      · (first | rfl | (simp only [List.cons.injEq, Prod.mk.injEq, Value.int.injEq, Value.bool.injEq, true_and, and_true, List.cons_append, List.nil_append]; done) | (simp only [List.cons.injEq, Prod.mk.injEq, Value.int.injEq, Value.bool.injEq, true_and, and_true, List.cons_append, List.nil_append]; omega))
      clear hb hJ hf hl hp hz
      rintro ⟨t, a, z⟩ w' ⟨ha, hP, hb, hJ, hf⟩
      dsimp only at *
      have han := hP.le
      rw [← ha] at han
      have hzD := perm_dom hP.perm hn hD
      (repeat' first | (simp only [RA, MI, S.dst, Nat.reduceAdd, Nat.reduceMul, Nat.reduceEqDiff, ↓reduceIte, reduceCtorEq, ne_eq, Nat.reduceLT, Nat.reduceLeDiff, gt_iff_lt, ge_iff_le, Int.reduceToNat, Nat.reduceSub, c28, x28, true_and]) | ((with_reducible first | apply bound_of | apply wr_i64 | apply wr_u8 | apply wr_u64); (first | omega | (simp only [LN] at *; omega)); (first | omega | (simp only [LN] at *; omega))) | ((with_reducible apply ld_row); (focus ((repeat' first | (with_reducible first | assumption | apply Own.set | apply Own.new | apply Own.newD | apply Own.drew | apply Row.drew | apply Row.set | apply Row.new | apply Row.newD | apply Own.alloc | apply Row.alloc | apply Own.ne | apply Row.ne | apply Own.row) | (first | omega | (simp only [LN] at *; omega))); done))) | ((with_reducible apply ldN_row); (focus ((repeat' first | (with_reducible first | assumption | apply Own.set | apply Own.new | apply Own.newD | apply Own.drew | apply Row.drew | apply Row.set | apply Row.new | apply Row.newD | apply Own.alloc | apply Row.alloc | apply Own.ne | apply Row.ne | apply Own.row) | (first | omega | (simp only [LN] at *; omega))); done)); (first | omega | (simp only [LN] at *; omega))) | ((with_reducible apply st_row); (focus ((repeat' first | (with_reducible first | assumption | apply Own.set | apply Own.new | apply Own.newD | apply Own.drew | apply Row.drew | apply Row.set | apply Row.new | apply Row.newD | apply Own.alloc | apply Row.alloc | apply Own.ne | apply Row.ne | apply Own.row) | (first | omega | (simp only [LN] at *; omega))); done)); (first | omega | (simp only [LN] at *; omega)); rfl) | ((with_reducible first | apply ints_at | apply le_andI | apply le_andN | apply ne_andI); (first | omega | (simp only [LN] at *; omega))) | (with_reducible refine ite_of (fun _ => ?_) (fun _ => ?_)))
      · rename_i hle
        obtain ⟨g1, g2⟩ := hP.two (by omega) (by omega)
        rw [← ha] at g1 g2
        rw [Nat.min_eq_left (by omega)] at g2
        have c1 : (a : Int) + bs = ((a + bs : Nat) : Int) := by omega
        try rw [c1]
        refine calls_mono (symMerge_any hcf bk n cap rest hk (by omega) n w' a (a + bs) (a + 2 * bs) z (by omega) hJ hP.len hzD hb (by omega) (by omega) (by omega) g1.rise g2.rise (Seg.agree ht hD hup (by omega) g1 g2)) ?_
        rintro _ w2 ⟨rfl, y, hb2, hy, hp2, ho2, r2, hm2, hD2, hJ2, hf2⟩
        have hseg : Seg K o y a (a + 2 * bs) := ⟨r2, fun k x1 x2 => by
          obtain ⟨q, q1, q2, q3⟩ := hm2 k x1 x2
          rcases Nat.lt_or_ge q (a + bs) with v | v
          · obtain ⟨r, r1, r2, r3⟩ := g1.mem q q1 v; exact ⟨r, r1, by omega, q3.trans r3⟩
          · obtain ⟨r, r1, r2, r3⟩ := g2.mem q v q2; exact ⟨r, by omega, r2, q3.trans r3⟩⟩
        (repeat' first | (simp only [RA, MI, S.dst, Nat.reduceAdd, Nat.reduceMul, Nat.reduceEqDiff, ↓reduceIte, reduceCtorEq, ne_eq, Nat.reduceLT, Nat.reduceLeDiff, gt_iff_lt, ge_iff_le, Int.reduceToNat, Nat.reduceSub, c28, x28, true_and]) | ((with_reducible first | apply bound_of | apply wr_i64 | apply wr_u8 | apply wr_u64); (first | omega | (simp only [LN] at *; omega)); (first | omega | (simp only [LN] at *; omega))) | ((with_reducible apply ld_row); (focus ((repeat' first | (with_reducible first | assumption | apply Own.set | apply Own.new | apply Own.newD | apply Own.drew | apply Row.drew | apply Row.set | apply Row.new | apply Row.newD | apply Own.alloc | apply Row.alloc | apply Own.ne | apply Row.ne | apply Own.row) | (first | omega | (simp only [LN] at *; omega))); done))) | ((with_reducible apply ldN_row); (focus ((repeat' first | (with_reducible first | assumption | apply Own.set | apply Own.new | apply Own.newD | apply Own.drew | apply Row.drew | apply Row.set | apply Row.new | apply Row.newD | apply Own.alloc | apply Row.alloc | apply Own.ne | apply Row.ne | apply Own.row) | (first | omega | (simp only [LN] at *; omega))); done)); (first | omega | (simp only [LN] at *; omega))) | ((with_reducible apply st_row); (focus ((repeat' first | (with_reducible first | assumption | apply Own.set | apply Own.new | apply Own.newD | apply Own.drew | apply Row.drew | apply Row.set | apply Row.new | apply Row.newD | apply Own.alloc | apply Row.alloc | apply Own.ne | apply Row.ne | apply Own.row) | (first | omega | (simp only [LN] at *; omega))); done)); (first | omega | (simp only [LN] at *; omega)); rfl) | ((with_reducible first | apply ints_at | apply le_andI | apply le_andN | apply ne_andI); (first | omega | (simp only [LN] at *; omega))) | (with_reducible refine ite_of (fun _ => ?_) (fun _ => ?_)))
        refine ⟨(t + 1, a + 2 * bs, y), ?_, ⟨by dsimp only; rw [Nat.add_mul, Nat.one_mul, ← ha], ?_, hb2, hJ2, hf.trans hf2⟩, by dsimp only; omega⟩
        · (first | rfl | (simp only [List.cons.injEq, Prod.mk.injEq, Value.int.injEq, Value.bool.injEq, true_and, and_true, List.cons_append, List.nil_append]; done) | (simp only [List.cons.injEq, Prod.mk.injEq, Value.int.injEq, Value.bool.injEq, true_and, and_true, List.cons_append, List.nil_append]; omega))
        · refine hP.same (by omega) hy (hp2.trans hP.perm) (by omega) (by rw [← ha]; exact ho2) (by rw [← ha]; exact hseg)
      · rename_i hle hmn
        obtain ⟨g1, g2⟩ := hP.two (by omega) (by omega)
        rw [← ha] at g1 g2
        rw [Nat.min_eq_right (by omega)] at g2
        have c1 : (a : Int) + bs = ((a + bs : Nat) : Int) := by omega
        try rw [c1]
        refine calls_mono (symMerge_any hcf bk n cap rest hk (by omega) n w' a (a + bs) n z (by omega) hJ hP.len hzD hb (by omega) (by omega) (by omega) g1.rise g2.rise (Seg.agree ht hD hup (by omega) g1 g2)) ?_
        rintro _ w2 ⟨rfl, y, hb2, hy, hp2, ho2, r2, hm2, hD2, hJ2, hf2⟩
        have hseg : Seg K o y a n := ⟨r2, fun k x1 x2 => by
          obtain ⟨q, q1, q2, q3⟩ := hm2 k x1 x2
          rcases Nat.lt_or_ge q (a + bs) with v | v
          · obtain ⟨r, r1, r2, r3⟩ := g1.mem q q1 v; exact ⟨r, r1, by omega, q3.trans r3⟩
          · obtain ⟨r, r1, r2, r3⟩ := g2.mem q v q2; exact ⟨r, by omega, r2, q3.trans r3⟩⟩
        (repeat' first | (simp only [RA, MI, S.dst, Nat.reduceAdd, Nat.reduceMul, Nat.reduceEqDiff, ↓reduceIte, reduceCtorEq, ne_eq, Nat.reduceLT, Nat.reduceLeDiff, gt_iff_lt, ge_iff_le, Int.reduceToNat, Nat.reduceSub, c28, x28, true_and]) | ((with_reducible first | apply bound_of | apply wr_i64 | apply wr_u8 | apply wr_u64); (first | omega | (simp only [LN] at *; omega)); (first | omega | (simp only [LN] at *; omega))) | ((with_reducible apply ld_row); (focus ((repeat' first | (with_reducible first | assumption | apply Own.set | apply Own.new | apply Own.newD | apply Own.drew | apply Row.drew | apply Row.set | apply Row.new | apply Row.newD | apply Own.alloc | apply Row.alloc | apply Own.ne | apply Row.ne | apply Own.row) | (first | omega | (simp only [LN] at *; omega))); done))) | ((with_reducible apply ldN_row); (focus ((repeat' first | (with_reducible first | assumption | apply Own.set | apply Own.new | apply Own.newD | apply Own.drew | apply Row.drew | apply Row.set | apply Row.new | apply Row.newD | apply Own.alloc | apply Row.alloc | apply Own.ne | apply Row.ne | apply Own.row) | (first | omega | (simp only [LN] at *; omega))); done)); (first | omega | (simp only [LN] at *; omega))) | ((with_reducible apply st_row); (focus ((repeat' first | (with_reducible first | assumption | apply Own.set | apply Own.new | apply Own.newD | apply Own.drew | apply Row.drew | apply Row.set | apply Row.new | apply Row.newD | apply Own.alloc | apply Row.alloc | apply Own.ne | apply Row.ne | apply Own.row) | (first | omega | (simp only [LN] at *; omega))); done)); (first | omega | (simp only [LN] at *; omega)); rfl) | ((with_reducible first | apply ints_at | apply le_andI | apply le_andN | apply ne_andI); (first | omega | (simp only [LN] at *; omega))) | (with_reducible refine ite_of (fun _ => ?_) (fun _ => ?_)))
        refine ⟨(2 * bs, y), ?_, ⟨by dsimp only; omega, by dsimp only; omega, hy, hp2.trans hP.perm, hP.lev (by omega) (by omega) (fun k x1 x2 => ho2 k x1 (by omega)) (fun _ => by rw [← ha]; exact hseg), hb2, hJ2, hf.trans hf2⟩, by dsimp only; omega⟩
        · (first | rfl | (simp only [List.cons.injEq, Prod.mk.injEq, Value.int.injEq, Value.bool.injEq, true_and, and_true, List.cons_append, List.nil_append]; done) | (simp only [List.cons.injEq, Prod.mk.injEq, Value.int.injEq, Value.bool.injEq, true_and, and_true, List.cons_append, List.nil_append]; omega))
      · rename_i hle hmn
        (repeat' first | (simp only [RA, MI, S.dst, Nat.reduceAdd, Nat.reduceMul, Nat.reduceEqDiff, ↓reduceIte, reduceCtorEq, ne_eq, Nat.reduceLT, Nat.reduceLeDiff, gt_iff_lt, ge_iff_le, Int.reduceToNat, Nat.reduceSub, c28, x28, true_and]) | ((with_reducible first | apply bound_of | apply wr_i64 | apply wr_u8 | apply wr_u64); (first | omega | (simp only [LN] at *; omega)); (first | omega | (simp only [LN] at *; omega))) | ((with_reducible apply ld_row); (focus ((repeat' first | (with_reducible first | assumption | apply Own.set | apply Own.new | apply Own.newD | apply Own.drew | apply Row.drew | apply Row.set | apply Row.new | apply Row.newD | apply Own.alloc | apply Row.alloc | apply Own.ne | apply Row.ne | apply Own.row) | (first | omega | (simp only [LN] at *; omega))); done))) | ((with_reducible apply ldN_row); (focus ((repeat' first | (with_reducible first | assumption | apply Own.set | apply Own.new | apply Own.newD | apply Own.drew | apply Row.drew | apply Row.set | apply Row.new | apply Row.newD | apply Own.alloc | apply Row.alloc | apply Own.ne | apply Row.ne | apply Own.row) | (first | omega | (simp only [LN] at *; omega))); done)); (first | omega | (simp only [LN] at *; omega))) | ((with_reducible apply st_row); (focus ((repeat' first | (with_reducible first | assumption | apply Own.set | apply Own.new | apply Own.newD | apply Own.drew | apply Row.drew | apply Row.set | apply Row.new | apply Row.newD | apply Own.alloc | apply Row.alloc | apply Own.ne | apply Row.ne | apply Own.row) | (first | omega | (simp only [LN] at *; omega))); done)); (first | omega | (simp only [LN] at *; omega)); rfl) | ((with_reducible first | apply ints_at | apply le_andI | apply le_andN | apply ne_andI); (first | omega | (simp only [LN] at *; omega))) | (with_reducible refine ite_of (fun _ => ?_) (fun _ => ?_)))
        refine ⟨(2 * bs, z), ?_, ⟨by dsimp only; omega, by dsimp only; omega, hP.len, hP.perm, hP.lev (by omega) (by omega) (fun k x1 x2 => rfl) (fun h => hP.one (by omega) (by omega) h), hb, hJ, hf⟩, by dsimp only; omega⟩
        (first | rfl | (simp only [List.cons.injEq, Prod.mk.injEq, Value.int.injEq, Value.bool.injEq, true_and, and_true, List.cons_append, List.nil_append]; done) | (simp only [List.cons.injEq, Prod.mk.injEq, Value.int.injEq, Value.bool.injEq, true_and, and_true, List.cons_append, List.nil_append]; omega))
    · rename_i hbn
      refine ⟨rfl, z, hb, hz, hp, ?_, hJ, hf⟩
      intro i j x1 x2 x3
      have := hl 0 (by omega)
      rw [Nat.zero_mul, Nat.zero_add, Nat.min_eq_right (by omega)] at this
      exact this.rise i j x1 x2 x3

theorem sortStable_any {cf : Value} {J : World → Prop} {D : Int → Prop} {lt : Int → Int → Bool} {K : Int → Int} (hcf : Cmp cf J D lt) (ht : Tells D lt K) (w : World) (bk n cap : Nat) (o : List Int) (rest : List Value) (hk : Keeps J bk) (hJ : J w) (hn : o.length = n) (hn2 : n < 100000)
    (hD : ∀ k, k < n → D (g o k)) (hup : ∀ i j, i < j → j < n → g o i < g o j) (hb : Own w bk (o.map (Value.int .i64) ++ rest).toArray) :
    Calls Try.prog 20 [.slice (some ⟨bk, 0, none⟩) n cap, cf].toArray w (StablePost J K w bk n o rest) := by
  refine enter20 (by simp) ?_
  (repeat' first | (simp only [RA, MI, S.dst, Nat.reduceAdd, Nat.reduceMul, Nat.reduceEqDiff, ↓reduceIte, reduceCtorEq, ne_eq, Nat.reduceLT, Nat.reduceLeDiff, gt_iff_lt, ge_iff_le, Int.reduceToNat, Nat.reduceSub, c20, x20, true_and]) | ((with_reducible first | apply bound_of | apply wr_i64 | apply wr_u8 | apply wr_u64); (first | omega | (simp only [LN] at *; omega)); (first | omega | (simp only [LN] at *; omega))) | ((with_reducible apply ld_row); (focus ((repeat' first | (with_reducible first | assumption | apply Own.set | apply Own.new | apply Own.newD | apply Own.drew | apply Row.drew | apply Row.set | apply Row.new | apply Row.newD | apply Own.alloc | apply Row.alloc | apply Own.ne | apply Row.ne | apply Own.row) | (first | omega | (simp only [LN] at *; omega))); done))) | ((with_reducible apply ldN_row); (focus ((repeat' first | (with_reducible first | assumption | apply Own.set | apply Own.new | apply Own.newD | apply Own.drew | apply Row.drew | apply Row.set | apply Row.new | apply Row.newD | apply Own.alloc | apply Row.alloc | apply Own.ne | apply Row.ne | apply Own.row) | (first | omega | (simp only [LN] at *; omega))); done)); (first | omega | (simp only [LN] at *; omega))) | ((with_reducible apply st_row); (focus ((repeat' first | (with_reducible first | assumption | apply Own.set | apply Own.new | apply Own.newD | apply Own.drew | apply Row.drew | apply Row.set | apply Row.new | apply Row.newD | apply Own.alloc | apply Row.alloc | apply Own.ne | apply Row.ne | apply Own.row) | (first | omega | (simp only [LN] at *; omega))); done)); (first | omega | (simp only [LN] at *; omega)); rfl) | ((with_reducible first | apply ints_at | apply le_andI | apply le_andN | apply ne_andI); (first | omega | (simp only [LN] at *; omega))) | (with_reducible refine ite_of (fun _ => ?_) (fun _ => ?_)))
  refine calls_mono (stable_any hcf ht w bk n cap o rest hk hJ hn hn2 hD hup hb) ?_
  rintro _ w2 ⟨rfl, h⟩
  (repeat' first | (simp only [RA, MI, S.dst, Nat.reduceAdd, Nat.reduceMul, Nat.reduceEqDiff, ↓reduceIte, reduceCtorEq, ne_eq, Nat.reduceLT, Nat.reduceLeDiff, gt_iff_lt, ge_iff_le, Int.reduceToNat, Nat.reduceSub, c20, x20, true_and]) | ((with_reducible first | apply bound_of | apply wr_i64 | apply wr_u8 | apply wr_u64); (first | omega | (simp only [LN] at *; omega)); (first | omega | (simp only [LN] at *; omega))) | ((with_reducible apply ld_row); (focus ((repeat' first | (with_reducible first | assumption | apply Own.set | apply Own.new | apply Own.newD | apply Own.drew | apply Row.drew | apply Row.set | apply Row.new | apply Row.newD | apply Own.alloc | apply Row.alloc | apply Own.ne | apply Row.ne | apply Own.row) | (first | omega | (simp only [LN] at *; omega))); done))) | ((with_reducible apply ldN_row); (focus ((repeat' first | (with_reducible first | assumption | apply Own.set | apply Own.new | apply Own.newD | apply Own.drew | apply Row.drew | apply Row.set | apply Row.new | apply Row.newD | apply Own.alloc | apply Row.alloc | apply Own.ne | apply Row.ne | apply Own.row) | (first | omega | (simp only [LN] at *; omega))); done)); (first | omega | (simp only [LN] at *; omega))) | ((with_reducible apply st_row); (focus ((repeat' first | (with_reducible first | assumption | apply Own.set | apply Own.new | apply Own.newD | apply Own.drew | apply Row.drew | apply Row.set | apply Row.new | apply Row.newD | apply Own.alloc | apply Row.alloc | apply Own.ne | apply Row.ne | apply Own.row) | (first | omega | (simp only [LN] at *; omega))); done)); (first | omega | (simp only [LN] at *; omega)); rfl) | ((with_reducible first | apply ints_at | apply le_andI | apply le_andN | apply ne_andI); (first | omega | (simp only [LN] at *; omega))) | (with_reducible refine ite_of (fun _ => ?_) (fun _ => ?_)))
  exact ⟨rfl, h⟩
end Go.Proofs.Ytomckpllbihikaa
