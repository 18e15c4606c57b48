/-
  Layer 6, plain: the tree's step, and what stays so. No program.
-/
import Derived.Test.YtomckpllbihikaaB3
set_option autoImplicit false
set_option linter.unusedSimpArgs false
set_option linter.unusedVariables false
namespace Go.Proofs.Ytomckpllbihikaa
open X

theorem least_spec (m : List Int) (but : Int) (n : Nat) :
    (leastTo m but n < 0 → ∀ i < n, (i : Int) ≠ but → g m i ≤ 0) ∧
    (0 ≤ leastTo m but n → (leastTo m but n).toNat < n ∧ 0 < g m (leastTo m but n).toNat ∧ ((leastTo m but n).toNat : Int) ≠ but ∧
      ∀ i < n, (i : Int) ≠ but → 0 < g m i → g m (leastTo m but n).toNat < g m i ∨ (g m (leastTo m but n).toNat = g m i ∧ i ≤ (leastTo m but n).toNat)) := by
  induction n with
  | zero => exact ⟨fun _ i hi => by omega, fun h => by simp [leastTo] at h⟩
  | succ n ih =>
    obtain ⟨i1, i2⟩ := ih
    have hl := leastTo_lt m but n
    simp only [leastTo]
    split
    · rename_i hc
      refine ⟨fun h => by omega, fun _ => ⟨by omega, by simpa using hc.1, by simpa using hc.2.1, fun i hi hib hp => ?_⟩⟩
      simp only [Int.toNat_natCast]
      rcases Nat.lt_or_ge i n with h | h
      · rcases Int.lt_or_le (leastTo m but n) 0 with hn | hn
        · have := i1 hn i h hib; omega
        · have h2 := (i2 hn).2.2.2 i h hib hp
          have := hc.2.2
          omega
      · have : i = n := by omega
        subst this; exact .inr ⟨rfl, Nat.le_refl _⟩
    · rename_i hc
      refine ⟨fun h i hi hib => ?_, fun h => ?_⟩
      · rcases Nat.lt_or_ge i n with h3 | h3
        · exact i1 h i h3 hib
        · have : i = n := by omega
          subst this
          rcases Int.lt_or_le 0 (g m i) with h4 | h4
          · exact absurd ⟨h4, hib, .inl h⟩ hc
          · exact h4
      · obtain ⟨j1, j2, j3, j4⟩ := i2 h
        refine ⟨by omega, j2, j3, fun i hi hib hp => ?_⟩
        rcases Nat.lt_or_ge i n with h3 | h3
        · exact j4 i h3 hib hp
        · have : i = n := by omega
          subst this
          rcases Int.lt_or_le (g m (leastTo m but i).toNat) (g m i) with h4 | h4
          · exact .inl h4
          · exact absurd ⟨hp, hib, .inr h4⟩ hc

theorem nodup_lt : ∀ (n : Nat) (l : List Nat), l.Nodup → (∀ x ∈ l, x < n) → l.length ≤ n
  | 0, [], _, _ => by simp
  | 0, x :: l, _, h => by have := h x (by simp); omega
  | n + 1, l, hn, h => by
    have h2 := nodup_lt n (l.erase n) (hn.erase n) fun x hx => by
      have h3 := (List.Nodup.mem_erase_iff hn).1 hx
      have := h x h3.2
      omega
    have h3 : l.length ≤ (l.erase n).length + 1 := by rw [List.length_erase]; split <;> omega
    omega

abbrev TS := List Int × (Nat → List Nat)
def mrg (m : List Int) (a b : Nat) (la lb : List Nat) : List Int := (bump (bump ((m.set a (g m a + g m b)).set b 0) la) lb).set (514 + la.getLast?.getD 0) b
def stepT (s : TS) : Option TS :=
  let a := leastTo s.1 (-1) 257
  let b := leastTo s.1 a 257
  if b < 0 then none else some (mrg s.1 a.toNat b.toNat (s.2 a.toNat) (s.2 b.toNat), fun i => if i = a.toNat then s.2 a.toNat ++ s.2 b.toNat else s.2 i)
def runT : Nat → TS → TS
  | 0, s => s
  | n + 1, s => match stepT s with | none => s | some s' => runT n s'
def cnt (m : List Int) : Nat := (m.take 257).countP (fun x => decide (0 < x))
def tot (m : List Int) : Int := (m.take 257).sum

theorem sum_set (l : List Int) : ∀ (i : Nat) (v : Int), i < l.length → (l.set i v).sum = l.sum - g l i + v := by
  induction l with
  | nil => intro i v h; simp at h
  | cons x l ih =>
    intro i v h
    cases i with
    | zero => simp [g]; omega
    | succ i =>
      have := ih i v (by simpa using h)
      simp only [List.set_cons_succ, List.sum_cons, this, g, List.getD_cons_succ]; omega
theorem sum_nn (l : List Int) (h : ∀ i, i < l.length → 0 ≤ g l i) : 0 ≤ l.sum := by
  induction l with
  | nil => simp
  | cons x l ih =>
    have h0 := h 0 (by simp)
    have := ih fun i hi => by have := h (i + 1) (by simpa using hi); simpa [g] using this
    simp only [g, List.getD_cons_zero] at h0
    simp only [List.sum_cons]; omega
theorem le_sum (l : List Int) : ∀ (h : ∀ i, i < l.length → 0 ≤ g l i) (i : Nat), i < l.length → g l i ≤ l.sum := by
  induction l with
  | nil => intro h i hi; simp at hi
  | cons x l ih =>
    intro h i hi
    have hl : ∀ i, i < l.length → 0 ≤ g l i := fun i hi => by have := h (i + 1) (by simpa using hi); simpa [g] using this
    have h0 := h 0 (by simp)
    have hs := sum_nn l hl
    simp only [g, List.getD_cons_zero] at h0
    cases i with
    | zero => simp only [g, List.getD_cons_zero, List.sum_cons]; omega
    | succ i => have := ih hl i (by simpa using hi); simp only [g, List.getD_cons_succ, List.sum_cons] at *; omega
theorem cnt_set (l : List Int) (i : Nat) (v : Int) (h : i < l.length) : (l.set i v).countP (fun x => decide (0 < x)) + (if 0 < g l i then 1 else 0) = l.countP (fun x => decide (0 < x)) + (if 0 < v then 1 else 0) := by
  induction l generalizing i with
  | nil => simp at h
  | cons x l ih =>
    cases i with
    | zero => simp only [List.set_cons_zero, List.countP_cons, g, List.getD_cons_zero, decide_eq_true_eq]; omega
    | succ i =>
      have := ih i (by simpa using h)
      have e : g (x :: l) (i + 1) = g l i := rfl
      rw [List.set_cons_succ, List.countP_cons, List.countP_cons, e]; omega

theorem bump1_g (m : List Int) (x k : Nat) (hm : m.length = 771) (hx : x < 257) : g (bump1 m x) k = if k = 257 + x then g m k + 1 else g m k := by
  rw [bump1, g_set _ _ _ _ (by omega)]
  by_cases h : 257 + x = k
  · subst h; simp
  · rw [if_neg h, if_neg (Ne.symm h)]
theorem bump_g (l : List Nat) : ∀ (m : List Int) (k : Nat), m.length = 771 → (∀ x ∈ l, x < 257) → l.Nodup → g (bump m l) k = g m k + (if 257 ≤ k ∧ (k - 257) ∈ l then 1 else 0) := by
  induction l with
  | nil => intro m k hm _ _; simp [bump]
  | cons x l ih =>
    intro m k hm hl hn
    have hx := hl x (by simp)
    have h2 := ih (bump1 m x) k (by rw [bump1_len]; exact hm) (fun y hy => hl y (by simp [hy])) (List.nodup_cons.1 hn).2
    have h3 := (List.nodup_cons.1 hn).1
    show g (bump (bump1 m x) l) k = _
    rw [h2, bump1_g m x k hm hx]
    by_cases h : k = 257 + x
    · subst h
      have h4 : 257 + x - 257 = x := by omega
      simp [h4, h3]
    · rw [if_neg h]
      congr 1
      by_cases h5 : 257 ≤ k
      · have : k - 257 ≠ x := by omega
        simp [h5, this]
      · simp [h5]

structure WF (m : List Int) (cs : Nat → List Nat) : Prop where
  len : m.length = 771
  nn : ∀ i, i < 257 → 0 ≤ g m i
  sum : tot m ≤ 1152921504606846976
  ch : ∀ i, i < 257 → 0 < g m i → (∃ r, cs i = i :: r) ∧ chain m (cs i) ∧ (cs i).Nodup
  dis : ∀ i j, i < 257 → j < 257 → 0 < g m i → 0 < g m j → i ≠ j → ∀ x ∈ cs i, x ∉ cs j
  le : ∀ x, x < 257 → 0 ≤ g m (257 + x) ∧ g m (257 + x) + cnt m ≤ 257

theorem chain_lt {m : List Int} : ∀ {l : List Nat}, chain m l → ∀ x ∈ l, x < 257
  | [], h, x, hx => by simp at hx
  | [y], h, x, hx => by simp at hx; subst hx; exact h.1
  | y :: z :: r, h, x, hx => by
    rcases List.mem_cons.1 hx with rfl | hx
    · exact h.1
    · exact chain_lt h.2.2 x hx
theorem chain_congr {m m' : List Int} : ∀ {l : List Nat}, chain m l → (∀ x ∈ l, g m' (514 + x) = g m (514 + x)) → chain m' l
  | [], h, _ => h
  | [y], h, he => ⟨h.1, by rw [he y (by simp)]; exact h.2⟩
  | y :: z :: r, h, he => ⟨h.1, by rw [he y (by simp)]; exact h.2.1, chain_congr h.2.2 fun x hx => he x (by simp [hx])⟩
theorem chain_append {m : List Int} {b : Nat} {rb : List Nat} : ∀ {l : List Nat}, chain m l → l.Nodup → chain m (b :: rb) → m.length = 771 → (∀ x ∈ l, x ∉ b :: rb) →
    chain (m.set (514 + l.getLast?.getD 0) b) (l ++ b :: rb)
  | [], h, _, _, _, _ => h.elim
  | [y], h, _, hb, hm, hd => by
    have hy := h.1
    refine ⟨hy, ?_, chain_congr hb fun x hx => ?_⟩
    · simp only [List.getLast?_singleton, Option.getD_some]; rw [g_set _ _ _ _ (by omega), if_pos rfl]
    · have : x ≠ y := fun e => hd y (by simp) (e ▸ hx)
      simp only [List.getLast?_singleton, Option.getD_some]; rw [g_set _ _ _ _ (by omega), if_neg (by omega)]
  | y :: z :: r, h, hn, hb, hm, hd => by
    have h2 := chain_append h.2.2 (List.nodup_cons.1 hn).2 hb hm fun x hx => hd x (by simp [hx])
    have hl : (y :: z :: r).getLast?.getD 0 = (z :: r).getLast?.getD 0 := by simp [List.getLast?_cons_cons]
    rw [hl]
    have hmem : (z :: r).getLast?.getD 0 ∈ z :: r := by
      rw [List.getLast?_eq_some_getLast (by simp)]; exact List.getLast_mem _
    have hlt := chain_lt h.2.2 _ hmem
    refine ⟨h.1, ?_, h2⟩
    rw [g_set _ _ _ _ (by omega), if_neg ?_]
    · exact h.2.1
    · intro e
      have : (z :: r).getLast?.getD 0 = y := by omega
      exact (List.nodup_cons.1 hn).1 (this ▸ hmem)

theorem mem_of_last {l : List Nat} (h : l ≠ []) : l.getLast?.getD 0 ∈ l := by
  rw [List.getLast?_eq_some_getLast h]; exact List.getLast_mem _

theorem mrg_g {m : List Int} {a b : Nat} {la lb : List Nat} (hm : m.length = 771) (ha : a < 257) (hb : b < 257) (hab : a ≠ b) (hla : ∀ x ∈ la, x < 257) (hlb : ∀ x ∈ lb, x < 257)
    (na : la.Nodup) (nb : lb.Nodup) (he : la ≠ []) (k : Nat) :
    g (mrg m a b la lb) k = if k = 514 + la.getLast?.getD 0 then (b : Int) else (if k = b then 0 else if k = a then g m a + g m b else g m k) + (if 257 ≤ k ∧ (k - 257) ∈ la then 1 else 0) + (if 257 ≤ k ∧ (k - 257) ∈ lb then 1 else 0) := by
  have h1 : ((m.set a (g m a + g m b)).set b 0).length = 771 := by simpa using hm
  have h2 : (bump ((m.set a (g m a + g m b)).set b 0) la).length = 771 := by rw [bump_len]; exact h1
  have hlast := hla _ (mem_of_last he)
  unfold mrg
  rw [g_set _ _ _ _ (by rw [bump_len]; omega), bump_g lb _ _ h2 hlb nb, bump_g la _ _ h1 hla na, g_set _ _ _ _ (by simpa [hm] using by omega), g_set _ _ _ _ (by omega)]
  simp only [eq_comm (a := a) (b := k), eq_comm (a := b) (b := k), eq_comm (a := 514 + la.getLast?.getD 0) (b := k)]

theorem cnt_step {m : List Int} (hm : m.length = 771) {a b : Nat} (ha : a < 257) (hb : b < 257) (hab : a ≠ b) (pa : 0 < g m a) (pb : 0 < g m b) {m' : List Int}
    (hm' : ∀ k, k < 257 → g m' k = if k = b then 0 else if k = a then g m a + g m b else g m k) (hl' : m'.length = 771) : cnt m' + 1 = cnt m ∧ tot m' = tot m := by
  have hx : m'.take 257 = ((m.take 257).set a (g m a + g m b)).set b 0 := by
    apply List.ext_getElem?
    intro k
    rcases Nat.lt_or_ge k 257 with hk | hk
    · have h1 := hm' k hk
      have at' : ∀ (l : List Int), k < l.length → l[k]? = some (g l k) := fun l hl => by simp [g, List.getD, hl]
      rw [at' (m'.take 257) (by simp; omega), at' (((m.take 257).set a (g m a + g m b)).set b 0) (by simp; omega), g_take0 _ _ _ hk, g_set _ _ _ _ (by simp; omega), g_set _ _ _ _ (by simp; omega), g_take0 _ _ _ hk, h1]
      simp only [eq_comm (a := a) (b := k), eq_comm (a := b) (b := k)]
    · rw [List.getElem?_eq_none (by simp; omega), List.getElem?_eq_none (by simp; omega)]
  have hta : (m.take 257).length = 257 := by simp; omega
  have c1 := cnt_set (m.take 257) a (g m a + g m b) (by omega)
  have c2 := cnt_set ((m.take 257).set a (g m a + g m b)) b 0 (by simp; omega)
  have s1 := sum_set (m.take 257) a (g m a + g m b) (by omega)
  have s2 := sum_set ((m.take 257).set a (g m a + g m b)) b 0 (by simp; omega)
  rw [g_set _ _ _ _ (by omega), if_neg hab, g_take0 _ _ _ hb] at c2 s2
  rw [g_take0 _ _ _ ha] at c1 s1
  unfold cnt tot
  rw [hx]
  constructor
  · rw [if_pos pa, if_pos (by omega)] at c1
    rw [if_pos pb, if_neg (by omega)] at c2
    omega
  · rw [s2, s1]; omega

theorem wf_step {m : List Int} {cs : Nat → List Nat} (h : WF m cs) {a b : Nat} (ha : a < 257) (hb : b < 257) (hab : a ≠ b) (pa : 0 < g m a) (pb : 0 < g m b) :
    WF (mrg m a b (cs a) (cs b)) (fun i => if i = a then cs a ++ cs b else cs i) ∧ cnt (mrg m a b (cs a) (cs b)) + 1 = cnt m := by
  obtain ⟨⟨ra, ea⟩, ca, na⟩ := h.ch a ha pa
  obtain ⟨⟨rb, eb⟩, cb, nb⟩ := h.ch b hb pb
  have la := chain_lt ca
  have lb := chain_lt cb
  have hd := h.dis a b ha hb pa pb hab
  have hne : cs a ≠ [] := by rw [ea]; simp
  have hlast := la _ (mem_of_last hne)
  have hg := mrg_g (m := m) (a := a) (b := b) h.len ha hb hab la lb na nb hne
  have hlen : (mrg m a b (cs a) (cs b)).length = 771 := by simp [mrg, bump_len, h.len]
  have hfr : ∀ k, k < 257 → g (mrg m a b (cs a) (cs b)) k = if k = b then 0 else if k = a then g m a + g m b else g m k := by
    intro k hk
    rw [hg k, if_neg (by omega), if_neg (c := 257 ≤ k ∧ _) (by omega), if_neg (c := 257 ≤ k ∧ _) (by omega)]; omega
  obtain ⟨hcnt, htot⟩ := cnt_step h.len ha hb hab pa pb hfr hlen
  have hle : ∀ k, k < 257 → g (mrg m a b (cs a) (cs b)) (257 + k) = g m (257 + k) + (if k ∈ cs a then 1 else 0) + (if k ∈ cs b then 1 else 0) := by
    intro k hk
    have e : 257 + k - 257 = k := by omega
    rw [hg (257 + k), if_neg (by omega), if_neg (c := 257 + k = b) (by omega), if_neg (c := 257 + k = a) (by omega), e]
    simp
  have hnx : ∀ k, k < 257 → g (mrg m a b (cs a) (cs b)) (514 + k) = if k = (cs a).getLast?.getD 0 then (b : Int) else g m (514 + k) := by
    intro k hk
    rw [hg (514 + k)]
    by_cases hkl : k = (cs a).getLast?.getD 0
    · rw [if_pos (by omega), if_pos hkl]
    · have n1 : ¬ (257 ≤ 514 + k ∧ (514 + k - 257) ∈ cs a) := fun hx => by have := la _ hx.2; omega
      have n2 : ¬ (257 ≤ 514 + k ∧ (514 + k - 257) ∈ cs b) := fun hx => by have := lb _ hx.2; omega
      rw [if_neg (by omega), if_neg hkl, if_neg (c := 514 + k = b) (by omega), if_neg (c := 514 + k = a) (by omega), if_neg n1, if_neg n2]; omega
  refine ⟨⟨hlen, ?_, by rw [htot]; exact h.sum, ?_, ?_, ?_⟩, hcnt⟩
  · intro i hi
    rw [hfr i hi]
    have := h.nn i hi
    split
    · omega
    · split <;> omega
  · intro i hi hp
    rw [hfr i hi] at hp
    by_cases hib : i = b
    · rw [if_pos hib] at hp; omega
    · rw [if_neg hib] at hp
      by_cases hia : i = a
      · subst hia
        rw [if_pos rfl]
        refine ⟨⟨ra ++ cs b, by rw [ea]; rfl⟩, ?_, ?_⟩
        · have hca := chain_append ca na (eb ▸ cb) h.len (fun x hx => eb ▸ hd x hx)
          rw [← eb] at hca
          refine chain_congr hca fun x hx => ?_
          have hx7 : x < 257 := by rcases List.mem_append.1 hx with h | h; (exact la x h); exact lb x h
          rw [hnx x hx7, g_set _ _ _ _ (by have := h.len; omega)]
          by_cases e : x = (cs i).getLast?.getD 0
          · rw [if_pos e, if_pos (by omega)]
          · rw [if_neg e, if_neg (by omega)]
        · exact List.nodup_append.2 ⟨na, nb, fun x hx y hy e => hd x hx (e ▸ hy)⟩
      · rw [if_neg hia] at hp ⊢
        obtain ⟨he, hc, hn⟩ := h.ch i hi hp
        refine ⟨he, chain_congr hc fun x hx => ?_, hn⟩
        rw [hnx x (chain_lt hc x hx), if_neg]
        intro e
        exact h.dis i a hi ha hp pa hia x hx (e ▸ mem_of_last hne)
  · intro i j hi hj pi pj hij
    rw [hfr i hi] at pi
    rw [hfr j hj] at pj
    by_cases hib : i = b
    · rw [if_pos hib] at pi; omega
    by_cases hjb : j = b
    · rw [if_pos hjb] at pj; omega
    rw [if_neg hib] at pi
    rw [if_neg hjb] at pj
    intro x hx hy
    by_cases hia : i = a
    · have hja : j ≠ a := fun e => hij (hia.trans e.symm)
      rw [if_pos hia] at hx
      rw [if_neg hja] at hy pj
      rcases List.mem_append.1 hx with h1 | h1
      · exact h.dis a j ha hj pa pj (Ne.symm hja) x h1 hy
      · exact h.dis b j hb hj pb pj (Ne.symm hjb) x h1 hy
    · rw [if_neg hia] at hx pi
      by_cases hja : j = a
      · rw [if_pos hja] at hy
        rcases List.mem_append.1 hy with h1 | h1
        · exact h.dis i a hi ha pi pa hia x hx h1
        · exact h.dis i b hi hb pi pb hib x hx h1
      · rw [if_neg hja] at hy pj
        exact h.dis i j hi hj pi pj hij x hx hy
  · intro x hx
    rw [hle x hx]
    have h1 := h.le x hx
    have h2 : ¬ (x ∈ cs a ∧ x ∈ cs b) := fun ⟨h3, h4⟩ => hd x h3 h4
    by_cases h3 : x ∈ cs a
    · have h4 : x ∉ cs b := fun h4 => h2 ⟨h3, h4⟩
      rw [if_pos h3, if_neg h4]; omega
    · rw [if_neg h3]; split <;> omega
end Go.Proofs.Ytomckpllbihikaa
