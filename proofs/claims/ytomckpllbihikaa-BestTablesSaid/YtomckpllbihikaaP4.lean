/-
  The tree's lengths are those of a full tree (plain).
-/
import Derived.Test.YtomckpllbihikaaS5
import Derived.Test.YtomckpllbihikaaB4
import Derived.Test.YtomckpllbihikaaB5
set_option autoImplicit false
set_option linter.unusedSimpArgs false
set_option linter.unusedVariables false
namespace Go.Proofs.Ytomckpllbihikaa
open X

def ks (m : List Int) (l : List Nat) : Int := (l.map fun x => p2 (g m (257 + x)).toNat).sum
theorem ks_app (m : List Int) (a b : List Nat) : ks m (a ++ b) = ks m a + ks m b := by simp [ks]
theorem ks_same {m m' : List Int} : ∀ {l : List Nat}, (∀ x ∈ l, g m' (257 + x) = g m (257 + x)) → ks m' l = ks m l
  | [], _ => rfl
  | x :: l, h => by
    have := ks_same (l := l) fun y hy => h y (List.mem_cons_of_mem _ hy)
    simp only [ks, List.map_cons, List.sum_cons] at *
    rw [this, h x (List.mem_cons_self ..)]
theorem ks_up {m m' : List Int} : ∀ {l : List Nat}, (∀ x ∈ l, g m' (257 + x) = g m (257 + x) + 1 ∧ 0 ≤ g m (257 + x) ∧ g m (257 + x) < 256) → 2 * ks m' l = ks m l
  | [], _ => rfl
  | x :: l, h => by
    have h1 := ks_up (l := l) fun y hy => h y (List.mem_cons_of_mem _ hy)
    obtain ⟨h2, h3, h4⟩ := h x (List.mem_cons_self ..)
    simp only [ks, List.map_cons, List.sum_cons] at *
    have e : (g m' (257 + x)).toNat = (g m (257 + x)).toNat + 1 := by omega
    rw [e, p2_half (i := (g m (257 + x)).toNat) (by omega)]; omega

structure KI (F : Nat → Prop) (m : List Int) (cs : Nat → List Nat) : Prop where
  wf : WF m cs
  ks : ∀ i, i < 257 → 0 < g m i → ks m (cs i) = p2 0
  one : ∀ i, i < 257 → 0 < g m i → (cs i = [i] ∧ g m (257 + i) = 0) ∨ ∀ x ∈ cs i, 0 < g m (257 + x)
  all : ∀ x, x < 257 → F x → ∃ i, i < 257 ∧ 0 < g m i ∧ x ∈ cs i
  non : ∀ x, x < 257 → ¬ F x → g m (257 + x) = 0 ∧ ∀ i, i < 257 → 0 < g m i → x ∉ cs i

theorem mrg_facts {m : List Int} {cs : Nat → List Nat} (h : WF m cs) {a b : Nat} (ha : a < 257) (hb : b < 257) (hab : a ≠ b) (pa : 0 < g m a) (pb : 0 < g m b) :
    (∀ k, k < 257 → g (mrg m a b (cs a) (cs b)) k = if k = b then 0 else if k = a then g m a + g m b else g m k) ∧
    (∀ k, k < 257 → g (mrg m a b (cs a) (cs b)) (257 + k) = g m (257 + k) + (if k ∈ cs a then 1 else 0) + (if k ∈ cs b then 1 else 0)) := by
  obtain ⟨⟨ra, ea⟩, ca, na⟩ := h.ch a ha pa
  obtain ⟨⟨rb, eb⟩, cb, nb⟩ := h.ch b hb pb
  have la := chain_lt ca
  have lb := chain_lt cb
  have hne : cs a ≠ [] := by rw [ea]; simp
  have hlast := la _ (mem_of_last hne)
  have hg := mrg_g (m := m) (a := a) (b := b) h.len ha hb hab la lb na nb hne
  constructor
  · intro k hk
    rw [hg k, if_neg (by omega), if_neg (c := 257 ≤ k ∧ _) (by omega), if_neg (c := 257 ≤ k ∧ _) (by omega)]; omega
  · intro k hk
    have e : 257 + k - 257 = k := by omega
    rw [hg (257 + k), if_neg (by omega), if_neg (c := 257 + k = b) (by omega), if_neg (c := 257 + k = a) (by omega), e]
    simp

theorem cnt_two {m : List Int} (hm : m.length = 771) {a b : Nat} (ha : a < 257) (hb : b < 257) (hab : a ≠ b) (pa : 0 < g m a) (pb : 0 < g m b) : 2 ≤ cnt m := by
  have h1 : g (m.take 257) a = g m a := g_take0 _ _ _ ha
  have h2 : g (m.take 257) b = g m b := g_take0 _ _ _ hb
  have c1 := cnt_set (m.take 257) a 0 (by simp; omega)
  have c2 := cnt_set ((m.take 257).set a 0) b 0 (by simp; omega)
  rw [h1, if_pos pa, if_neg (by omega)] at c1
  rw [g_set _ _ _ _ (by simp; omega), if_neg hab, h2, if_pos pb, if_neg (by omega)] at c2
  unfold cnt; omega

theorem KI.step {F : Nat → Prop} {m : List Int} {cs : Nat → List Nat} (h : KI F m cs) {a b : Nat} (ha : a < 257) (hb : b < 257) (hab : a ≠ b) (pa : 0 < g m a) (pb : 0 < g m b) :
    KI F (mrg m a b (cs a) (cs b)) (fun i => if i = a then cs a ++ cs b else cs i) ∧ cnt (mrg m a b (cs a) (cs b)) + 1 = cnt m := by
  obtain ⟨hw, hc⟩ := wf_step h.wf ha hb hab pa pb
  obtain ⟨hf, hl⟩ := mrg_facts h.wf ha hb hab pa pb
  have la := chain_lt (h.wf.ch a ha pa).2.1
  have lb := chain_lt (h.wf.ch b hb pb).2.1
  have hd := h.wf.dis a b ha hb pa pb hab
  have h2 := cnt_two h.wf.len ha hb hab pa pb
  generalize mrg m a b (cs a) (cs b) = m' at *
  have up1 : ∀ x ∈ cs a, g m' (257 + x) = g m (257 + x) + 1 ∧ 0 ≤ g m (257 + x) ∧ g m (257 + x) < 256 := fun x hx => by
    have := h.wf.le x (la x hx)
    rw [hl x (la x hx), if_pos hx, if_neg (hd x hx)]; omega
  have up2 : ∀ x ∈ cs b, g m' (257 + x) = g m (257 + x) + 1 ∧ 0 ≤ g m (257 + x) ∧ g m (257 + x) < 256 := fun x hx => by
    have := h.wf.le x (lb x hx)
    rw [hl x (lb x hx), if_pos hx, if_neg (fun h => hd x h hx)]; omega
  have same : ∀ i, i < 257 → 0 < g m i → i ≠ a → i ≠ b → ∀ x ∈ cs i, g m' (257 + x) = g m (257 + x) := fun i hi pi ia ib x hx => by
    have hx7 := chain_lt (h.wf.ch i hi pi).2.1 x hx
    rw [hl x hx7, if_neg (fun hy => h.wf.dis i a hi ha pi pa ia x hx hy), if_neg (fun hy => h.wf.dis i b hi hb pi pb ib x hx hy)]; omega
  refine ⟨⟨hw, fun i hi hp => ?_, fun i hi hp => ?_, fun x hx hF => ?_, fun x hx hF => ?_⟩, hc⟩
  · rw [hf i hi] at hp
    by_cases hib : i = b
    · rw [if_pos hib] at hp; omega
    rw [if_neg hib] at hp
    try dsimp only
    by_cases hia : i = a
    · rw [if_pos hia, ks_app]
      have k1 := ks_up up1
      have k2 := ks_up up2
      rw [h.ks a ha pa] at k1
      rw [h.ks b hb pb] at k2
      omega
    · rw [if_neg hia] at hp ⊢
      rw [ks_same (same i hi hp hia hib)]; exact h.ks i hi hp
  · rw [hf i hi] at hp
    by_cases hib : i = b
    · rw [if_pos hib] at hp; omega
    rw [if_neg hib] at hp
    try dsimp only
    by_cases hia : i = a
    · rw [if_pos hia]
      refine .inr fun x hx => ?_
      rcases List.mem_append.1 hx with y | y
      · have := up1 x y; omega
      · have := up2 x y; omega
    · rw [if_neg hia] at hp ⊢
      rcases h.one i hi hp with ⟨o1, o2⟩ | o
      · refine .inl ⟨o1, ?_⟩
        rw [same i hi hp hia hib i (by rw [o1]; simp)]; exact o2
      · refine .inr fun x hx => ?_
        rw [same i hi hp hia hib x hx]; exact o x hx
  · obtain ⟨i, hi, hp, hm⟩ := h.all x hx hF
    by_cases hib : i = b
    · subst hib
      refine ⟨a, ha, by rw [hf a ha, if_neg hab, if_pos rfl]; omega, by (try dsimp only); rw [if_pos rfl]; exact List.mem_append_right _ hm⟩
    by_cases hia : i = a
    · subst hia
      refine ⟨i, ha, by rw [hf i ha, if_neg hab, if_pos rfl]; omega, by (try dsimp only); rw [if_pos rfl]; exact List.mem_append_left _ hm⟩
    · exact ⟨i, hi, by rw [hf i hi, if_neg hib, if_neg hia]; exact hp, by (try dsimp only); rw [if_neg hia]; exact hm⟩
  · obtain ⟨n1, n2⟩ := h.non x hx hF
    refine ⟨by rw [hl x hx, if_neg (n2 a ha pa), if_neg (n2 b hb pb)]; omega, fun i hi hp => ?_⟩
    rw [hf i hi] at hp
    by_cases hib : i = b
    · rw [if_pos hib] at hp; omega
    rw [if_neg hib] at hp
    try dsimp only
    by_cases hia : i = a
    · rw [if_pos hia]
      intro hy
      rcases List.mem_append.1 hy with y | y
      · exact n2 a ha pa y
      · exact n2 b hb pb y
    · rw [if_neg hia] at hp ⊢
      exact n2 i hi hp

theorem KI.run {F : Nat → Prop} : ∀ (n : Nat) (m : List Int) (cs : Nat → List Nat), KI F m cs → cnt m ≤ n → KI F (runT n (m, cs)).1 (runT n (m, cs)).2 ∧ stepT (runT n (m, cs)) = none
  | n, m, cs, h, hc => by
    obtain ⟨p, hp⟩ : ∃ p, leastTo m (-1) 257 = p := ⟨_, rfl⟩
    obtain ⟨q, hq⟩ : ∃ q, leastTo m p 257 = q := ⟨_, rfl⟩
    rcases Int.lt_or_le q 0 with hb | hb
    · have hs := stepT_none (cs := cs) hp hq hb
      rw [runT_none hs n]; exact ⟨h, hs⟩
    · obtain ⟨a, b, _, _, ha, hb', hab, pa, pb, hs⟩ := stepT_some h.wf hp hq hb
      obtain ⟨h1, h2⟩ := h.step ha hb' hab pa pb
      have h3 := cnt_two h.wf.len ha hb' hab pa pb
      cases n with
      | zero => omega
      | succ n =>
        have := KI.run n _ _ h1 (by omega)
        simp only [runT, hs]; exact this

/-- At the end there is one root. -/
theorem root_one {m : List Int} {cs : Nat → List Nat} (h : stepT (m, cs) = none) {i j : Nat} (hi : i < 257) (hj : j < 257) (pi : 0 < g m i) (pj : 0 < g m j) : i = j := by
  obtain ⟨p, hp⟩ : ∃ p, leastTo m (-1) 257 = p := ⟨_, rfl⟩
  obtain ⟨q, hq⟩ : ∃ q, leastTo m p 257 = q := ⟨_, rfl⟩
  have hb : q < 0 := by
    simp only [stepT, hp, hq] at h
    split at h
    · assumption
    · cases h
  have hn := (least_spec m p 257).1 (by rw [hq]; exact hb)
  have x1 : (i : Int) = p := by
    rcases Classical.em ((i : Int) = p) with h | h
    · exact h
    · have := hn i hi h; omega
  have x2 : (j : Int) = p := by
    rcases Classical.em ((j : Int) = p) with h | h
    · exact h
    · have := hn j hj h; omega
  omega

def m0 (f : List Int) : List Int := f ++ 1 :: (List.replicate 257 0 ++ List.replicate 257 (-1))
def tree (f : List Int) : List Int := (runT 257 (m0 f, fun i => [i])).1
def len (f : List Int) (x : Nat) : Int := g (tree f) (257 + x)
def Comes (f : List Int) (x : Nat) : Prop := x = 256 ∨ 0 < g f x
theorem m0_len {f : List Int} (h : f.length = 256) : (m0 f).length = 771 := by simp [m0, h, -List.reduceReplicate]
theorem m0_lo {f : List Int} (h : f.length = 256) {x : Nat} (hx : x < 256) : g (m0 f) x = g f x := by
  simp only [m0, g, List.getD_eq_getElem?_getD]; rw [List.getElem?_append_left (by omega)]
theorem m0_none {f : List Int} (h : f.length = 256) : g (m0 f) 256 = 1 := by
  simp only [m0, g, List.getD_eq_getElem?_getD]; rw [List.getElem?_append_right (by omega), h]; rfl
theorem m0_mid {f : List Int} (h : f.length = 256) {x : Nat} (hx : x < 257) : g (m0 f) (257 + x) = 0 := by
  simp only [m0, g, List.getD_eq_getElem?_getD]
  rw [List.getElem?_append_right (by omega), h]
  have : 257 + x - 256 = x + 1 := by omega
  rw [this, List.getElem?_cons_succ, List.getElem?_append_left (by rw [List.length_replicate]; omega)]
  simp [hx, -List.reduceReplicate]
theorem g_app_right (a b : List Int) (k i : Nat) (h : a.length = k) (hi : k ≤ i) : g (a ++ b) i = g b (i - k) := by
  subst h; simp only [g, List.getD_eq_getElem?_getD]; rw [List.getElem?_append_right hi]
theorem g_rep (n : Nat) (v : Int) (i : Nat) (h : i < n) : g (List.replicate n v) i = v := by
  simp only [g, List.getD_eq_getElem?_getD]; rw [List.getElem?_replicate, if_pos h]; rfl
theorem m0_hi {f : List Int} (h : f.length = 256) {x : Nat} (hx : x < 257) : g (m0 f) (514 + x) = -1 := by
  have e : m0 f = (f ++ [1] ++ List.replicate 257 0) ++ List.replicate 257 (-1) := by
    unfold m0; rw [List.append_assoc, List.append_assoc]; rfl
  rw [e, g_app_right _ _ 514 _ (by rw [List.length_append, List.length_append, List.length_replicate, h]; rfl) (by omega), g_rep _ _ _ (by omega)]
theorem g_far {l : List Int} {i : Nat} (h : l.length ≤ i) : g l i = 0 := by simp [g, List.getD, h]
theorem m0_pos {f : List Int} (h : f.length = 256) {x : Nat} (hx : x < 257) : 0 < g (m0 f) x ↔ Comes f x := by
  unfold Comes
  rcases Nat.lt_or_ge x 256 with y | y
  · rw [m0_lo h y]; omega
  · obtain rfl : x = 256 := by omega
    rw [m0_none h]; omega
theorem sum_le (l : List Int) (c : Int) (h : ∀ x ∈ l, x ≤ c) : l.sum ≤ l.length * c := by
  induction l with
  | nil => simp
  | cons x l ih =>
    have h1 := ih fun y hy => h y (List.mem_cons_of_mem _ hy)
    have h2 := h x (List.mem_cons_self ..)
    simp only [List.sum_cons, List.length_cons]
    rw [Int.natCast_add, Int.add_mul]; omega
theorem m0_wf {f : List Int} (h : f.length = 256) (hf : ∀ i, i < 256 → 0 ≤ g f i ∧ g f i ≤ 1099511627776) : WF (m0 f) (fun i => [i]) := by
  refine ⟨m0_len h, fun i hi => ?_, ?_, fun i hi hp => ⟨⟨[], rfl⟩, ?_, by simp⟩, fun i j hi hj pi pj hij x hx hy => ?_, fun x hx => ?_⟩
  · rcases Nat.lt_or_ge i 256 with y | y
    · rw [m0_lo h y]; exact (hf i y).1
    · obtain rfl : i = 256 := by omega
      rw [m0_none h]; omega
  · have e : (m0 f).take 257 = f ++ [1] := by
      simp only [m0]
      rw [List.take_append, List.take_of_length_le (by omega), h]
      rfl
    unfold tot
    rw [e, List.sum_append]
    have h1 := sum_le f 1099511627776 fun x hx => by
      obtain ⟨k, hk, rfl⟩ := List.mem_iff_getElem.1 hx
      have := (hf k (by omega)).2
      simpa [g, List.getD_eq_getElem?_getD, hk] using this
    rw [h] at h1
    simp only [List.sum_cons, List.sum_nil]
    omega
  · refine ⟨hi, ?_⟩
    rw [m0_hi h hi]; omega
  · simp at hx hy; omega
  · rw [m0_mid h hx]
    refine ⟨Int.le_refl _, ?_⟩
    have : cnt (m0 f) ≤ 257 := by
      unfold cnt
      exact Nat.le_trans List.countP_le_length (by simp; omega)
    omega
theorem m0_ki {f : List Int} (h : f.length = 256) (hf : ∀ i, i < 256 → 0 ≤ g f i ∧ g f i ≤ 1099511627776) : KI (Comes f) (m0 f) (fun i => [i]) := by
  refine ⟨m0_wf h hf, fun i hi hp => ?_, fun i hi hp => .inl ⟨rfl, m0_mid h hi⟩, fun x hx hF => ⟨x, hx, (m0_pos h hx).2 hF, by simp⟩, fun x hx hF => ⟨m0_mid h hx, fun i hi hp hm => ?_⟩⟩
  · simp only [ks, List.map_cons, List.map_nil, List.sum_cons, List.sum_nil, m0_mid h hi]; simp
  · simp at hm; subst hm; exact hF ((m0_pos h hx).1 hp)

/-- What the tree ends with. -/
theorem tree_spec {f : List Int} (h : f.length = 256) (hf : ∀ i, i < 256 → 0 ≤ g f i ∧ g f i ≤ 1099511627776) : ∃ l : List Nat, l.Nodup ∧ (∀ x, x ∈ l ↔ x < 257 ∧ Comes f x) ∧ ks (tree f) l = p2 0 ∧ (∀ x, x < 257 → 0 ≤ len f x ∧ len f x ≤ 256) ∧
    (∀ x, x < 257 → ¬ Comes f x → len f x = 0) ∧ ((∃ x, x < 256 ∧ 0 < g f x) → ∀ x ∈ l, 0 < len f x) ∧ (¬ (∃ x, x < 256 ∧ 0 < g f x) → ∀ x, x < 257 → len f x = 0) := by
  obtain ⟨hk, hs⟩ := KI.run 257 (m0 f) (fun i => [i]) (m0_ki h hf) (by
    unfold cnt
    exact Nat.le_trans List.countP_le_length (by have := m0_len h; rw [List.length_take]; omega))
  have e : tree f = (runT 257 (m0 f, fun i => [i])).1 := rfl
  obtain ⟨Z, hZ⟩ : ∃ Z, runT 257 (m0 f, fun i => [i]) = Z := ⟨_, rfl⟩
  rw [hZ] at hk hs e
  obtain ⟨m, cs⟩ := Z
  dsimp only at *
  have el : ∀ x, len f x = g m (257 + x) := fun x => by rw [len, e]
  obtain ⟨r, hr, pr, _⟩ := hk.all 256 (by omega) (.inl rfl)
  have hroot : ∀ i, i < 257 → 0 < g m i → i = r := fun i hi pi => root_one hs hi hr pi pr
  have hmem : ∀ x, x ∈ cs r ↔ x < 257 ∧ Comes f x := by
    intro x
    constructor
    · intro hx
      have h7 := chain_lt (hk.wf.ch r hr pr).2.1 x hx
      refine ⟨h7, Classical.byContradiction fun hF => (hk.non x h7 hF).2 r hr pr hx⟩
    · rintro ⟨h7, hF⟩
      obtain ⟨i, hi, pi, hm⟩ := hk.all x h7 hF
      rw [hroot i hi pi] at hm; exact hm
  refine ⟨cs r, (hk.wf.ch r hr pr).2.2, hmem, by rw [e]; exact hk.ks r hr pr, fun x hx => ?_, fun x hx hF => by rw [el]; exact (hk.non x hx hF).1, ?_, fun hno x hx => ?_⟩
  · rw [el]; have := hk.wf.le x hx
    have h1 : 1 ≤ cnt m := by
      have h1 : g (m.take 257) r = g m r := g_take0 _ _ _ hr
      have c1 := cnt_set (m.take 257) r 0 (by have := hk.wf.len; simp; omega)
      rw [h1, if_pos pr, if_neg (by omega)] at c1
      unfold cnt; omega
    omega
  · rintro ⟨y, hy, py⟩ x hx
    rw [el]
    rcases hk.one r hr pr with ⟨o, _⟩ | o
    · have h1 := (hmem y).2 ⟨by omega, .inr py⟩
      have h2 := (hmem 256).2 ⟨by omega, .inl rfl⟩
      rw [o] at h1 h2; simp at h1 h2; omega
    · exact o x hx
  · by_cases hF : Comes f x
    · have hx2 : x = 256 := by
        rcases hF with h | h
        · exact h
        · exact absurd ⟨x, by rcases Nat.lt_or_ge x 256 with y | y; exact y; rw [g_far (by omega)] at h; omega, h⟩ hno
      have h2 := (hmem 256).2 ⟨by omega, .inl rfl⟩
      rw [el, hx2]
      rcases hk.one r hr pr with ⟨o1, o2⟩ | o
      · rw [o1] at h2; simp at h2; rw [h2]; exact o2
      · exfalso
        have hk2 := hk.ks r hr pr
        have hpos := o 256 h2
        have hl : cs r = [256] := by
          obtain ⟨t, ht⟩ := (hk.wf.ch r hr pr).1
          have hall : ∀ y ∈ cs r, y = 256 := fun y hy => by
            obtain ⟨y1, y2⟩ := (hmem y).1 hy
            rcases y2 with y2 | y2
            · exact y2
            · exact absurd ⟨y, by rcases Nat.lt_or_ge y 256 with v | v; exact v; rw [g_far (by omega)] at y2; omega, y2⟩ hno
          have hnd := (hk.wf.ch r hr pr).2.2
          rw [ht] at hall hnd ⊢
          have h1 := hall r (by simp)
          cases t with
          | nil => rw [h1]
          | cons y t =>
            have h3 := hall y (by simp)
            rw [h1, h3] at hnd; simp at hnd
        rw [hl] at hk2
        simp only [ks, List.map_cons, List.map_nil, List.sum_cons, List.sum_nil] at hk2
        have hle := hk.wf.le 256 (by omega)
        have h10 : p2 0 = 2 ^ 256 := rfl
        have h11 : p2 (g m (257 + 256)).toNat < p2 0 := by
          unfold p2
          exact_mod_cast Nat.pow_lt_pow_right (a := 2) (by omega) (by omega : 256 - (g m (257 + 256)).toNat < 256 - 0)
        omega
    · rw [el]; exact (hk.non x hx hF).1
end Go.Proofs.Ytomckpllbihikaa
