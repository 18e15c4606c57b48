/-
  How many symbols have each length, and their order (plain).
-/
import Derived.Test.YtomckpllbihikaaP4
set_option autoImplicit false
set_option linter.unusedSimpArgs false
set_option linter.unusedVariables false
namespace Go.Proofs.Ytomckpllbihikaa
open X

/-- How many of the first k symbols have a code of i bits, for each i. -/
def nT (L : Nat → Int) : Nat → List Int
  | 0 => List.replicate 257 0
  | k + 1 => if 0 < L k then upd (nT L k) (L k).toNat 1 else nT L k
/-- The first k symbols that have codes. -/
def ordL (L : Nat → Int) : Nat → List Int
  | 0 => []
  | k + 1 => if 0 < L k then ordL L k ++ [(k : Int)] else ordL L k
def sk (L : Nat → Int) : Nat → Int
  | 0 => 0
  | k + 1 => sk L k + if 0 < L k then p2 (L k).toNat else 0

theorem nT_len (L : Nat → Int) : ∀ k, (nT L k).length = 257
  | 0 => by simp [nT, -List.reduceReplicate]
  | k + 1 => by simp only [nT]; split; rw [upd_len]; exact nT_len L k; exact nT_len L k
theorem nT_g {L : Nat → Int} (hL : ∀ x, L x ≤ 256) (i : Nat) : ∀ k, g (nT L (k + 1)) i = g (nT L k) i + if 0 < L k ∧ (L k).toNat = i then 1 else 0 := by
  intro k
  simp only [nT]
  by_cases h : 0 < L k
  · rw [if_pos h, upd_g _ _ _ _ (by rw [nT_len]; have := hL k; omega)]
    by_cases e : i = (L k).toNat
    · rw [if_pos e, if_pos ⟨h, e.symm⟩]
    · rw [if_neg e, if_neg (fun x => e x.2.symm)]; omega
  · rw [if_neg h, if_neg (fun x => h x.1)]; omega
theorem nT_nn {L : Nat → Int} (hL : ∀ x, L x ≤ 256) (i : Nat) : ∀ k, 0 ≤ g (nT L k) i
  | 0 => by
    simp only [nT]
    rcases Nat.lt_or_ge i 257 with h | h
    · rw [g_rep _ _ _ h]; exact Int.le_refl _
    · rw [g_far (by simp only [List.length_replicate]; exact h)]; exact Int.le_refl _
  | k + 1 => by rw [nT_g hL]; have := nT_nn hL i k; split <;> omega
theorem nT_zero {L : Nat → Int} (hL : ∀ x, L x ≤ 256) : ∀ k, g (nT L k) 0 = 0
  | 0 => g_rep _ _ _ (by omega)
  | k + 1 => by rw [nT_g hL, nT_zero hL k, if_neg (by omega)]; rfl
theorem ws_nT {L : Nat → Int} (hL : ∀ x, L x ≤ 256) (c : Nat → Int) : ∀ k, ws c (nT L (k + 1)) 257 = ws c (nT L k) 257 + if 0 < L k then c (L k).toNat else 0 := by
  intro k
  simp only [nT]
  by_cases h : 0 < L k
  · have := hL k
    rw [if_pos h, ws_upd _ _ _ _ (by rw [nT_len]; omega), if_pos (by omega), if_pos h]; omega
  · rw [if_neg h, if_neg h]; omega
theorem ws_rep (c : Nat → Int) : ∀ k, k ≤ 257 → ws c (List.replicate 257 0) k = 0
  | 0, _ => rfl
  | k + 1, h => by simp only [ws]; rw [ws_rep c k (by omega), g_rep _ _ _ (by omega)]; omega
theorem ws_sk {L : Nat → Int} (hL : ∀ x, L x ≤ 256) : ∀ k, ws p2 (nT L k) 257 = sk L k
  | 0 => ws_rep _ _ (by omega)
  | k + 1 => by rw [ws_nT hL, ws_sk hL k]; rfl
theorem ws_one {L : Nat → Int} (hL : ∀ x, L x ≤ 256) : ∀ k, ws (fun _ => 1) (nT L k) 257 ≤ k
  | 0 => by show ws _ (List.replicate 257 0) 257 ≤ _; rw [ws_rep _ _ (by omega)]; omega
  | k + 1 => by rw [ws_nT hL]; have := ws_one hL k; split <;> omega
theorem ws_ord {L : Nat → Int} (hL : ∀ x, L x ≤ 256) : ∀ k, ws (fun _ => 1) (nT L k) 257 = (ordL L k).length
  | 0 => ws_rep _ _ (by omega)
  | k + 1 => by
    rw [ws_nT hL, ws_ord hL k]
    simp only [ordL]; split
    · simp
    · simp

theorem perm_ks {m : List Int} {l l' : List Nat} (h : l.Perm l') : ks m l = ks m l' := by
  induction h with
  | nil => rfl
  | cons x _ ih => simp only [ks, List.map_cons, List.sum_cons] at *; rw [ih]
  | swap x y l => simp only [ks, List.map_cons, List.sum_cons]; omega
  | trans _ _ h1 h2 => rw [h1, h2]
/-- The first k symbols that have codes, as a list of places. -/
def pl (L : Nat → Int) (k : Nat) : List Nat := (List.range k).filter fun x => decide (0 < L x)
theorem pl_succ (L : Nat → Int) (k : Nat) : pl L (k + 1) = pl L k ++ if 0 < L k then [k] else [] := by
  unfold pl; rw [List.range_succ, List.filter_append]
  by_cases h : 0 < L k <;> simp [h]
theorem ks_sk {m : List Int} {L : Nat → Int} (hL : ∀ x, x < 257 → L x = g m (257 + x)) : ∀ k, k ≤ 257 → ks m (pl L k) = sk L k
  | 0, _ => rfl
  | k + 1, h => by
    rw [pl_succ, ks_app, ks_sk hL k (by omega), sk, hL k (by omega)]
    congr 1
    split
    · simp [ks]
    · simp [ks]
theorem ord_pl (L : Nat → Int) : ∀ k, ordL L k = (pl L k).map Int.ofNat
  | 0 => rfl
  | k + 1 => by
    rw [pl_succ, List.map_append, ← ord_pl L k, ordL]
    split
    · rfl
    · simp
theorem nodup_perm {l l' : List Nat} (h : l.Nodup) (h' : l'.Nodup) (hm : ∀ x, x ∈ l ↔ x ∈ l') : l.Perm l' := by
  rw [List.perm_iff_count]
  intro a
  rw [h.count, h'.count]
  simp only [hm]

theorem shW_len : ∀ (k : Nat) (n : List Int) (l : Nat), (shW k n l).length = n.length
  | 0, n, l => rfl
  | k + 1, n, l => by
    simp only [shW]; split
    · rw [shW_len k]; simp [shStep, upd_len]
    · rfl
theorem shT_len : ∀ (k : Nat) (n : List Int), (shT k n).length = n.length
  | 0, n => rfl
  | k + 1, n => by simp only [shT]; rw [shT_len k, shW_len]
/-- How many bits a symbol's code has in the tree; 0: it has none. -/
def bits (f : List Int) (x : Nat) : Int := if x < 257 then len f x else 0
theorem tree_len {f : List Int} (h : f.length = 256) (hf : ∀ i, i < 256 → 0 ≤ g f i ∧ g f i ≤ 1099511627776) : (tree f).length = 771 :=
  (KI.run 257 (m0 f) (fun i => [i]) (m0_ki h hf) (by
      unfold cnt
      exact Nat.le_trans List.countP_le_length (by have := m0_len h; rw [List.length_take]; omega))).1.wf.len
theorem shape {f : List Int} (h : f.length = 256) (hf : ∀ i, i < 256 → 0 ≤ g f i ∧ g f i ≤ 1099511627776) :
    (∀ x, 0 ≤ bits f x ∧ bits f x ≤ 256) ∧ ((∃ x, x < 256 ∧ 0 < g f x) → SH (nT (bits f) 257) 256 ∧ (∀ x, x < 257 → (0 < bits f x ↔ Comes f x))) ∧ (¬ (∃ x, x < 256 ∧ 0 < g f x) → ∀ x, bits f x = 0) := by
  obtain ⟨l, l1, l2, l3, l4, l5, l6, l7⟩ := tree_spec h hf
  have eb : ∀ x, x < 257 → bits f x = len f x := fun x hx => by unfold bits; rw [if_pos hx]
  have hb : ∀ x, 0 ≤ bits f x ∧ bits f x ≤ 256 := fun x => by
    unfold bits; split
    · rename_i hx; exact l4 x hx
    · omega
  refine ⟨hb, fun hex => ?_, fun hno x => ?_⟩
  · have hc : ∀ x, x < 257 → (0 < bits f x ↔ Comes f x) := fun x hx => by
      rw [eb x hx]
      constructor
      · intro h; exact Classical.byContradiction fun hF => by rw [l5 x hx hF] at h; omega
      · intro hF; exact l6 hex x ((l2 x).2 ⟨hx, hF⟩)
    refine ⟨⟨nT_len _ _, fun i => nT_nn (fun x => (hb x).2) i _, nT_zero (fun x => (hb x).2) _, fun i hi => g_far (by rw [nT_len]; exact hi), ws_one (fun x => (hb x).2) _, ?_⟩, hc⟩
    rw [ws_sk (fun x => (hb x).2), ← ks_sk (m := tree f) (fun x hx => eb x hx) 257 (Nat.le_refl _), ← l3]
    refine perm_ks (nodup_perm (List.Pairwise.filter _ List.nodup_range) l1 fun x => ?_)
    rw [l2]
    simp only [pl, List.mem_filter, List.mem_range, decide_eq_true_eq]
    constructor
    · rintro ⟨h1, h2⟩; exact ⟨h1, (hc x h1).1 h2⟩
    · rintro ⟨h1, h2⟩; exact ⟨h1, (hc x h1).2 h2⟩
  · unfold bits; split
    · rename_i hx; exact l7 hno x hx
    · rfl

theorem ord_mem {L : Nat → Int} {k : Nat} {x : Int} : x ∈ ordL L k ↔ ∃ y : Nat, y < k ∧ 0 < L y ∧ x = y := by
  rw [ord_pl, List.mem_map]
  simp only [pl, List.mem_filter, List.mem_range, decide_eq_true_eq]
  constructor
  · rintro ⟨y, ⟨h1, h2⟩, h3⟩; exact ⟨y, h1, h2, h3.symm⟩
  · rintro ⟨y, h1, h2, h3⟩; exact ⟨y, ⟨h1, h2⟩, h3.symm⟩
theorem ord_len (L : Nat → Int) : ∀ k, (ordL L k).length ≤ k
  | 0 => Nat.le_refl _
  | k + 1 => by have := ord_len L k; simp only [ordL]; split <;> (try simp only [List.length_append, List.length_cons, List.length_nil]) <;> omega
theorem ord_rise (L : Nat → Int) : ∀ k, ∀ i j, i < j → j < (ordL L k).length → g (ordL L k) i < g (ordL L k) j
  | 0 => fun i j _ h => by simp [ordL] at h
  | k + 1 => by
    simp only [ordL]; split
    · intro i j hij hj
      rw [List.length_append, List.length_cons, List.length_nil] at hj
      have hi : g (ordL L k ++ [(k : Int)]) i = g (ordL L k) i := by simp only [g, List.getD_eq_getElem?_getD]; rw [List.getElem?_append_left (by omega)]
      rw [hi]
      rcases Nat.lt_or_ge j (ordL L k).length with h | h
      · have : g (ordL L k ++ [(k : Int)]) j = g (ordL L k) j := by simp only [g, List.getD_eq_getElem?_getD]; rw [List.getElem?_append_left h]
        rw [this]; exact ord_rise L k i j hij h
      · have : g (ordL L k ++ [(k : Int)]) j = k := by
          rw [g_app_right _ _ _ _ rfl h]
          have : j - (ordL L k).length = 0 := by omega
          rw [this]; rfl
        rw [this]
        obtain ⟨y, y1, y2, y3⟩ := ord_mem.1 (g_mem (z := ordL L k) (k := i) (by omega))
        omega
    · exact ord_rise L k
end Go.Proofs.Ytomckpllbihikaa
