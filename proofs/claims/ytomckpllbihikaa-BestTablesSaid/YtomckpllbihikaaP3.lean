/-
  Layer 5, plain: a table's codes as a list. No program.
-/
import Derived.Test.YtomckpllbihikaaB6
set_option autoImplicit false
set_option linter.unusedSimpArgs false
set_option linter.unusedVariables false
namespace Go.Proofs.Ytomckpllbihikaa
open X

/-- The table m has just the codes of L: symbol, code, length. -/
structure CInv (m : List Int) (L : List (Nat × Nat × Nat)) : Prop where
  nod : (L.map (·.1)).Nodup
  mem : ∀ x b n, (x, b, n) ∈ L → x < 256 ∧ g m (2 * x) = b ∧ g m (2 * x + 1) = n ∧ 1 ≤ n ∧ n ≤ 16 ∧ b + 1 < 2 ^ n
  out : ∀ x, x < 256 → x ∉ L.map (·.1) → g m (2 * x + 1) = 0

theorem CInv.base : CInv (List.replicate 546 0) [] := by
  refine ⟨List.nodup_nil, fun _ _ _ h => absurd h List.not_mem_nil, fun x hx _ => ?_⟩
  simp only [g, List.getD, List.getElem?_replicate]; split <;> rfl
theorem CInv.far {m : List Int} {L : List (Nat × Nat × Nat)} (h : CInv m L) (hm : m.length = 546) (i : Nat) (hi : 512 ≤ i) (hi2 : i < 546) (v : Int) : CInv (m.set i v) L := by
  have e : ∀ k, k < 512 → g (m.set i v) k = g m k := fun k hk => by rw [g_set _ _ _ _ (by omega), if_neg (by omega)]
  refine ⟨h.nod, fun x b n hx => ?_, fun x hx hn => ?_⟩
  · obtain ⟨h1, h2, h3, h4⟩ := h.mem x b n hx
    exact ⟨h1, by rw [e _ (by omega)]; exact h2, by rw [e _ (by omega)]; exact h3, h4⟩
  · rw [e _ (by omega)]; exact h.out x hx hn
theorem CInv.step {m : List Int} {L : List (Nat × Nat × Nat)} (h : CInv m L) (hm : m.length = 546) {x b n : Nat} (hx : x < 256) (h0 : ¬ 0 < g m (2 * x + 1)) (hn1 : 1 ≤ n) (hn2 : n ≤ 16) (hb : b + 1 < 2 ^ n) :
    CInv ((m.set (2 * x) b).set (2 * x + 1) n) (L ++ [(x, b, n)]) := by
  have G : ∀ k, g ((m.set (2 * x) (b : Int)).set (2 * x + 1) n) k = if k = 2 * x + 1 then (n : Int) else if k = 2 * x then b else g m k := by
    intro k
    rw [g_set _ _ _ _ (by simp; omega), g_set _ _ _ _ (by omega)]
    simp only [eq_comm (b := k)]
  have hnx : x ∉ L.map (·.1) := by
    intro hmem
    obtain ⟨⟨x', b', n'⟩, h1, h2⟩ := List.mem_map.1 hmem
    dsimp only at h2; subst h2
    obtain ⟨_, _, h5, h6, _⟩ := h.mem x' b' n' h1
    omega
  refine ⟨?_, fun y c k hy => ?_, fun y hy hn => ?_⟩
  · rw [List.map_append, List.nodup_append]
    refine ⟨h.nod, by simp, fun a ha b hb e => ?_⟩
    simp at hb; subst hb; subst e; exact hnx ha
  · rcases List.mem_append.1 hy with h1 | h1
    · obtain ⟨h2, h3, h4, h5⟩ := h.mem y c k h1
      have hne : y ≠ x := fun e => hnx (e ▸ List.mem_map.2 ⟨_, h1, rfl⟩)
      exact ⟨h2, by rw [G, if_neg (by omega), if_neg (by omega)]; exact h3, by rw [G, if_neg (by omega), if_neg (by omega)]; exact h4, h5⟩
    · simp only [List.mem_singleton, Prod.mk.injEq] at h1
      obtain ⟨rfl, rfl, rfl⟩ := h1
      exact ⟨hx, by rw [G, if_neg (by omega), if_pos rfl], by rw [G, if_pos rfl], hn1, hn2, hb⟩
  · rw [List.map_append, List.mem_append, not_or] at hn
    have hne : y ≠ x := fun e => hn.2 (by simp [e])
    rw [G, if_neg (by omega), if_neg (by omega)]
    exact h.out y hy hn.1

/-- The numbers of a list of codes, one behind the other. -/
def fl (L : List (Nat × Nat × Nat)) : List Int := L.flatMap fun t => [(t.1 : Int), t.2.1, t.2.2]
theorem fl_len (L : List (Nat × Nat × Nat)) : (fl L).length = 3 * L.length := by
  induction L with
  | nil => rfl
  | cons t L ih => simp only [fl, List.flatMap_cons, List.length_append, List.length_cons, List.length_nil] at *; omega
theorem fl_app (L M : List (Nat × Nat × Nat)) : fl (L ++ M) = fl L ++ fl M := by simp [fl]
theorem fl_g (L : List (Nat × Nat × Nat)) : ∀ (i : Nat) (t : Nat × Nat × Nat), L[i]? = some t → g (fl L) (i * 3) = t.1 ∧ g (fl L) (i * 3 + 1) = t.2.1 ∧ g (fl L) (i * 3 + 2) = t.2.2 := by
  induction L with
  | nil => intro i t h; simp at h
  | cons u L ih =>
    intro i t h
    cases i with
    | zero => simp at h; subst h; simp [fl, g]
    | succ i =>
      have := ih i t (by simpa using h)
      have e : ∀ k, g (fl (u :: L)) (k + 3) = g (fl L) k := fun k => by simp [fl, g]
      have e1 : (i + 1) * 3 = i * 3 + 3 := by omega
      rw [e1]
      have e2 : i * 3 + 3 + 1 = (i * 3 + 1) + 3 := by omega
      have e3 : i * 3 + 3 + 2 = (i * 3 + 2) + 3 := by omega
      rw [e2, e3, e, e, e]; exact this
end Go.Proofs.Ytomckpllbihikaa
