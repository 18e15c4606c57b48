/-
  Layer 6: longer.
-/
import Derived.Test.YtomckpllbihikaaB2
set_option autoImplicit false
set_option linter.unusedSimpArgs false
set_option linter.unusedVariables false
namespace Go.Proofs.Ytomckpllbihikaa
open X

/-- The symbols that belong together, by next. -/
def chain (m : List Int) : List Nat → Prop
  | [] => False
  | [x] => x < 257 ∧ g m (514 + x) < 0
  | x :: y :: r => x < 257 ∧ g m (514 + x) = y ∧ chain m (y :: r)
def bump1 (m : List Int) (x : Nat) : List Int := m.set (257 + x) (g m (257 + x) + 1)
def bump (m : List Int) (l : List Nat) : List Int := l.foldl bump1 m
theorem bump1_len (m : List Int) (x : Nat) : (bump1 m x).length = m.length := by simp [bump1]
theorem bump_len (l : List Nat) : ∀ (m : List Int), (bump m l).length = m.length := by
  induction l with
  | nil => intro m; rfl
  | cons x l ih => intro m; rw [bump, List.foldl_cons]; rw [← bump]; rw [ih, bump1_len]
theorem chain_head {m : List Int} {x : Nat} {r : List Nat} (h : chain m (x :: r)) : x < 257 := by cases r <;> exact h.1
theorem chain_bump1 {m : List Int} (hm : m.length = 771) {x : Nat} (hx : x < 257) : ∀ (l : List Nat), chain m l → chain (bump1 m x) l := by
  intro l
  induction l with
  | nil => exact id
  | cons y l ih =>
    intro h
    have hy := chain_head h
    have key : g (bump1 m x) (514 + y) = g m (514 + y) := by rw [bump1, g_set _ _ _ _ (by omega), if_neg (by omega)]
    cases l with
    | nil => exact ⟨h.1, key ▸ h.2⟩
    | cons z l => exact ⟨h.1, key ▸ h.2.1, ih h.2.2⟩

set_option maxRecDepth 10000 in
theorem longer_any (w : World) (b : Nat) (m : List Int) (x : Nat) (r : List Nat) (h1 : m.length = 771) (hc : chain m (x :: r)) (hb : Own w b (ints .i64 m))
    (hlo : ∀ k, k < 257 → 0 ≤ g m (257 + k) ∧ g m (257 + k) + r.length < 4000000000000000000) :
    Calls Try.prog 27 [.pointer (some ⟨b, 0, none⟩), .int .i64 x].toArray w fun e w' => e = .returned (.int .i64 ((x :: r).getLast (by simp) : Nat)) ∧ Own w' b (ints .i64 (bump m (x :: r))) ∧ Fr (· = b) w w' := by
  refine enter27 (by simp) ?_
  (repeat' first | (simp only [RA, MI, S.dst, Nat.reduceAdd, Nat.reduceMul, Nat.reduceEqDiff, ↓reduceIte, reduceCtorEq, ne_eq, Nat.reduceLT, Nat.reduceLeDiff, gt_iff_lt, ge_iff_le, Int.reduceToNat, Nat.reduceSub, c27, x27, ints_ext, ints_set, ad_add, Nat.zero_add, Nat.add_zero, Nat.mul_one, Int.toNat_natCast, decide_eq_false_iff_not, ne_eq, not_false_eq_true, Nat.reduceLT, Nat.reduceLeDiff]) | ((with_reducible first | apply bound_of | apply wr_i64 | apply wr_u8 | apply wr_u64); (first | omega | (simp only [LN] at *; omega)); (first | omega | (simp only [LN] at *; omega))) | ((with_reducible apply ld_row); (focus ((repeat' first | (with_reducible first | assumption | apply Own.set | apply Own.new | apply Own.newD | apply Own.drew | apply Row.drew | apply Row.set | apply Row.new | apply Row.newD | apply Own.alloc | apply Row.alloc | apply Own.ne | apply Row.ne | apply Own.row) | (first | omega | (simp only [LN] at *; omega))); done))) | ((with_reducible apply ldN_row); (focus ((repeat' first | (with_reducible first | assumption | apply Own.set | apply Own.new | apply Own.newD | apply Own.drew | apply Row.drew | apply Row.set | apply Row.new | apply Row.newD | apply Own.alloc | apply Row.alloc | apply Own.ne | apply Row.ne | apply Own.row) | (first | omega | (simp only [LN] at *; omega))); done)); (first | omega | (simp only [LN] at *; omega))) | ((with_reducible apply st_row); (focus ((repeat' first | (with_reducible first | assumption | apply Own.set | apply Own.new | apply Own.newD | apply Own.drew | apply Row.drew | apply Row.set | apply Row.new | apply Row.newD | apply Own.alloc | apply Row.alloc | apply Own.ne | apply Row.ne | apply Own.row) | (first | omega | (simp only [LN] at *; omega))); done)); (first | omega | (simp only [LN] at *; omega)); rfl) | ((with_reducible first | apply ints_at | apply le_andI | apply le_andN | apply ne_andI); (first | omega | (simp only [LN] at *; omega))) | (with_reducible refine ite_of (fun _ => ?_) (fun _ => ?_)))
  refine loop_of (σ := List Int × Nat × List Nat) (fun s => [(0, .pointer (some ⟨b, 0, none⟩)), (1, .int .i64 s.2.1)])
    (fun s w' => s.1.length = 771 ∧ chain s.1 (s.2.1 :: s.2.2) ∧ Own w' b (ints .i64 s.1) ∧ bump s.1 (s.2.1 :: s.2.2) = bump m (x :: r) ∧ (s.2.1 :: s.2.2).getLast (by simp) = (x :: r).getLast (by simp) ∧ Fr (· = b) w w' ∧ ∀ k, k < 257 → 0 ≤ g s.1 (257 + k) ∧ g s.1 (257 + k) + s.2.2.length < 4000000000000000000)
    (fun s => s.2.2.length) (m, x, r) rfl ⟨h1, hc, hb, rfl, rfl, .refl _ _, hlo⟩ ?_
  rintro ⟨m', y, r'⟩ w' ⟨hm, hc, hb, hbu, hla, hf, hlo⟩
  dsimp only at *
  have hy := chain_head hc
  have hly := hlo y hy
  have hg : g (m'.set (257 + y) (g m' (257 + y) + 1)) (514 + y) = g m' (514 + y) := by rw [g_set _ _ _ _ (by omega), if_neg (by omega)]
  (repeat' first | (simp only [RA, MI, S.dst, Nat.reduceAdd, Nat.reduceMul, Nat.reduceEqDiff, ↓reduceIte, reduceCtorEq, ne_eq, Nat.reduceLT, Nat.reduceLeDiff, gt_iff_lt, ge_iff_le, Int.reduceToNat, Nat.reduceSub, c27, x27, ints_ext, ints_set, ad_add, Nat.zero_add, Nat.add_zero, Nat.mul_one, Int.toNat_natCast, decide_eq_false_iff_not, ne_eq, not_false_eq_true, Nat.reduceLT, Nat.reduceLeDiff]) | ((with_reducible first | apply bound_of | apply wr_i64 | apply wr_u8 | apply wr_u64); (first | omega | (simp only [LN] at *; omega)); (first | omega | (simp only [LN] at *; omega))) | ((with_reducible apply ld_row); (focus ((repeat' first | (with_reducible first | assumption | apply Own.set | apply Own.new | apply Own.newD | apply Own.drew | apply Row.drew | apply Row.set | apply Row.new | apply Row.newD | apply Own.alloc | apply Row.alloc | apply Own.ne | apply Row.ne | apply Own.row) | (first | omega | (simp only [LN] at *; omega))); done))) | ((with_reducible apply ldN_row); (focus ((repeat' first | (with_reducible first | assumption | apply Own.set | apply Own.new | apply Own.newD | apply Own.drew | apply Row.drew | apply Row.set | apply Row.new | apply Row.newD | apply Own.alloc | apply Row.alloc | apply Own.ne | apply Row.ne | apply Own.row) | (first | omega | (simp only [LN] at *; omega))); done)); (first | omega | (simp only [LN] at *; omega))) | ((with_reducible apply st_row); (focus ((repeat' first | (with_reducible first | assumption | apply Own.set | apply Own.new | apply Own.newD | apply Own.drew | apply Row.drew | apply Row.set | apply Row.new | apply Row.newD | apply Own.alloc | apply Row.alloc | apply Own.ne | apply Row.ne | apply Own.row) | (first | omega | (simp only [LN] at *; omega))); done)); (first | omega | (simp only [LN] at *; omega)); rfl) | ((with_reducible first | apply ints_at | apply le_andI | apply le_andN | apply ne_andI); (first | omega | (simp only [LN] at *; omega))) | (with_reducible refine ite_of (fun _ => ?_) (fun _ => ?_)))
  · rename_i hn
    rw [hg] at hn
    cases r' with
    | cons z r' => have := hc.2.1; omega
    | nil =>
      refine ⟨?_, ?_, hf.drew.setRow b _ fun _ => rfl⟩
      · rw [← hla]; rfl
      · rw [← hbu]; exact hb.drew.set _
  · rename_i hn
    rw [hg] at hn
    cases r' with
    | nil => exact absurd hc.2 hn
    | cons z r' =>
      refine ⟨(bump1 m' y, z, r'), ?_, ⟨?_, ?_, hb.drew.set _, hbu, hla, hf.drew.setRow b _ fun _ => rfl, ?_⟩, ?_⟩
      · simp only [hg]; rw [hc.2.1]
      · rw [bump1_len]; exact hm
      · exact chain_bump1 hm hy _ hc.2.2
      · intro k hk
        have h2 := hlo k hk
        simp only [List.length_cons, Int.natCast_add] at h2 hly
        dsimp only [bump1]
        rw [g_set _ _ _ _ (by omega)]
        split <;> rename_i he
        · have : k = y := by omega
          subst this; omega
        · omega
      · simp
end Go.Proofs.Ytomckpllbihikaa
