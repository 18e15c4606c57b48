/-
  The document's Least, walked.
-/
import Derived.Test.YtomckpllbihikaaP15
import Derived.Test.YtomckpllbihikaaS1
set_option autoImplicit false
set_option linter.unusedSimpArgs false
set_option linter.unusedVariables false
namespace Go.Proofs.Ytomckpllbihikaa
open X

/-- The groups, as they lie in memory: first symbol, number, all symbols (v). -/
def grp (m : List Int) (v : Nat → Value) (R : List Nat) : List Value := R.flatMap fun (i : Nat) => [.int .i64 (i : Int), .int .i64 (g m i), v i]
theorem grp_len (m : List Int) (v : Nat → Value) : ∀ R : List Nat, (grp m v R).length = R.length * 3
  | [] => rfl
  | i :: R => by simp only [grp, List.flatMap_cons, List.length_append, List.length_cons, List.length_nil] at *; have := grp_len m v R; simp only [grp] at this; omega
theorem grp_app (m : List Int) (v : Nat → Value) (R R' : List Nat) : grp m v (R ++ R') = grp m v R ++ grp m v R' := by simp [grp]
theorem grp_get (m : List Int) (v : Nat → Value) : ∀ (R : List Nat) (p : Nat), p < R.length → (grp m v R)[p * 3]? = some (.int .i64 (rAt R p)) ∧ (grp m v R)[p * 3 + 1]? = some (.int .i64 (g m (rAt R p))) ∧ (grp m v R)[p * 3 + 2]? = some (v (rAt R p))
  | [], p, h => by simp at h
  | i :: R, 0, _ => ⟨rfl, rfl, rfl⟩
  | i :: R, p + 1, h => by
    obtain ⟨h1, h2, h3⟩ := grp_get m v R p (by simpa using h)
    have e : grp m v (i :: R) = .int .i64 (i : Int) :: .int .i64 (g m i) :: v i :: grp m v R := rfl
    have e1 : (p + 1) * 3 = p * 3 + 1 + 1 + 1 := by omega
    have e2 : (p + 1) * 3 + 1 = p * 3 + 1 + 1 + 1 + 1 := by omega
    have e3 : (p + 1) * 3 + 2 = p * 3 + 2 + 1 + 1 + 1 := by omega
    have er : rAt (i :: R) (p + 1) = rAt R p := rfl
    rw [e, e3, e2, e1, er]
    simp only [List.getElem?_cons_succ]
    exact ⟨h1, h2, h3⟩
theorem grp_at0 {m : List Int} {v : Nat → Value} {R : List Nat} {rest : List Value} {p : Nat} {K : Value → Prop} (h : p < R.length) (hk : K (.int .i64 (rAt R p))) : At (grp m v R ++ rest).toArray (p * 3) K := by
  refine at_of ?_ hk
  have := grp_len m v R
  rw [List.getElem?_toArray, List.getElem?_append_left (by omega)]; exact (grp_get m v R p h).1
theorem grp_at1 {m : List Int} {v : Nat → Value} {R : List Nat} {rest : List Value} {p : Nat} {K : Value → Prop} (h : p < R.length) (hk : K (.int .i64 (g m (rAt R p)))) : At (grp m v R ++ rest).toArray (p * 3 + 1) K := by
  refine at_of ?_ hk
  have := grp_len m v R
  rw [List.getElem?_toArray, List.getElem?_append_left (by omega)]; exact (grp_get m v R p h).2.1
theorem grp_at2 {m : List Int} {v : Nat → Value} {R : List Nat} {rest : List Value} {p : Nat} {K : Value → Prop} (h : p < R.length) (hk : K (v (rAt R p))) : At (grp m v R ++ rest).toArray (p * 3 + 2) K := by
  refine at_of ?_ hk
  have := grp_len m v R
  rw [List.getElem?_toArray, List.getElem?_append_left (by omega)]; exact (grp_get m v R p h).2.2

theorem rl_succ (N F : Nat → Int) (but : Int) (n : Nat) : rl N F but (n + 1) = if (n : Int) = but then rl N F but n else if rl N F but n < 0 ∨ N n < N (rl N F but n).toNat ∨ (N n = N (rl N F but n).toNat ∧ F (rl N F but n).toNat < F n) then (n : Int) else rl N F but n := rfl

set_option maxRecDepth 10000 in
theorem Least_any (w : World) (b n cap : Nat) (m : List Int) (v : Nat → Value) (R : List Nat) (rest : List Value) (hn : R.length = n) (hn2 : n < 1000000) (hb : Row w b (grp m v R ++ rest).toArray) (but : Int) (Z : Int) (hZ : rl (fun p => g m (rAt R p)) (fun p => rAt R p) but n = Z) :
    Calls Try.prog 30 [.slice (some ⟨b, 0, none⟩) n cap, .int .i64 but].toArray w fun e w' => e = .returned (.int .i64 Z) ∧ Fr no w w' := by
  refine enter30 (by simp) ?_
  (repeat' first | (simp only [RA, MI, S.dst, Nat.reduceAdd, Nat.reduceMul, Nat.reduceEqDiff, ↓reduceIte, reduceCtorEq, ne_eq, Nat.reduceLT, Nat.reduceLeDiff, gt_iff_lt, ge_iff_le, Int.reduceToNat, Nat.reduceSub, c30, x30, true_and, ints_ext, ints_set]) | (first | ((with_reducible apply grp_at1); (first | omega | (simp only [LN] at *; omega))) | ((with_reducible apply grp_at2); (first | omega | (simp only [LN] at *; omega))) | ((with_reducible apply grp_at0); (first | omega | (simp only [LN] at *; omega)))) | ((with_reducible first | apply bound_of | apply wr_i64 | apply wr_u8 | apply wr_u64); (first | omega | (simp only [LN] at *; omega)); (first | omega | (simp only [LN] at *; omega))) | ((with_reducible apply ld_row); (focus ((repeat' first | (with_reducible first | assumption | apply Own.set | apply Own.new | apply Own.newD | apply Own.drew | apply Row.drew | apply Row.set | apply Row.new | apply Row.newD | apply Own.alloc | apply Row.alloc | apply Own.ne | apply Row.ne | apply Own.row) | (first | omega | (simp only [LN] at *; omega))); done))) | ((with_reducible apply ldN_row); (focus ((repeat' first | (with_reducible first | assumption | apply Own.set | apply Own.new | apply Own.newD | apply Own.drew | apply Row.drew | apply Row.set | apply Row.new | apply Row.newD | apply Own.alloc | apply Row.alloc | apply Own.ne | apply Row.ne | apply Own.row) | (first | omega | (simp only [LN] at *; omega))); done)); (first | omega | (simp only [LN] at *; omega))) | ((with_reducible apply st_row); (focus ((repeat' first | (with_reducible first | assumption | apply Own.set | apply Own.new | apply Own.newD | apply Own.drew | apply Row.drew | apply Row.set | apply Row.new | apply Row.newD | apply Own.alloc | apply Row.alloc | apply Own.ne | apply Row.ne | apply Own.row) | (first | omega | (simp only [LN] at *; omega))); done)); (first | omega | (simp only [LN] at *; omega)); rfl) | ((with_reducible first | apply ints_at | apply le_andI | apply le_andN | apply ne_andI); (first | omega | (simp only [LN] at *; omega))) | (with_reducible refine ite_of (fun _ => ?_) (fun _ => ?_)))
  refine loop_of (σ := Nat) (fun t => [(0, .slice (some ⟨b, 0, none⟩) n cap), (1, .int .i64 but), (5, .int .i64 (rl (fun p => g m (rAt R p)) (fun p => rAt R p) but t)), (6, .int .i64 (t : Int))])
    (fun t w' => t ≤ n ∧ Row w' b (grp m v R ++ rest).toArray ∧ Fr no w w') (fun t => n - t) 0 rfl ⟨by omega, hb, .refl _ _⟩ ?_
  clear hb
  rintro i w' ⟨hi, hb, hf⟩
  have hg := rl_ge (fun p => g m (rAt R p)) (fun p => (rAt R p : Int)) but i
  have hs := rl_succ (fun p => g m (rAt R p)) (fun p => (rAt R p : Int)) but i
  obtain ⟨x, hx⟩ : ∃ x, rl (fun p => g m (rAt R p)) (fun p => (rAt R p : Int)) but i = x := ⟨_, rfl⟩
  rw [hx] at hg hs ⊢
  (try dsimp only at hs)
  have hgl := grp_len m v R
  (repeat' first | (simp only [RA, MI, S.dst, Nat.reduceAdd, Nat.reduceMul, Nat.reduceEqDiff, ↓reduceIte, reduceCtorEq, ne_eq, Nat.reduceLT, Nat.reduceLeDiff, gt_iff_lt, ge_iff_le, Int.reduceToNat, Nat.reduceSub, c30, x30, true_and, ints_ext, ints_set]) | (first | ((with_reducible apply grp_at1); (first | omega | (simp only [LN] at *; omega))) | ((with_reducible apply grp_at2); (first | omega | (simp only [LN] at *; omega))) | ((with_reducible apply grp_at0); (first | omega | (simp only [LN] at *; omega)))) | ((with_reducible first | apply bound_of | apply wr_i64 | apply wr_u8 | apply wr_u64); (first | omega | (simp only [LN] at *; omega)); (first | omega | (simp only [LN] at *; omega))) | ((with_reducible apply ld_row); (focus ((repeat' first | (with_reducible first | assumption | apply Own.set | apply Own.new | apply Own.newD | apply Own.drew | apply Row.drew | apply Row.set | apply Row.new | apply Row.newD | apply Own.alloc | apply Row.alloc | apply Own.ne | apply Row.ne | apply Own.row) | (first | omega | (simp only [LN] at *; omega))); done))) | ((with_reducible apply ldN_row); (focus ((repeat' first | (with_reducible first | assumption | apply Own.set | apply Own.new | apply Own.newD | apply Own.drew | apply Row.drew | apply Row.set | apply Row.new | apply Row.newD | apply Own.alloc | apply Row.alloc | apply Own.ne | apply Row.ne | apply Own.row) | (first | omega | (simp only [LN] at *; omega))); done)); (first | omega | (simp only [LN] at *; omega))) | ((with_reducible apply st_row); (focus ((repeat' first | (with_reducible first | assumption | apply Own.set | apply Own.new | apply Own.newD | apply Own.drew | apply Row.drew | apply Row.set | apply Row.new | apply Row.newD | apply Own.alloc | apply Row.alloc | apply Own.ne | apply Row.ne | apply Own.row) | (first | omega | (simp only [LN] at *; omega))); done)); (first | omega | (simp only [LN] at *; omega)); rfl) | ((with_reducible first | apply ints_at | apply le_andI | apply le_andN | apply ne_andI); (first | omega | (simp only [LN] at *; omega))) | (with_reducible refine ite_of (fun _ => ?_) (fun _ => ?_)))
  all_goals first
    | (refine ⟨i + 1, ?_, ⟨by omega, by first | exact hb | exact hb.drew, by first | exact hf | exact hf.drew⟩, by omega⟩
       rw [hs]
       (repeat' split)
       all_goals first
         | (exfalso; omega)
         | (first | rfl | (simp only [List.cons.injEq, Prod.mk.injEq, Value.int.injEq, Value.bool.injEq, true_and, and_true, List.cons_append, List.nil_append]; done) | (simp only [List.cons.injEq, Prod.mk.injEq, Value.int.injEq, Value.bool.injEq, true_and, and_true, List.cons_append, List.nil_append]; omega)))
    | (have : i = n := by omega
       subst this
       rw [← hZ, hx]
       exact ⟨rfl, hf⟩)
    | (have : i = n := by omega
       subst this
       refine ⟨?_, hf⟩
       rw [← hZ, hx])
end Go.Proofs.Ytomckpllbihikaa
