/-
  The laws' function right; BestRight, walked.
-/
import Derived.Test.YtomckpllbihikaaL0
set_option autoImplicit false
set_option linter.unusedSimpArgs false
set_option linter.unusedVariables false
namespace Go.Proofs.Ytomckpllbihikaa
open X

set_option maxRecDepth 10000 in
theorem lawRight_any (w : World) (f : List Int) (hf : f.length = 256) (z : Bool) (hz : lawRight f = z) :
    Calls Try.prog 9 [.agg (ints .i64 f)].toArray w fun e w' => e = .returned (.bool z) ∧ Fr no w w' := by
  refine enter9 (by simp) ?_
  (repeat' first | (simp only [RA, MI, S.dst, Nat.reduceAdd, Nat.reduceMul, Nat.reduceEqDiff, ↓reduceIte, reduceCtorEq, ne_eq, Nat.reduceLT, Nat.reduceLeDiff, gt_iff_lt, ge_iff_le, Int.reduceToNat, Nat.reduceSub, c9, x9, ints_ext, ints_set, true_and, ints_size, not_true_eq_false, Int.reduceEq]) | ((with_reducible first | apply bound_of | apply wr_i64 | apply wr_u8 | apply wr_u64); (first | omega | (simp only [LN] at *; omega)); (first | omega | (simp only [LN] at *; omega))) | ((with_reducible apply ld_row); (focus ((repeat' first | (with_reducible first | assumption | apply Own.set | apply Own.new | apply Own.newD | apply Own.drew | apply Row.drew | apply Row.set | apply Row.new | apply Row.newD | apply Own.alloc | apply Row.alloc | apply Own.ne | apply Row.ne | apply Own.row) | (first | omega | (simp only [LN] at *; omega))); done))) | ((with_reducible apply ldN_row); (focus ((repeat' first | (with_reducible first | assumption | apply Own.set | apply Own.new | apply Own.newD | apply Own.drew | apply Row.drew | apply Row.set | apply Row.new | apply Row.newD | apply Own.alloc | apply Row.alloc | apply Own.ne | apply Row.ne | apply Own.row) | (first | omega | (simp only [LN] at *; omega))); done)); (first | omega | (simp only [LN] at *; omega))) | ((with_reducible apply st_row); (focus ((repeat' first | (with_reducible first | assumption | apply Own.set | apply Own.new | apply Own.newD | apply Own.drew | apply Row.drew | apply Row.set | apply Row.new | apply Row.newD | apply Own.alloc | apply Row.alloc | apply Own.ne | apply Row.ne | apply Own.row) | (first | omega | (simp only [LN] at *; omega))); done)); (first | omega | (simp only [LN] at *; omega)); rfl) | ((with_reducible first | apply ints_at | apply le_andI | apply le_andN | apply ne_andI); (first | omega | (simp only [LN] at *; omega))) | (with_reducible refine ite_of (fun _ => ?_) (fun _ => ?_)))
  have ho : Row (w.alloc (Obj.cells (ints .i64 f) 22)) w.heap.size (ints .i64 f) := by (focus ((repeat' first | (with_reducible first | assumption | apply Own.set | apply Own.new | apply Own.newD | apply Own.drew | apply Row.drew | apply Row.set | apply Row.new | apply Row.newD | apply Own.alloc | apply Row.alloc | apply Own.ne | apply Row.ne | apply Own.row) | (first | omega | (simp only [LN] at *; omega))); done))
  have hfr : Fr no w (w.alloc (Obj.cells (ints .i64 f) 22)) := by (focus ((repeat' first | (with_reducible first | assumption | apply Fr.drew | apply Fr.alloc | apply Fr.setRow | exact Fr.refl _ _) | (intro _; rfl) | (intro hb; simp only [X.no] at *; omega)); done))
  refine loop_of (σ := Nat) (fun t => [(1, .pointer (some ⟨w.heap.size, 0, none⟩)), (3, .bool (anyB f t)), (4, .int .i64 (t : Int))])
    (fun t w' => t ≤ 256 ∧ (∀ k, k < t → badN (g f k) = false) ∧ Row w' w.heap.size (ints .i64 f) ∧ Fr no w w') (fun t => 256 - t) 0 rfl ⟨by omega, fun k hk => absurd hk (Nat.not_lt_zero _), ho, hfr⟩ ?_
  clear ho hfr
  rintro i w' ⟨hi, hg, ho, hfr⟩
  obtain ⟨b, hb⟩ : ∃ b, anyB f i = b := ⟨_, rfl⟩
  rw [hb]
  have hn : i < 256 → anyB f (i + 1) = (b || decide (0 < g f i)) := fun _ => by simp only [anyB, hb]
  cases b
  all_goals
    (repeat' first | (simp only [RA, MI, S.dst, Nat.reduceAdd, Nat.reduceMul, Nat.reduceEqDiff, ↓reduceIte, reduceCtorEq, ne_eq, Nat.reduceLT, Nat.reduceLeDiff, gt_iff_lt, ge_iff_le, Int.reduceToNat, Nat.reduceSub, c9, x9, ints_ext, ints_set, true_and, ints_size, not_true_eq_false, Int.reduceEq]) | ((with_reducible first | apply bound_of | apply wr_i64 | apply wr_u8 | apply wr_u64); (first | omega | (simp only [LN] at *; omega)); (first | omega | (simp only [LN] at *; omega))) | ((with_reducible apply ld_row); (focus ((repeat' first | (with_reducible first | assumption | apply Own.set | apply Own.new | apply Own.newD | apply Own.drew | apply Row.drew | apply Row.set | apply Row.new | apply Row.newD | apply Own.alloc | apply Row.alloc | apply Own.ne | apply Row.ne | apply Own.row) | (first | omega | (simp only [LN] at *; omega))); done))) | ((with_reducible apply ldN_row); (focus ((repeat' first | (with_reducible first | assumption | apply Own.set | apply Own.new | apply Own.newD | apply Own.drew | apply Row.drew | apply Row.set | apply Row.new | apply Row.newD | apply Own.alloc | apply Row.alloc | apply Own.ne | apply Row.ne | apply Own.row) | (first | omega | (simp only [LN] at *; omega))); done)); (first | omega | (simp only [LN] at *; omega))) | ((with_reducible apply st_row); (focus ((repeat' first | (with_reducible first | assumption | apply Own.set | apply Own.new | apply Own.newD | apply Own.drew | apply Row.drew | apply Row.set | apply Row.new | apply Row.newD | apply Own.alloc | apply Row.alloc | apply Own.ne | apply Row.ne | apply Own.row) | (first | omega | (simp only [LN] at *; omega))); done)); (first | omega | (simp only [LN] at *; omega)); rfl) | ((with_reducible first | apply ints_at | apply le_andI | apply le_andN | apply ne_andI); (first | omega | (simp only [LN] at *; omega))) | (with_reducible refine ite_of (fun _ => ?_) (fun _ => ?_)))
    all_goals first
      | (refine ⟨?_, hfr⟩
         have hbad : badIn f = true := badIn_of (k := i) (by omega) (by simp [badN]; omega)
         rw [← hz]; simp [lawRight, hbad]; done)
      | (refine ⟨i + 1, ?_, ⟨by omega, fun k hk => ?_, ho, hfr⟩, by omega⟩
         · rw [hn (by omega)]
           first
             | ((first | rfl | (simp only [List.cons.injEq, Prod.mk.injEq, Value.int.injEq, Value.bool.injEq, true_and, and_true, List.cons_append, List.nil_append]; done) | (simp only [List.cons.injEq, Prod.mk.injEq, Value.int.injEq, Value.bool.injEq, true_and, and_true, List.cons_append, List.nil_append]; omega)))
             | (simp only [Bool.true_or, Bool.false_or, Bool.or_true]; (first | rfl | (simp only [List.cons.injEq, Prod.mk.injEq, Value.int.injEq, Value.bool.injEq, true_and, and_true, List.cons_append, List.nil_append]; done) | (simp only [List.cons.injEq, Prod.mk.injEq, Value.int.injEq, Value.bool.injEq, true_and, and_true, List.cons_append, List.nil_append]; omega)))
         · rcases Nat.lt_or_ge k i with y | y
           · exact hg k y
           · obtain rfl : k = i := by omega
             simp [badN]; omega)
      | (refine ⟨?_, hfr⟩
         obtain rfl : i = 256 := by omega
         have hbad : badIn f = false := not_bad fun k hk => hg k (by omega)
         rw [← hz]; simp [lawRight, hbad, hb]; done)
      | skip
  all_goals trace_state
end Go.Proofs.Ytomckpllbihikaa
