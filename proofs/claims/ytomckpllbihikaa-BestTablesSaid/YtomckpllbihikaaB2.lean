/-
  Layer 6: the tree's walks.
-/
import Derived.Test.YtomckpllbihikaaB1
import Derived.Test.YtomckpllbihikaaXR
set_option autoImplicit false
set_option linter.unusedSimpArgs false
set_option linter.unusedVariables false
namespace Go.Proofs.Ytomckpllbihikaa
open X

/-- The last of the least symbols but one, of the first n. -/
def leastTo (m : List Int) (but : Int) : Nat → Int
  | 0 => -1
  | n + 1 => let a := leastTo m but n
    if 0 < g m n ∧ (n : Int) ≠ but ∧ (a < 0 ∨ g m n ≤ g m a.toNat) then n else a
theorem leastTo_lt (m : List Int) (but : Int) (n : Nat) : -1 ≤ leastTo m but n ∧ leastTo m but n < n := by
  induction n with
  | zero => simp [leastTo]
  | succ n ih => simp only [leastTo]; split <;> omega

set_option maxRecDepth 10000 in
theorem least_any (w : World) (b : Nat) (m : List Int) (but : Int) (h1 : m.length = 771) (hb : Row w b (ints .i64 m)) (z : Int) (hz : leastTo m but 257 = z) :
    Calls Try.prog 26 [.pointer (some ⟨b, 0, none⟩), .int .i64 but].toArray w fun e w' => e = .returned (.int .i64 z) ∧ w' = w := by
  refine enter26 (by simp) ?_
  (repeat' first | (simp only [RA, MI, S.dst, Nat.reduceAdd, Nat.reduceMul, Nat.reduceEqDiff, ↓reduceIte, reduceCtorEq, ne_eq, Nat.reduceLT, Nat.reduceLeDiff, gt_iff_lt, ge_iff_le, Int.reduceToNat, Nat.reduceSub, c26, x26, c27, x27, ints_ext, ints_set, Nat.zero_add, Nat.add_zero, Nat.mul_one, Int.toNat_natCast, decide_eq_false_iff_not, ne_eq, not_false_eq_true, Nat.reduceLT, Nat.reduceLeDiff]) | ((with_reducible first | apply bound_of | apply wr_i64 | apply wr_u8 | apply wr_u64); (first | omega | (simp only [LN] at *; omega)); (first | omega | (simp only [LN] at *; omega))) | ((with_reducible apply ld_row); (focus ((repeat' first | (with_reducible first | assumption | apply Own.set | apply Own.new | apply Own.newD | apply Own.drew | apply Row.drew | apply Row.set | apply Row.new | apply Row.newD | apply Own.alloc | apply Row.alloc | apply Own.ne | apply Row.ne | apply Own.row) | (first | omega | (simp only [LN] at *; omega))); done))) | ((with_reducible apply ldN_row); (focus ((repeat' first | (with_reducible first | assumption | apply Own.set | apply Own.new | apply Own.newD | apply Own.drew | apply Row.drew | apply Row.set | apply Row.new | apply Row.newD | apply Own.alloc | apply Row.alloc | apply Own.ne | apply Row.ne | apply Own.row) | (first | omega | (simp only [LN] at *; omega))); done)); (first | omega | (simp only [LN] at *; omega))) | ((with_reducible apply st_row); (focus ((repeat' first | (with_reducible first | assumption | apply Own.set | apply Own.new | apply Own.newD | apply Own.drew | apply Row.drew | apply Row.set | apply Row.new | apply Row.newD | apply Own.alloc | apply Row.alloc | apply Own.ne | apply Row.ne | apply Own.row) | (first | omega | (simp only [LN] at *; omega))); done)); (first | omega | (simp only [LN] at *; omega)); rfl) | ((with_reducible first | apply ints_at | apply le_andI | apply le_andN | apply ne_andI); (first | omega | (simp only [LN] at *; omega))) | (with_reducible refine ite_of (fun _ => ?_) (fun _ => ?_)))
  refine loop_of (σ := Nat) (fun i => [(0, .pointer (some ⟨b, 0, none⟩)), (1, .int .i64 but), (5, .int .i64 (leastTo m but i)), (11, .agg (ints .i64 (m.take 257))), (12, .int .i64 i)]) (fun i w' => w' = w ∧ i ≤ 257) (fun i => 257 - i) 0 ?_ ⟨rfl, by simp⟩ ?_
  · simp [leastTo]
  rintro i w' ⟨rfl, hi⟩
  have hl := leastTo_lt m but i
  (repeat' first | (simp only [RA, MI, S.dst, Nat.reduceAdd, Nat.reduceMul, Nat.reduceEqDiff, ↓reduceIte, reduceCtorEq, ne_eq, Nat.reduceLT, Nat.reduceLeDiff, gt_iff_lt, ge_iff_le, Int.reduceToNat, Nat.reduceSub, c26, x26, c27, x27, ints_ext, ints_set, Nat.zero_add, Nat.add_zero, Nat.mul_one, Int.toNat_natCast, decide_eq_false_iff_not, ne_eq, not_false_eq_true, Nat.reduceLT, Nat.reduceLeDiff]) | ((with_reducible first | apply bound_of | apply wr_i64 | apply wr_u8 | apply wr_u64); (first | omega | (simp only [LN] at *; omega)); (first | omega | (simp only [LN] at *; omega))) | ((with_reducible apply ld_row); (focus ((repeat' first | (with_reducible first | assumption | apply Own.set | apply Own.new | apply Own.newD | apply Own.drew | apply Row.drew | apply Row.set | apply Row.new | apply Row.newD | apply Own.alloc | apply Row.alloc | apply Own.ne | apply Row.ne | apply Own.row) | (first | omega | (simp only [LN] at *; omega))); done))) | ((with_reducible apply ldN_row); (focus ((repeat' first | (with_reducible first | assumption | apply Own.set | apply Own.new | apply Own.newD | apply Own.drew | apply Row.drew | apply Row.set | apply Row.new | apply Row.newD | apply Own.alloc | apply Row.alloc | apply Own.ne | apply Row.ne | apply Own.row) | (first | omega | (simp only [LN] at *; omega))); done)); (first | omega | (simp only [LN] at *; omega))) | ((with_reducible apply st_row); (focus ((repeat' first | (with_reducible first | assumption | apply Own.set | apply Own.new | apply Own.newD | apply Own.drew | apply Row.drew | apply Row.set | apply Row.new | apply Row.newD | apply Own.alloc | apply Row.alloc | apply Own.ne | apply Row.ne | apply Own.row) | (first | omega | (simp only [LN] at *; omega))); done)); (first | omega | (simp only [LN] at *; omega)); rfl) | ((with_reducible first | apply ints_at | apply le_andI | apply le_andN | apply ne_andI); (first | omega | (simp only [LN] at *; omega))) | (with_reducible refine ite_of (fun _ => ?_) (fun _ => ?_)))
  case h.refine_2.refine_2 =>
    obtain rfl : i = 257 := by omega
    simp [hz]
  all_goals
    have hg := g_take0 m 257 i (by omega)
    refine ⟨i + 1, ?_, ⟨trivial, by omega⟩, by omega⟩
    simp only [List.cons.injEq, Prod.mk.injEq, Value.int.injEq, true_and, and_true, Int.natCast_add, Int.cast_ofNat_Int, leastTo]
    split <;> omega
end Go.Proofs.Ytomckpllbihikaa
