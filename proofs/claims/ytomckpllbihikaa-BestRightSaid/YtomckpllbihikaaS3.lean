/-
  rotate.
-/
import Derived.Test.YtomckpllbihikaaS2
set_option autoImplicit false
set_option linter.unusedSimpArgs false
set_option linter.unusedVariables false
namespace Go.Proofs.Ytomckpllbihikaa
open X

/-- What rotate makes of place k: the places from m on (up to b) come ahead of those from a on (up to m). -/
def roR (d : List Int) (a m b k : Nat) : Int := if a ≤ k ∧ k < a + (b - m) then g d (k + (m - a)) else if a + (b - m) ≤ k ∧ k < b then g d (k - (b - m)) else g d k

theorem roR_left {d z : List Int} {m i j n : Nat} (hi : i ≤ m) (hij : j < i) (hj : m + j ≤ n) (hz : ∀ k, k < n → g z k = swR d (m - i) m j k) (k : Nat) (hk : k < n) :
    roR z (m - (i - j)) m (m + j) k = roR d (m - i) m (m + j) k := by
  unfold roR
  have e1 : m + j - m = j := by omega
  rw [e1]
  repeat' split
  all_goals first
    | (exfalso; omega)
    | (rw [hz _ (by omega)]; unfold swR; repeat' split
       all_goals first
         | (exfalso; omega)
         | (congr 1 <;> omega))
theorem roR_right {d z : List Int} {m i j n : Nat} (hi : i ≤ m) (hij : i < j) (hj : m + j ≤ n) (hz : ∀ k, k < n → g z k = swR d (m - i) (m + j - i) i k) (k : Nat) (hk : k < n) :
    roR z (m - i) m (m + (j - i)) k = roR d (m - i) m (m + j) k := by
  unfold roR
  have e1 : m + j - m = j := by omega
  have e2 : m + (j - i) - m = j - i := by omega
  rw [e1, e2]
  repeat' split
  all_goals first
    | (exfalso; omega)
    | (rw [hz _ (by omega)]; unfold swR; repeat' split
       all_goals first
         | (exfalso; omega)
         | (congr 1 <;> omega))
theorem roR_last {d z : List Int} {m i n : Nat} (hi : i ≤ m) (hj : m + i ≤ n) (hz : ∀ k, k < n → g z k = swR d (m - i) m i k) (k : Nat) (hk : k < n) : g z k = roR d (m - i) m (m + i) k := by
  rw [hz _ hk]
  unfold roR swR
  have e1 : m + i - m = i := by omega
  rw [e1]
  repeat' split
  all_goals first
    | (exfalso; omega)
    | (congr 1 <;> omega)

set_option maxRecDepth 10000 in
theorem rotate_any (cf : Value) (w : World) (bk n cap a m b : Nat) (d : List Int) (rest : List Value) (hn : d.length = n) (hn2 : n < 1000000) (hb : Own w bk (d.map (Value.int .i64) ++ rest).toArray) (ha : a < m) (hm : m < b) (he : b ≤ n) :
    Calls Try.prog 34 [.slice (some ⟨bk, 0, none⟩) n cap, .int .i64 (a : Int), .int .i64 (m : Int), .int .i64 (b : Int), cf].toArray w fun r w' => r = .returned (.tuple #[]) ∧ ∃ Z : List Int, Own w' bk (Z.map (Value.int .i64) ++ rest).toArray ∧ Z.length = n ∧ Z.Perm d ∧
      (∀ k, k < n → g Z k = roR d a m b k) ∧ Fr (· = bk) w w' := by
  refine enter34 (by simp) ?_
  (repeat' first | (simp only [RA, MI, S.dst, Nat.reduceAdd, Nat.reduceMul, Nat.reduceEqDiff, ↓reduceIte, reduceCtorEq, ne_eq, Nat.reduceLT, Nat.reduceLeDiff, gt_iff_lt, ge_iff_le, Int.reduceToNat, Nat.reduceSub, c34, x34, true_and, ints_ext, ints_set]) | (first | ((with_reducible apply app_at); (first | omega | (simp only [LN] at *; omega))) | ((with_reducible apply app_st); (focus ((repeat' first | (with_reducible first | assumption | apply Own.set | apply Own.new | apply Own.newD | apply Own.drew | apply Row.drew | apply Row.set | apply Row.new | apply Row.newD | apply Own.alloc | apply Row.alloc | apply Own.ne | apply Row.ne | apply Own.row) | (first | omega | (simp only [LN] at *; omega))); done)); (first | omega | (simp only [LN] at *; omega)))) | ((with_reducible first | apply bound_of | apply wr_i64 | apply wr_u8 | apply wr_u64); (first | omega | (simp only [LN] at *; omega)); (first | omega | (simp only [LN] at *; omega))) | ((with_reducible apply ld_row); (focus ((repeat' first | (with_reducible first | assumption | apply Own.set | apply Own.new | apply Own.newD | apply Own.drew | apply Row.drew | apply Row.set | apply Row.new | apply Row.newD | apply Own.alloc | apply Row.alloc | apply Own.ne | apply Row.ne | apply Own.row) | (first | omega | (simp only [LN] at *; omega))); done))) | ((with_reducible apply ldN_row); (focus ((repeat' first | (with_reducible first | assumption | apply Own.set | apply Own.new | apply Own.newD | apply Own.drew | apply Row.drew | apply Row.set | apply Row.new | apply Row.newD | apply Own.alloc | apply Row.alloc | apply Own.ne | apply Row.ne | apply Own.row) | (first | omega | (simp only [LN] at *; omega))); done)); (first | omega | (simp only [LN] at *; omega))) | ((with_reducible apply st_row); (focus ((repeat' first | (with_reducible first | assumption | apply Own.set | apply Own.new | apply Own.newD | apply Own.drew | apply Row.drew | apply Row.set | apply Row.new | apply Row.newD | apply Own.alloc | apply Row.alloc | apply Own.ne | apply Row.ne | apply Own.row) | (first | omega | (simp only [LN] at *; omega))); done)); (first | omega | (simp only [LN] at *; omega)); rfl) | ((with_reducible first | apply ints_at | apply le_andI | apply le_andN | apply ne_andI); (first | omega | (simp only [LN] at *; omega))) | (with_reducible refine ite_of (fun _ => ?_) (fun _ => ?_)))
  refine loop_of (σ := Nat × Nat × List Int) (fun t => [(0, .slice (some ⟨bk, 0, none⟩) n cap), (2, .int .i64 (m : Int)), (4, cf), (10, .int .i64 (t.1 : Int)), (11, .int .i64 (t.2.1 : Int))])
    (fun t w' => 1 ≤ t.1 ∧ t.1 ≤ m - a ∧ 1 ≤ t.2.1 ∧ t.2.1 ≤ b - m ∧ t.2.2.length = n ∧ t.2.2.Perm d ∧ (∀ k, k < n → roR t.2.2 (m - t.1) m (m + t.2.1) k = roR d a m b k) ∧ Own w' bk (t.2.2.map (Value.int .i64) ++ rest).toArray ∧ Fr (· = bk) w w')
    (fun t => t.1 + t.2.1) (m - a, b - m, d) ?_ ⟨by simp; omega, by simp, by simp; omega, by simp, hn, .refl _, fun k hk => ?_, hb, .refl _ _⟩ ?_
  · (first | rfl | (simp only [List.cons.injEq, Prod.mk.injEq, Value.int.injEq, Value.bool.injEq, true_and, and_true, List.cons_append, List.nil_append]; done) | (simp only [List.cons.injEq, Prod.mk.injEq, Value.int.injEq, Value.bool.injEq, true_and, and_true, List.cons_append, List.nil_append]; omega))
  · dsimp only
    have e1 : m - (m - a) = a := by omega
    have e2 : m + (b - m) = b := by omega
    rw [e1, e2]
  clear hb
  rintro ⟨i, j, z⟩ w' ⟨h1, h2, h3, h4, hz, hp, hg, hb, hf⟩
  dsimp only at *
  have c1 : (m : Int) - i = ((m - i : Nat) : Int) := by omega
  (repeat' first | (simp only [RA, MI, S.dst, Nat.reduceAdd, Nat.reduceMul, Nat.reduceEqDiff, ↓reduceIte, reduceCtorEq, ne_eq, Nat.reduceLT, Nat.reduceLeDiff, gt_iff_lt, ge_iff_le, Int.reduceToNat, Nat.reduceSub, c34, x34, true_and, ints_ext, ints_set]) | (first | ((with_reducible apply app_at); (first | omega | (simp only [LN] at *; omega))) | ((with_reducible apply app_st); (focus ((repeat' first | (with_reducible first | assumption | apply Own.set | apply Own.new | apply Own.newD | apply Own.drew | apply Row.drew | apply Row.set | apply Row.new | apply Row.newD | apply Own.alloc | apply Row.alloc | apply Own.ne | apply Row.ne | apply Own.row) | (first | omega | (simp only [LN] at *; omega))); done)); (first | omega | (simp only [LN] at *; omega)))) | ((with_reducible first | apply bound_of | apply wr_i64 | apply wr_u8 | apply wr_u64); (first | omega | (simp only [LN] at *; omega)); (first | omega | (simp only [LN] at *; omega))) | ((with_reducible apply ld_row); (focus ((repeat' first | (with_reducible first | assumption | apply Own.set | apply Own.new | apply Own.newD | apply Own.drew | apply Row.drew | apply Row.set | apply Row.new | apply Row.newD | apply Own.alloc | apply Row.alloc | apply Own.ne | apply Row.ne | apply Own.row) | (first | omega | (simp only [LN] at *; omega))); done))) | ((with_reducible apply ldN_row); (focus ((repeat' first | (with_reducible first | assumption | apply Own.set | apply Own.new | apply Own.newD | apply Own.drew | apply Row.drew | apply Row.set | apply Row.new | apply Row.newD | apply Own.alloc | apply Row.alloc | apply Own.ne | apply Row.ne | apply Own.row) | (first | omega | (simp only [LN] at *; omega))); done)); (first | omega | (simp only [LN] at *; omega))) | ((with_reducible apply st_row); (focus ((repeat' first | (with_reducible first | assumption | apply Own.set | apply Own.new | apply Own.newD | apply Own.drew | apply Row.drew | apply Row.set | apply Row.new | apply Row.newD | apply Own.alloc | apply Row.alloc | apply Own.ne | apply Row.ne | apply Own.row) | (first | omega | (simp only [LN] at *; omega))); done)); (first | omega | (simp only [LN] at *; omega)); rfl) | ((with_reducible first | apply ints_at | apply le_andI | apply le_andN | apply ne_andI); (first | omega | (simp only [LN] at *; omega))) | (with_reducible refine ite_of (fun _ => ?_) (fun _ => ?_)))
  · rename_i hne hlt
    rw [c1]
    refine calls_mono (swapRange_any cf w' bk n cap (m - i) m j z rest hz hn2 hb (by omega) (by omega)) ?_
    rintro _ w2 ⟨rfl, y, hb2, hy, hp2, hg2, hf2⟩
    (repeat' first | (simp only [RA, MI, S.dst, Nat.reduceAdd, Nat.reduceMul, Nat.reduceEqDiff, ↓reduceIte, reduceCtorEq, ne_eq, Nat.reduceLT, Nat.reduceLeDiff, gt_iff_lt, ge_iff_le, Int.reduceToNat, Nat.reduceSub, c34, x34, true_and, ints_ext, ints_set]) | (first | ((with_reducible apply app_at); (first | omega | (simp only [LN] at *; omega))) | ((with_reducible apply app_st); (focus ((repeat' first | (with_reducible first | assumption | apply Own.set | apply Own.new | apply Own.newD | apply Own.drew | apply Row.drew | apply Row.set | apply Row.new | apply Row.newD | apply Own.alloc | apply Row.alloc | apply Own.ne | apply Row.ne | apply Own.row) | (first | omega | (simp only [LN] at *; omega))); done)); (first | omega | (simp only [LN] at *; omega)))) | ((with_reducible first | apply bound_of | apply wr_i64 | apply wr_u8 | apply wr_u64); (first | omega | (simp only [LN] at *; omega)); (first | omega | (simp only [LN] at *; omega))) | ((with_reducible apply ld_row); (focus ((repeat' first | (with_reducible first | assumption | apply Own.set | apply Own.new | apply Own.newD | apply Own.drew | apply Row.drew | apply Row.set | apply Row.new | apply Row.newD | apply Own.alloc | apply Row.alloc | apply Own.ne | apply Row.ne | apply Own.row) | (first | omega | (simp only [LN] at *; omega))); done))) | ((with_reducible apply ldN_row); (focus ((repeat' first | (with_reducible first | assumption | apply Own.set | apply Own.new | apply Own.newD | apply Own.drew | apply Row.drew | apply Row.set | apply Row.new | apply Row.newD | apply Own.alloc | apply Row.alloc | apply Own.ne | apply Row.ne | apply Own.row) | (first | omega | (simp only [LN] at *; omega))); done)); (first | omega | (simp only [LN] at *; omega))) | ((with_reducible apply st_row); (focus ((repeat' first | (with_reducible first | assumption | apply Own.set | apply Own.new | apply Own.newD | apply Own.drew | apply Row.drew | apply Row.set | apply Row.new | apply Row.newD | apply Own.alloc | apply Row.alloc | apply Own.ne | apply Row.ne | apply Own.row) | (first | omega | (simp only [LN] at *; omega))); done)); (first | omega | (simp only [LN] at *; omega)); rfl) | ((with_reducible first | apply ints_at | apply le_andI | apply le_andN | apply ne_andI); (first | omega | (simp only [LN] at *; omega))) | (with_reducible refine ite_of (fun _ => ?_) (fun _ => ?_)))
    refine ⟨(i - j, j, y), ?_, ⟨by dsimp only; omega, by dsimp only; omega, h3, h4, hy, hp2.trans hp, fun k hk => ?_, hb2, hf.trans hf2⟩, by dsimp only; omega⟩
    · (first | rfl | (simp only [List.cons.injEq, Prod.mk.injEq, Value.int.injEq, Value.bool.injEq, true_and, and_true, List.cons_append, List.nil_append]; done) | (simp only [List.cons.injEq, Prod.mk.injEq, Value.int.injEq, Value.bool.injEq, true_and, and_true, List.cons_append, List.nil_append]; omega))
    · dsimp only
      rw [roR_left (by omega) (by omega) (by omega) hg2 k hk]; exact hg k hk
  · rename_i hne hlt
    rw [c1]
    have c2 : (m : Int) + j - i = ((m + j - i : Nat) : Int) := by omega
    rw [c2]
    refine calls_mono (swapRange_any cf w' bk n cap (m - i) (m + j - i) i z rest hz hn2 hb (by omega) (by omega)) ?_
    rintro _ w2 ⟨rfl, y, hb2, hy, hp2, hg2, hf2⟩
    (repeat' first | (simp only [RA, MI, S.dst, Nat.reduceAdd, Nat.reduceMul, Nat.reduceEqDiff, ↓reduceIte, reduceCtorEq, ne_eq, Nat.reduceLT, Nat.reduceLeDiff, gt_iff_lt, ge_iff_le, Int.reduceToNat, Nat.reduceSub, c34, x34, true_and, ints_ext, ints_set]) | (first | ((with_reducible apply app_at); (first | omega | (simp only [LN] at *; omega))) | ((with_reducible apply app_st); (focus ((repeat' first | (with_reducible first | assumption | apply Own.set | apply Own.new | apply Own.newD | apply Own.drew | apply Row.drew | apply Row.set | apply Row.new | apply Row.newD | apply Own.alloc | apply Row.alloc | apply Own.ne | apply Row.ne | apply Own.row) | (first | omega | (simp only [LN] at *; omega))); done)); (first | omega | (simp only [LN] at *; omega)))) | ((with_reducible first | apply bound_of | apply wr_i64 | apply wr_u8 | apply wr_u64); (first | omega | (simp only [LN] at *; omega)); (first | omega | (simp only [LN] at *; omega))) | ((with_reducible apply ld_row); (focus ((repeat' first | (with_reducible first | assumption | apply Own.set | apply Own.new | apply Own.newD | apply Own.drew | apply Row.drew | apply Row.set | apply Row.new | apply Row.newD | apply Own.alloc | apply Row.alloc | apply Own.ne | apply Row.ne | apply Own.row) | (first | omega | (simp only [LN] at *; omega))); done))) | ((with_reducible apply ldN_row); (focus ((repeat' first | (with_reducible first | assumption | apply Own.set | apply Own.new | apply Own.newD | apply Own.drew | apply Row.drew | apply Row.set | apply Row.new | apply Row.newD | apply Own.alloc | apply Row.alloc | apply Own.ne | apply Row.ne | apply Own.row) | (first | omega | (simp only [LN] at *; omega))); done)); (first | omega | (simp only [LN] at *; omega))) | ((with_reducible apply st_row); (focus ((repeat' first | (with_reducible first | assumption | apply Own.set | apply Own.new | apply Own.newD | apply Own.drew | apply Row.drew | apply Row.set | apply Row.new | apply Row.newD | apply Own.alloc | apply Row.alloc | apply Own.ne | apply Row.ne | apply Own.row) | (first | omega | (simp only [LN] at *; omega))); done)); (first | omega | (simp only [LN] at *; omega)); rfl) | ((with_reducible first | apply ints_at | apply le_andI | apply le_andN | apply ne_andI); (first | omega | (simp only [LN] at *; omega))) | (with_reducible refine ite_of (fun _ => ?_) (fun _ => ?_)))
    refine ⟨(i, j - i, y), ?_, ⟨h1, h2, by dsimp only; omega, by dsimp only; omega, hy, hp2.trans hp, fun k hk => ?_, hb2, hf.trans hf2⟩, by dsimp only; omega⟩
    · (first | rfl | (simp only [List.cons.injEq, Prod.mk.injEq, Value.int.injEq, Value.bool.injEq, true_and, and_true, List.cons_append, List.nil_append]; done) | (simp only [List.cons.injEq, Prod.mk.injEq, Value.int.injEq, Value.bool.injEq, true_and, and_true, List.cons_append, List.nil_append]; omega))
    · dsimp only
      rw [roR_right (by omega) (by omega) (by omega) hg2 k hk]; exact hg k hk
  · rename_i hne
    obtain rfl : i = j := by omega
    rw [c1]
    refine calls_mono (swapRange_any cf w' bk n cap (m - i) m i z rest hz hn2 hb (by omega) (by omega)) ?_
    rintro _ w2 ⟨rfl, y, hb2, hy, hp2, hg2, hf2⟩
    (repeat' first | (simp only [RA, MI, S.dst, Nat.reduceAdd, Nat.reduceMul, Nat.reduceEqDiff, ↓reduceIte, reduceCtorEq, ne_eq, Nat.reduceLT, Nat.reduceLeDiff, gt_iff_lt, ge_iff_le, Int.reduceToNat, Nat.reduceSub, c34, x34, true_and, ints_ext, ints_set]) | (first | ((with_reducible apply app_at); (first | omega | (simp only [LN] at *; omega))) | ((with_reducible apply app_st); (focus ((repeat' first | (with_reducible first | assumption | apply Own.set | apply Own.new | apply Own.newD | apply Own.drew | apply Row.drew | apply Row.set | apply Row.new | apply Row.newD | apply Own.alloc | apply Row.alloc | apply Own.ne | apply Row.ne | apply Own.row) | (first | omega | (simp only [LN] at *; omega))); done)); (first | omega | (simp only [LN] at *; omega)))) | ((with_reducible first | apply bound_of | apply wr_i64 | apply wr_u8 | apply wr_u64); (first | omega | (simp only [LN] at *; omega)); (first | omega | (simp only [LN] at *; omega))) | ((with_reducible apply ld_row); (focus ((repeat' first | (with_reducible first | assumption | apply Own.set | apply Own.new | apply Own.newD | apply Own.drew | apply Row.drew | apply Row.set | apply Row.new | apply Row.newD | apply Own.alloc | apply Row.alloc | apply Own.ne | apply Row.ne | apply Own.row) | (first | omega | (simp only [LN] at *; omega))); done))) | ((with_reducible apply ldN_row); (focus ((repeat' first | (with_reducible first | assumption | apply Own.set | apply Own.new | apply Own.newD | apply Own.drew | apply Row.drew | apply Row.set | apply Row.new | apply Row.newD | apply Own.alloc | apply Row.alloc | apply Own.ne | apply Row.ne | apply Own.row) | (first | omega | (simp only [LN] at *; omega))); done)); (first | omega | (simp only [LN] at *; omega))) | ((with_reducible apply st_row); (focus ((repeat' first | (with_reducible first | assumption | apply Own.set | apply Own.new | apply Own.newD | apply Own.drew | apply Row.drew | apply Row.set | apply Row.new | apply Row.newD | apply Own.alloc | apply Row.alloc | apply Own.ne | apply Row.ne | apply Own.row) | (first | omega | (simp only [LN] at *; omega))); done)); (first | omega | (simp only [LN] at *; omega)); rfl) | ((with_reducible first | apply ints_at | apply le_andI | apply le_andN | apply ne_andI); (first | omega | (simp only [LN] at *; omega))) | (with_reducible refine ite_of (fun _ => ?_) (fun _ => ?_)))
    refine ⟨y, hb2, hy, hp2.trans hp, fun k hk => ?_, hf.trans hf2⟩
    rw [roR_last (by omega) (by omega) hg2 k hk]; exact hg k hk
end Go.Proofs.Ytomckpllbihikaa
