/-
  The document's cleanness; numbers behind blanks: walked. Conditions: none.
-/
import Derived.Test.YtgibicifflfpfaaDoorE12
set_option autoImplicit false
set_option linter.unusedSimpArgs false
set_option linter.unusedVariables false
namespace Go.Proofs.YtgibicifflfpfaaDoor
open X
set_option maxRecDepth 10000
set_option maxHeartbeats 1000000

theorem leafB {b : Bool} {P : Prop} [Decidable P] (h : b = true ↔ P) : Ending.returned (.bool b) = .returned (.bool (decide P)) := by
  have : b = decide P := by rw [Bool.eq_iff_iff, h, decide_eq_true_eq]
  rw [this]
theorem clean_iff (e : Ed) (hall : rng e.a ∧ rng e.b ∧ rng e.c ∧ rng e.d) : cleanP e ↔ (e.kind = 0 ∧ e.a ≤ 7 ∧ e.b = 0 ∧ e.c = 0 ∧ e.d = 0 ∧ e.body = []) ∨ ((e.kind = 1 ∨ e.kind = 2) ∧ e.body = []) ∨
    (e.kind = 3 ∧ e.b ≤ 255 ∧ e.c = 0 ∧ e.d = 0) ∨ (e.kind = 4 ∧ e.b = 0 ∧ e.c = 0 ∧ e.d = 0 ∧ e.body = []) ∨ (e.kind = 5 ∧ e.a = 0 ∧ e.b = 0 ∧ e.c = 0 ∧ e.d = 0) := by
  unfold cleanP
  obtain ⟨k, a, b, c, d, t⟩ := e
  simp only [hall, true_and]
  have hk : k = 0 ∨ k = 1 ∨ k = 2 ∨ k = 3 ∨ k = 4 ∨ k = 5 ∨ ¬ (k = 0 ∨ k = 1 ∨ k = 2 ∨ k = 3 ∨ k = 4 ∨ k = 5) := by omega
  have hB : t = [] ∨ (¬ t = [] ∧ ¬ [] = t) := by
    by_cases h : t = []
    · exact .inl h
    · exact .inr ⟨h, fun h2 => h h2.symm⟩
  rcases hk with rfl | rfl | rfl | rfl | rfl | rfl | hk
  case inr.inr.inr.inr.inr.inr =>
    unfold kindOk
    simp only
    constructor
    · intro h; exact absurd h.1.1 hk
    · intro h; omega
  all_goals
    rcases hB with rfl | ⟨h1, h2⟩
    all_goals
      unfold kindOk sameEd edOf
      simp only [Int.reduceEq, ↓reduceIte, *]
      simp only [true_or, or_true, true_and, and_true, false_and, and_false, or_false, false_or, reduceCtorEq, true_implies, false_implies, and_self, iff_self]
      try omega
theorem refClean_any (w : World) (e : Ed) (ok : EdOk e) : Calls Tryd.prog 10 [.agg (edC e)].toArray w fun r w' => r = .returned (.bool (decide (cleanP e))) ∧ Fr no w w' := by
  refine enter10 (by simp) ?_
  unfold edC
  (repeat' first | (simp only [RA, MI, S.dst, Nat.reduceAdd, Nat.reduceMul, Nat.reduceEqDiff, ↓reduceIte, reduceCtorEq, ne_eq, Nat.reduceLT, Nat.reduceLeDiff, gt_iff_lt, ge_iff_le, Int.reduceToNat, Nat.reduceSub, Int.reduceEq, Int.reduceLT, Int.reduceLE, not_true_eq_false, c10, x10.down, btE, tup_10, List.take_length, ba_nil, ba_size, ba_list, ba_ext, ba_add, true_and, at_z, at_s, putc1, putc4, List.setIfInBounds_toArray, List.set_cons_zero, List.set_cons_succ, List.size_toArray, List.length_cons, List.length_nil, List.toList_toArray, zI4]) | ((with_reducible first | apply ld_r | apply ldN_a | apply ldN_r | apply st_r | apply stN_a); (exact X.rws)) | ((with_reducible first | apply bound_of | apply wr_i64 | apply wr_u8 | apply wr_u64 | apply wr_i32 | apply wr_i16 | apply wr_u32 | apply wr_u16); (exact X.om); (exact X.om)) | ((with_reducible first | apply ints_at | apply le_andI | apply le_andN | apply ne_andI); (exact X.om)) | ((with_reducible first | apply same_and | apply same_andW); (exact X.olz)) | (with_reducible refine ite_of (fun _ => ?_) (fun _ => ?_)))
  rw [show (#[Value.int IntKind.i64 e.a, .int .i64 e.b, .int .i64 e.c, .int .i64 e.d] : Array Value) = ints .i64 [e.a, e.b, e.c, e.d] from rfl]
  have hA : Row (w.alloc (Obj.cells #[.int .i64 e.kind, .int .i64 e.a, .int .i64 e.b, .int .i64 e.c, .int .i64 e.d, .string (ba e.body)] 23)) w.heap.size #[.int .i64 e.kind, .int .i64 e.a, .int .i64 e.b, .int .i64 e.c, .int .i64 e.d, .string (ba e.body)] := Row.new _ _ _
  have hF : Fr X.no w (w.alloc (Obj.cells #[.int .i64 e.kind, .int .i64 e.a, .int .i64 e.b, .int .i64 e.c, .int .i64 e.d, .string (ba e.body)] 23)) := by (exact X.frz)
  generalize World.alloc w _ = w1 at *
  have hz := hF.size
  refine loop_of (σ := Nat) (fun i => [(1, .pointer (some ⟨w.heap.size, 0, none⟩)), (3, .slice (some ⟨w1.heap.size, 0, none⟩) 4 4), (4, .int .i64 i)])
    (fun i w' => i ≤ 4 ∧ Row w' w1.heap.size (ints .i64 [e.a, e.b, e.c, e.d]) ∧ Row w' w.heap.size #[.int .i64 e.kind, .int .i64 e.a, .int .i64 e.b, .int .i64 e.c, .int .i64 e.d, .string (ba e.body)] ∧ Fr no w w' ∧ ∀ k, k < i → rng (g [e.a, e.b, e.c, e.d] k)) (fun i => 4 - i) 0 rfl ⟨by omega, by (exact X.rws), by (exact X.rws), by (exact X.frz), fun k hk => by omega⟩ ?_
  rintro i w4 ⟨hi, hR, hA, hF4, hr⟩
  (repeat' first | (simp only [RA, MI, S.dst, Nat.reduceAdd, Nat.reduceMul, Nat.reduceEqDiff, ↓reduceIte, reduceCtorEq, ne_eq, Nat.reduceLT, Nat.reduceLeDiff, gt_iff_lt, ge_iff_le, Int.reduceToNat, Nat.reduceSub, Int.reduceEq, Int.reduceLT, Int.reduceLE, not_true_eq_false, c10, x10.down, btE, tup_10, List.take_length, ba_nil, ba_size, ba_list, ba_ext, ba_add, true_and, at_z, at_s, putc1, putc4, List.setIfInBounds_toArray, List.set_cons_zero, List.set_cons_succ, List.size_toArray, List.length_cons, List.length_nil, List.toList_toArray, zI4]) | ((with_reducible first | apply ld_r | apply ldN_a | apply ldN_r | apply st_r | apply stN_a); (exact X.rws)) | ((with_reducible first | apply bound_of | apply wr_i64 | apply wr_u8 | apply wr_u64 | apply wr_i32 | apply wr_i16 | apply wr_u32 | apply wr_u16); (exact X.om); (exact X.om)) | ((with_reducible first | apply ints_at | apply le_andI | apply le_andN | apply ne_andI); (exact X.om)) | ((with_reducible first | apply same_and | apply same_andW); (exact X.olz)) | (with_reducible refine ite_of (fun _ => ?_) (fun _ => ?_)))
  · refine X.ints_at (l := [e.a, e.b, e.c, e.d]) (show i < 4 by omega) ?_
    (repeat' first | (simp only [RA, MI, S.dst, Nat.reduceAdd, Nat.reduceMul, Nat.reduceEqDiff, ↓reduceIte, reduceCtorEq, ne_eq, Nat.reduceLT, Nat.reduceLeDiff, gt_iff_lt, ge_iff_le, Int.reduceToNat, Nat.reduceSub, Int.reduceEq, Int.reduceLT, Int.reduceLE, not_true_eq_false, c10, x10.down, btE, tup_10, List.take_length, ba_nil, ba_size, ba_list, ba_ext, ba_add, true_and, at_z, at_s, putc1, putc4, List.setIfInBounds_toArray, List.set_cons_zero, List.set_cons_succ, List.size_toArray, List.length_cons, List.length_nil, List.toList_toArray, zI4]) | ((with_reducible first | apply ld_r | apply ldN_a | apply ldN_r | apply st_r | apply stN_a); (exact X.rws)) | ((with_reducible first | apply bound_of | apply wr_i64 | apply wr_u8 | apply wr_u64 | apply wr_i32 | apply wr_i16 | apply wr_u32 | apply wr_u16); (exact X.om); (exact X.om)) | ((with_reducible first | apply ints_at | apply le_andI | apply le_andN | apply ne_andI); (exact X.om)) | ((with_reducible first | apply same_and | apply same_andW); (exact X.olz)) | (with_reducible refine ite_of (fun _ => ?_) (fun _ => ?_)))
    · refine X.ints_at (l := [e.a, e.b, e.c, e.d]) (show i < 4 by omega) ?_
      (repeat' first | (simp only [RA, MI, S.dst, Nat.reduceAdd, Nat.reduceMul, Nat.reduceEqDiff, ↓reduceIte, reduceCtorEq, ne_eq, Nat.reduceLT, Nat.reduceLeDiff, gt_iff_lt, ge_iff_le, Int.reduceToNat, Nat.reduceSub, Int.reduceEq, Int.reduceLT, Int.reduceLE, not_true_eq_false, c10, x10.down, btE, tup_10, List.take_length, ba_nil, ba_size, ba_list, ba_ext, ba_add, true_and, at_z, at_s, putc1, putc4, List.setIfInBounds_toArray, List.set_cons_zero, List.set_cons_succ, List.size_toArray, List.length_cons, List.length_nil, List.toList_toArray, zI4]) | ((with_reducible first | apply ld_r | apply ldN_a | apply ldN_r | apply st_r | apply stN_a); (exact X.rws)) | ((with_reducible first | apply bound_of | apply wr_i64 | apply wr_u8 | apply wr_u64 | apply wr_i32 | apply wr_i16 | apply wr_u32 | apply wr_u16); (exact X.om); (exact X.om)) | ((with_reducible first | apply ints_at | apply le_andI | apply le_andN | apply ne_andI); (exact X.om)) | ((with_reducible first | apply same_and | apply same_andW); (exact X.olz)) | (with_reducible refine ite_of (fun _ => ?_) (fun _ => ?_)))
      · refine ⟨?_, hF4⟩
        rw [decide_eq_false (fun h => ?_)]
        have := (rngs e).1 h.2.1 i (by omega)
        unfold rng at this; omega
      · refine ⟨i + 1, by (exact X.envz), ⟨by omega, hR, hA, hF4, fun k hk => ?_⟩, by omega⟩
        rcases Nat.lt_or_ge k i with h | h
        · exact hr k h
        · obtain rfl : k = i := by omega
          exact ⟨by omega, by omega⟩
    · refine ⟨?_, hF4⟩
      rw [decide_eq_false (fun h => ?_)]
      have := (rngs e).1 h.2.1 i (by omega)
      unfold rng at this; omega
  all_goals
    obtain rfl : i = 4 := by omega
    have hall := (rngs e).2 hr
    refine ⟨leafB (Iff.trans ?_ (clean_iff e hall).symm), hF4⟩
    simp only [ba_eq, decide_eq_true_eq, Bool.false_eq_true]
    by_cases hB : e.body = []
    all_goals
      simp only [hB, and_true, and_false, true_iff, false_iff, true_and, false_and, or_false, false_or]
      omega
end Go.Proofs.YtgibicifflfpfaaDoor
