/-
  An edit's kind, its operation, its cleanness: walked. Conditions: none.
-/
import Derived.Test.YtgibicifflfpfaaDoorE4
set_option autoImplicit false
set_option linter.unusedSimpArgs false
set_option linter.unusedVariables false
namespace Go.Proofs.YtgibicifflfpfaaDoor
open X
set_option maxRecDepth 10000
set_option maxHeartbeats 1000000

def edC (e : Ed) : Array Value := #[.int .i64 e.kind, .int .i64 e.a, .int .i64 e.b, .int .i64 e.c, .int .i64 e.d, .string (ba e.body)]
theorem zEd : zcells Tryd.prog 23 = #[.int .i64 0, .int .i64 0, .int .i64 0, .int .i64 0, .int .i64 0, .string (ba [])] := by kernel_rfl
theorem zTurn : zcells Tryd.prog 36 = #[.int .i64 0] := by kernel_rfl
theorem zDrop : zcells Tryd.prog 45 = #[.int .i64 0] := by kernel_rfl
theorem zNote : zcells Tryd.prog 47 = #[.string (ba [])] := by kernel_rfl
theorem zPut : zcells Tryd.prog 43 = #[.int .i64 0, .int .i64 0, .string (ba [])] := by kernel_rfl
theorem zCrop : zcells Tryd.prog 40 = #[.int .i64 0, .int .i64 0, .int .i64 0, .int .i64 0] := by kernel_rfl
theorem zRedact : zcells Tryd.prog 41 = #[.int .i64 0, .int .i64 0, .int .i64 0, .int .i64 0] := by kernel_rfl
theorem zRect : zcells Tryd.prog 38 = #[.int .i64 0, .int .i64 0, .int .i64 0, .int .i64 0] := by kernel_rfl
/-- The operation of an edit's kind. -/
def opV (e : Ed) : Value :=
  if e.kind = 0 then .iface 36 (.agg #[.int .i64 e.a])
  else if e.kind = 1 then .iface 40 (.agg #[.int .i64 e.a, .int .i64 e.b, .int .i64 e.c, .int .i64 e.d])
  else if e.kind = 2 then .iface 41 (.agg #[.int .i64 e.a, .int .i64 e.b, .int .i64 e.c, .int .i64 e.d])
  else if e.kind = 3 then .iface 43 (.agg #[.int .i64 e.a, .int .i64 e.b, .string (ba e.body)])
  else if e.kind = 4 then .iface 45 (.agg #[.int .i64 e.a])
  else if e.kind = 5 then .iface 47 (.agg #[.string (ba e.body)])
  else .nilIface
theorem op_any (w : World) (e : Ed) : Calls Tryd.prog 16 [.agg (edC e)].toArray w fun r w' => r = .returned (opV e) ∧ Fr no w w' := by
  refine enter16 (by simp) ?_
  unfold edC
  (repeat' first | (simp only [RA, MI, S.dst, Nat.reduceAdd, Nat.reduceMul, Nat.reduceEqDiff, ↓reduceIte, reduceCtorEq, ne_eq, Nat.reduceLT, Nat.reduceLeDiff, gt_iff_lt, ge_iff_le, Int.reduceToNat, Nat.reduceSub, Int.reduceEq, Int.reduceLT, Int.reduceLE, not_true_eq_false, c16, x16.down, btE, tup_10, List.take_length, ba_nil, ba_size, ba_list, ba_ext, ba_add, true_and, at_z, at_s, putc1, putc4, List.setIfInBounds_toArray, List.set_cons_zero, List.set_cons_succ, List.size_toArray, List.length_cons, List.length_nil, List.toList_toArray, zEd, zTurn, zDrop, zNote, zPut, zCrop, zRedact, zRect]) | ((with_reducible first | apply ld_r | apply ldN_a | apply ldN_r | apply st_r | apply stN_a); (exact X.rws)) | ((with_reducible first | apply bound_of | apply wr_i64 | apply wr_u8 | apply wr_u64 | apply wr_i32 | apply wr_i16 | apply wr_u32 | apply wr_u16); (exact X.om); (exact X.om)) | ((with_reducible first | apply ints_at | apply le_andI | apply le_andN | apply ne_andI); (exact X.om)) | ((with_reducible first | apply same_and | apply same_andW); (exact X.olz)) | (with_reducible refine ite_of (fun _ => ?_) (fun _ => ?_)))
  all_goals
    refine ⟨?_, by (exact X.frz)⟩
    simp [opV, *]

set_option maxRecDepth 10000
set_option maxHeartbeats 1000000

theorem boxed_any (w : World) (k a b c d : Int) : Calls Tryd.prog 79 [.int .i64 k, .agg #[.int .i64 a, .int .i64 b, .int .i64 c, .int .i64 d]].toArray w fun r w' => r = .returned (.agg (edC ⟨k, a, b, c, d, []⟩)) ∧ Fr no w w' := by
  refine enter79 (by simp) ?_
  (repeat' first | (simp only [RA, MI, S.dst, Nat.reduceAdd, Nat.reduceMul, Nat.reduceEqDiff, ↓reduceIte, reduceCtorEq, ne_eq, Nat.reduceLT, Nat.reduceLeDiff, gt_iff_lt, ge_iff_le, Int.reduceToNat, Nat.reduceSub, Int.reduceEq, Int.reduceLT, Int.reduceLE, not_true_eq_false, c79, x79.down, btE, tup_10, List.take_length, ba_nil, ba_size, ba_list, ba_ext, ba_add, true_and, at_z, at_s, putc1, putc4, List.setIfInBounds_toArray, List.set_cons_zero, List.set_cons_succ, List.size_toArray, List.length_cons, List.length_nil, List.toList_toArray, zEd, zTurn, zDrop, zNote, zPut, zCrop, zRedact, zRect]) | ((with_reducible first | apply ld_r | apply ldN_a | apply ldN_r | apply st_r | apply stN_a); (exact X.rws)) | ((with_reducible first | apply bound_of | apply wr_i64 | apply wr_u8 | apply wr_u64 | apply wr_i32 | apply wr_i16 | apply wr_u32 | apply wr_u16); (exact X.om); (exact X.om)) | ((with_reducible first | apply ints_at | apply le_andI | apply le_andN | apply ne_andI); (exact X.om)) | ((with_reducible first | apply same_and | apply same_andW); (exact X.olz)) | (with_reducible refine ite_of (fun _ => ?_) (fun _ => ?_)))
  all_goals
    refine ⟨?_, by (exact X.frz)⟩
    simp [edC]
theorem editTurn_any (w : World) (a : Int) : Calls Tryd.prog 76 [.agg #[.int .i64 a]].toArray w fun r w' => r = .returned (.agg (edC ⟨0, a, 0, 0, 0, []⟩)) ∧ Fr no w w' := by
  refine enter76 (by simp) ?_
  (repeat' first | (simp only [RA, MI, S.dst, Nat.reduceAdd, Nat.reduceMul, Nat.reduceEqDiff, ↓reduceIte, reduceCtorEq, ne_eq, Nat.reduceLT, Nat.reduceLeDiff, gt_iff_lt, ge_iff_le, Int.reduceToNat, Nat.reduceSub, Int.reduceEq, Int.reduceLT, Int.reduceLE, not_true_eq_false, c76, x76.down, btE, tup_10, List.take_length, ba_nil, ba_size, ba_list, ba_ext, ba_add, true_and, at_z, at_s, putc1, putc4, List.setIfInBounds_toArray, List.set_cons_zero, List.set_cons_succ, List.size_toArray, List.length_cons, List.length_nil, List.toList_toArray, zEd, zTurn, zDrop, zNote, zPut, zCrop, zRedact, zRect]) | ((with_reducible first | apply ld_r | apply ldN_a | apply ldN_r | apply st_r | apply stN_a); (exact X.rws)) | ((with_reducible first | apply bound_of | apply wr_i64 | apply wr_u8 | apply wr_u64 | apply wr_i32 | apply wr_i16 | apply wr_u32 | apply wr_u16); (exact X.om); (exact X.om)) | ((with_reducible first | apply ints_at | apply le_andI | apply le_andN | apply ne_andI); (exact X.om)) | ((with_reducible first | apply same_and | apply same_andW); (exact X.olz)) | (with_reducible refine ite_of (fun _ => ?_) (fun _ => ?_)))
  all_goals
    refine ⟨?_, by (exact X.frz)⟩
    simp [edC]
theorem editPut_any (w : World) (a b : Int) (l : List UInt8) : Calls Tryd.prog 83 [.agg #[.int .i64 a, .int .i64 b, .string (ba l)]].toArray w fun r w' => r = .returned (.agg (edC ⟨3, a, b, 0, 0, l⟩)) ∧ Fr no w w' := by
  refine enter83 (by simp) ?_
  (repeat' first | (simp only [RA, MI, S.dst, Nat.reduceAdd, Nat.reduceMul, Nat.reduceEqDiff, ↓reduceIte, reduceCtorEq, ne_eq, Nat.reduceLT, Nat.reduceLeDiff, gt_iff_lt, ge_iff_le, Int.reduceToNat, Nat.reduceSub, Int.reduceEq, Int.reduceLT, Int.reduceLE, not_true_eq_false, c83, x83.down, btE, tup_10, List.take_length, ba_nil, ba_size, ba_list, ba_ext, ba_add, true_and, at_z, at_s, putc1, putc4, List.setIfInBounds_toArray, List.set_cons_zero, List.set_cons_succ, List.size_toArray, List.length_cons, List.length_nil, List.toList_toArray, zEd, zTurn, zDrop, zNote, zPut, zCrop, zRedact, zRect]) | ((with_reducible first | apply ld_r | apply ldN_a | apply ldN_r | apply st_r | apply stN_a); (exact X.rws)) | ((with_reducible first | apply bound_of | apply wr_i64 | apply wr_u8 | apply wr_u64 | apply wr_i32 | apply wr_i16 | apply wr_u32 | apply wr_u16); (exact X.om); (exact X.om)) | ((with_reducible first | apply ints_at | apply le_andI | apply le_andN | apply ne_andI); (exact X.om)) | ((with_reducible first | apply same_and | apply same_andW); (exact X.olz)) | (with_reducible refine ite_of (fun _ => ?_) (fun _ => ?_)))
  all_goals
    refine ⟨?_, by (exact X.frz)⟩
    simp [edC]
theorem editDrop_any (w : World) (a : Int) : Calls Tryd.prog 85 [.agg #[.int .i64 a]].toArray w fun r w' => r = .returned (.agg (edC ⟨4, a, 0, 0, 0, []⟩)) ∧ Fr no w w' := by
  refine enter85 (by simp) ?_
  (repeat' first | (simp only [RA, MI, S.dst, Nat.reduceAdd, Nat.reduceMul, Nat.reduceEqDiff, ↓reduceIte, reduceCtorEq, ne_eq, Nat.reduceLT, Nat.reduceLeDiff, gt_iff_lt, ge_iff_le, Int.reduceToNat, Nat.reduceSub, Int.reduceEq, Int.reduceLT, Int.reduceLE, not_true_eq_false, c85, x85.down, btE, tup_10, List.take_length, ba_nil, ba_size, ba_list, ba_ext, ba_add, true_and, at_z, at_s, putc1, putc4, List.setIfInBounds_toArray, List.set_cons_zero, List.set_cons_succ, List.size_toArray, List.length_cons, List.length_nil, List.toList_toArray, zEd, zTurn, zDrop, zNote, zPut, zCrop, zRedact, zRect]) | ((with_reducible first | apply ld_r | apply ldN_a | apply ldN_r | apply st_r | apply stN_a); (exact X.rws)) | ((with_reducible first | apply bound_of | apply wr_i64 | apply wr_u8 | apply wr_u64 | apply wr_i32 | apply wr_i16 | apply wr_u32 | apply wr_u16); (exact X.om); (exact X.om)) | ((with_reducible first | apply ints_at | apply le_andI | apply le_andN | apply ne_andI); (exact X.om)) | ((with_reducible first | apply same_and | apply same_andW); (exact X.olz)) | (with_reducible refine ite_of (fun _ => ?_) (fun _ => ?_)))
  all_goals
    refine ⟨?_, by (exact X.frz)⟩
    simp [edC]
theorem editNote_any (w : World) (l : List UInt8) : Calls Tryd.prog 87 [.agg #[.string (ba l)]].toArray w fun r w' => r = .returned (.agg (edC ⟨5, 0, 0, 0, 0, l⟩)) ∧ Fr no w w' := by
  refine enter87 (by simp) ?_
  (repeat' first | (simp only [RA, MI, S.dst, Nat.reduceAdd, Nat.reduceMul, Nat.reduceEqDiff, ↓reduceIte, reduceCtorEq, ne_eq, Nat.reduceLT, Nat.reduceLeDiff, gt_iff_lt, ge_iff_le, Int.reduceToNat, Nat.reduceSub, Int.reduceEq, Int.reduceLT, Int.reduceLE, not_true_eq_false, c87, x87.down, btE, tup_10, List.take_length, ba_nil, ba_size, ba_list, ba_ext, ba_add, true_and, at_z, at_s, putc1, putc4, List.setIfInBounds_toArray, List.set_cons_zero, List.set_cons_succ, List.size_toArray, List.length_cons, List.length_nil, List.toList_toArray, zEd, zTurn, zDrop, zNote, zPut, zCrop, zRedact, zRect]) | ((with_reducible first | apply ld_r | apply ldN_a | apply ldN_r | apply st_r | apply stN_a); (exact X.rws)) | ((with_reducible first | apply bound_of | apply wr_i64 | apply wr_u8 | apply wr_u64 | apply wr_i32 | apply wr_i16 | apply wr_u32 | apply wr_u16); (exact X.om); (exact X.om)) | ((with_reducible first | apply ints_at | apply le_andI | apply le_andN | apply ne_andI); (exact X.om)) | ((with_reducible first | apply same_and | apply same_andW); (exact X.olz)) | (with_reducible refine ite_of (fun _ => ?_) (fun _ => ?_)))
  all_goals
    refine ⟨?_, by (exact X.frz)⟩
    simp [edC]
theorem editCrop_any (w : World) (a b c d : Int) : Calls Tryd.prog 78 [.agg #[.int .i64 a, .int .i64 b, .int .i64 c, .int .i64 d]].toArray w fun r w' => r = .returned (.agg (edC ⟨1, a, b, c, d, []⟩)) ∧ Fr no w w' := by
  refine enter78 (by simp) ?_
  (repeat' first | (simp only [RA, MI, S.dst, Nat.reduceAdd, Nat.reduceMul, Nat.reduceEqDiff, ↓reduceIte, reduceCtorEq, ne_eq, Nat.reduceLT, Nat.reduceLeDiff, gt_iff_lt, ge_iff_le, Int.reduceToNat, Nat.reduceSub, Int.reduceEq, Int.reduceLT, Int.reduceLE, not_true_eq_false, c78, x78.down, btE, tup_10, List.take_length, ba_nil, ba_size, ba_list, ba_ext, ba_add, true_and, at_z, at_s, putc1, putc4, List.setIfInBounds_toArray, List.set_cons_zero, List.set_cons_succ, List.size_toArray, List.length_cons, List.length_nil, List.toList_toArray, zEd, zTurn, zDrop, zNote, zPut, zCrop, zRedact, zRect]) | ((with_reducible first | apply ld_r | apply ldN_a | apply ldN_r | apply st_r | apply stN_a); (exact X.rws)) | ((with_reducible first | apply bound_of | apply wr_i64 | apply wr_u8 | apply wr_u64 | apply wr_i32 | apply wr_i16 | apply wr_u32 | apply wr_u16); (exact X.om); (exact X.om)) | ((with_reducible first | apply ints_at | apply le_andI | apply le_andN | apply ne_andI); (exact X.om)) | ((with_reducible first | apply same_and | apply same_andW); (exact X.olz)) | (with_reducible refine ite_of (fun _ => ?_) (fun _ => ?_)))
  generalize hw : World.alloc _ _ = w2
  have hR : Own w2 (w.heap.size + 1) (edC ⟨0, 0, 0, 0, 0, []⟩) := by rw [← hw]; unfold edC; (exact X.rws)
  have hF : Fr X.no w w2 := by rw [← hw]; (exact X.frz)
  clear hw
  refine calls_mono (boxed_any w2 _ a b c d) ?_
  rintro _ w3 ⟨rfl, hf3⟩
  replace hR := hR.fr hf3 (fun h => h)
  replace hF := hF.and hf3
  have hO : Ones (edC ⟨1, a, b, c, d, []⟩).toList := by unfold edC; exact .cons rfl (.cons rfl (.cons rfl (.cons rfl (.cons rfl (.cons rfl .nil)))))
  simp only [sz_alloc]
  unfold edC at hR hO ⊢
  (repeat' first | (simp only [RA, MI, S.dst, Nat.reduceAdd, Nat.reduceMul, Nat.reduceEqDiff, ↓reduceIte, reduceCtorEq, ne_eq, Nat.reduceLT, Nat.reduceLeDiff, gt_iff_lt, ge_iff_le, Int.reduceToNat, Nat.reduceSub, Int.reduceEq, Int.reduceLT, Int.reduceLE, not_true_eq_false, c78, x78.down, btE, tup_10, List.take_length, ba_nil, ba_size, ba_list, ba_ext, ba_add, true_and, at_z, at_s, putc1, putc4, List.setIfInBounds_toArray, List.set_cons_zero, List.set_cons_succ, List.size_toArray, List.length_cons, List.length_nil, List.toList_toArray, zEd, zTurn, zDrop, zNote, zPut, zCrop, zRedact, zRect]) | ((with_reducible first | apply ld_r | apply ldN_a | apply ldN_r | apply st_r | apply stN_a); (exact X.rws)) | ((with_reducible first | apply bound_of | apply wr_i64 | apply wr_u8 | apply wr_u64 | apply wr_i32 | apply wr_i16 | apply wr_u32 | apply wr_u16); (exact X.om); (exact X.om)) | ((with_reducible first | apply ints_at | apply le_andI | apply le_andN | apply ne_andI); (exact X.om)) | ((with_reducible first | apply same_and | apply same_andW); (exact X.olz)) | (with_reducible refine ite_of (fun _ => ?_) (fun _ => ?_)))
  exact hF.setRow _ _ fun h => by omega
theorem editRedact_any (w : World) (a b c d : Int) : Calls Tryd.prog 81 [.agg #[.int .i64 a, .int .i64 b, .int .i64 c, .int .i64 d]].toArray w fun r w' => r = .returned (.agg (edC ⟨2, a, b, c, d, []⟩)) ∧ Fr no w w' := by
  refine enter81 (by simp) ?_
  (repeat' first | (simp only [RA, MI, S.dst, Nat.reduceAdd, Nat.reduceMul, Nat.reduceEqDiff, ↓reduceIte, reduceCtorEq, ne_eq, Nat.reduceLT, Nat.reduceLeDiff, gt_iff_lt, ge_iff_le, Int.reduceToNat, Nat.reduceSub, Int.reduceEq, Int.reduceLT, Int.reduceLE, not_true_eq_false, c81, x81.down, btE, tup_10, List.take_length, ba_nil, ba_size, ba_list, ba_ext, ba_add, true_and, at_z, at_s, putc1, putc4, List.setIfInBounds_toArray, List.set_cons_zero, List.set_cons_succ, List.size_toArray, List.length_cons, List.length_nil, List.toList_toArray, zEd, zTurn, zDrop, zNote, zPut, zCrop, zRedact, zRect]) | ((with_reducible first | apply ld_r | apply ldN_a | apply ldN_r | apply st_r | apply stN_a); (exact X.rws)) | ((with_reducible first | apply bound_of | apply wr_i64 | apply wr_u8 | apply wr_u64 | apply wr_i32 | apply wr_i16 | apply wr_u32 | apply wr_u16); (exact X.om); (exact X.om)) | ((with_reducible first | apply ints_at | apply le_andI | apply le_andN | apply ne_andI); (exact X.om)) | ((with_reducible first | apply same_and | apply same_andW); (exact X.olz)) | (with_reducible refine ite_of (fun _ => ?_) (fun _ => ?_)))
  generalize hw : World.alloc _ _ = w2
  have hR : Own w2 (w.heap.size + 1) (edC ⟨0, 0, 0, 0, 0, []⟩) := by rw [← hw]; unfold edC; (exact X.rws)
  have hF : Fr X.no w w2 := by rw [← hw]; (exact X.frz)
  clear hw
  refine calls_mono (boxed_any w2 _ a b c d) ?_
  rintro _ w3 ⟨rfl, hf3⟩
  replace hR := hR.fr hf3 (fun h => h)
  replace hF := hF.and hf3
  have hO : Ones (edC ⟨2, a, b, c, d, []⟩).toList := by unfold edC; exact .cons rfl (.cons rfl (.cons rfl (.cons rfl (.cons rfl (.cons rfl .nil)))))
  simp only [sz_alloc]
  unfold edC at hR hO ⊢
  (repeat' first | (simp only [RA, MI, S.dst, Nat.reduceAdd, Nat.reduceMul, Nat.reduceEqDiff, ↓reduceIte, reduceCtorEq, ne_eq, Nat.reduceLT, Nat.reduceLeDiff, gt_iff_lt, ge_iff_le, Int.reduceToNat, Nat.reduceSub, Int.reduceEq, Int.reduceLT, Int.reduceLE, not_true_eq_false, c81, x81.down, btE, tup_10, List.take_length, ba_nil, ba_size, ba_list, ba_ext, ba_add, true_and, at_z, at_s, putc1, putc4, List.setIfInBounds_toArray, List.set_cons_zero, List.set_cons_succ, List.size_toArray, List.length_cons, List.length_nil, List.toList_toArray, zEd, zTurn, zDrop, zNote, zPut, zCrop, zRedact, zRect]) | ((with_reducible first | apply ld_r | apply ldN_a | apply ldN_r | apply st_r | apply stN_a); (exact X.rws)) | ((with_reducible first | apply bound_of | apply wr_i64 | apply wr_u8 | apply wr_u64 | apply wr_i32 | apply wr_i16 | apply wr_u32 | apply wr_u16); (exact X.om); (exact X.om)) | ((with_reducible first | apply ints_at | apply le_andI | apply le_andN | apply ne_andI); (exact X.om)) | ((with_reducible first | apply same_and | apply same_andW); (exact X.olz)) | (with_reducible refine ite_of (fun _ => ?_) (fun _ => ?_)))
  exact hF.setRow _ _ fun h => by omega

set_option maxRecDepth 10000
set_option maxHeartbeats 1000000

theorem vTurn : zval Tryd.prog 36 = .agg #[.int .i64 0] := by kernel_rfl
theorem vPut : zval Tryd.prog 43 = .agg #[.int .i64 0, .int .i64 0, .string (ba [])] := by kernel_rfl
theorem Right_any (w : World) (k : Int) : Calls Tryd.prog 17 [.int .i64 k].toArray w fun r w' => r = .returned (.bool (decide (0 ≤ k ∧ k < 8))) ∧ w' = w := by
  refine enter17 (by simp) ?_
  (repeat' first | (simp only [RA, MI, S.dst, Nat.reduceAdd, Nat.reduceMul, Nat.reduceEqDiff, ↓reduceIte, reduceCtorEq, ne_eq, Nat.reduceLT, Nat.reduceLeDiff, gt_iff_lt, ge_iff_le, Int.reduceToNat, Nat.reduceSub, Int.reduceEq, Int.reduceLT, Int.reduceLE, not_true_eq_false, c17, x17.down, true_and]) | ((with_reducible first | apply ld_r | apply ldN_a | apply ldN_r | apply st_r | apply stN_a); (exact X.rws)) | ((with_reducible first | apply bound_of | apply wr_i64 | apply wr_u8 | apply wr_u64 | apply wr_i32 | apply wr_i16 | apply wr_u32 | apply wr_u16); (exact X.om); (exact X.om)) | ((with_reducible first | apply ints_at | apply le_andI | apply le_andN | apply ne_andI); (exact X.om)) | ((with_reducible first | apply same_and | apply same_andW); (exact X.olz)) | (with_reducible refine ite_of (fun _ => ?_) (fun _ => ?_)))
  all_goals
    refine ⟨?_, trivial⟩
    first | (congr 2; exact decide_eq_decide.2 (by omega)) | (congr 2; exact (decide_eq_false (by omega)).symm)
theorem IsTurn_any (w : World) (e : Ed) : Calls Tryd.prog 8 [opV e].toArray w fun r w' => r = .returned (.tuple #[.int .i64 (if e.kind = 0 then e.a else 0), .bool (decide (e.kind = 0))]) ∧ Fr no w w' := by
  refine enter8 (by simp) ?_
  have hk : e.kind = 0 ∨ e.kind = 1 ∨ e.kind = 2 ∨ e.kind = 3 ∨ e.kind = 4 ∨ e.kind = 5 ∨ (e.kind ≠ 0 ∧ e.kind ≠ 1 ∧ e.kind ≠ 2 ∧ e.kind ≠ 3 ∧ e.kind ≠ 4 ∧ e.kind ≠ 5) := by omega
  unfold opV
  rcases hk with hk | hk | hk | hk | hk | hk | ⟨h0, h1, h2, h3, h4, h5⟩
  all_goals
    first | simp only [hk] | simp only [h0, h1, h2, h3, h4, h5]
    simp only [Int.reduceEq, ↓reduceIte]
    (repeat' first | (simp only [RA, MI, S.dst, Nat.reduceAdd, Nat.reduceMul, Nat.reduceEqDiff, ↓reduceIte, reduceCtorEq, ne_eq, Nat.reduceLT, Nat.reduceLeDiff, gt_iff_lt, ge_iff_le, Int.reduceToNat, Nat.reduceSub, Int.reduceEq, Int.reduceLT, Int.reduceLE, not_true_eq_false, c8, x8.down, vTurn, ba_nil, true_and, at_z, at_s, zEd, zTurn, putc1, List.setIfInBounds_toArray, List.set_cons_zero, List.set_cons_succ, List.size_toArray, List.length_cons, List.length_nil, List.toList_toArray]) | ((with_reducible first | apply ld_r | apply ldN_a | apply ldN_r | apply st_r | apply stN_a); (exact X.rws)) | ((with_reducible first | apply bound_of | apply wr_i64 | apply wr_u8 | apply wr_u64 | apply wr_i32 | apply wr_i16 | apply wr_u32 | apply wr_u16); (exact X.om); (exact X.om)) | ((with_reducible first | apply ints_at | apply le_andI | apply le_andN | apply ne_andI); (exact X.om)) | ((with_reducible first | apply same_and | apply same_andW); (exact X.olz)) | (with_reducible refine ite_of (fun _ => ?_) (fun _ => ?_)))
    all_goals first
      | (refine ⟨?_, by (exact X.frz)⟩; simp; done)
      | trace_state
end Go.Proofs.YtgibicifflfpfaaDoor
