/-
  EditBack: walked. Conditions: none.
-/
import Derived.Test.YtgibicifflfpfaaDoorEL2
import Derived.Test.YtgibicifflfpfaaDoorEP4
set_option autoImplicit false
set_option linter.unusedSimpArgs false
set_option linter.unusedVariables false
namespace Go.Proofs.YtgibicifflfpfaaDoor
open X
set_option maxRecDepth 10000
set_option maxHeartbeats 1000000

theorem texL_len {e : Ed} (hc : cleanP e) : (texL e).length ≤ 11 * e.body.length + 200 := by
  obtain ⟨⟨hk, _⟩, ⟨ra, rb', rc, rd⟩, h8, _⟩ := hc
  unfold rng at ra rb' rc rd
  have hq := quo_len e.body
  have d4 := digL_len [e.a.toNat, e.b.toNat, e.c.toNat, e.d.toNat] (by intro n hn; simp only [List.mem_cons, List.not_mem_nil, or_false] at hn; rcases hn with rfl | rfl | rfl | rfl <;> omega)
  have d2 := digL_len [e.a.toNat, e.b.toNat] (by intro n hn; simp only [List.mem_cons, List.not_mem_nil, or_false] at hn; rcases hn with rfl | rfl <;> omega)
  have d1 := digL_len [e.a.toNat] (by intro n hn; simp only [List.mem_cons, List.not_mem_nil, or_false] at hn; rcases hn with rfl; omega)
  simp only [List.length_cons, List.length_nil] at d4 d2 d1
  unfold texL
  split
  · rename_i h0
    have := turnW_len e.a.toNat (by have := h8 h0; omega)
    simp only [List.length_append, List.length_cons, List.length_nil]; omega
  · repeat' split
    all_goals simp only [List.length_append, List.length_cons, List.length_nil]; omega
theorem parseL_text {e : Ed} (hc : cleanP e) : parseL (texL e) = (e, 0, 0) := by
  unfold parseL
  rw [parse_text hc]
def tB3 : C := (.seq (.region r4_13) (.seq (.region r4_14) (.seq (.region r4_15) .ret)))
def tB2 : C := (.seq (.region r4_10) (.seq (.seq (.region r4_11) (.cond (.tmp 65) (.seq (.region r4_12) .ret) .skip)) tB3))
def tB1 : C := (.seq (.region r4_3) (.seq (.seq (.region r4_4) (.cond (.tmp 38) (.seq (.region r4_5) (.cond (.tmp 44) (.seq (.region r4_6) .ret) .skip)) (.seq (.region r4_7) (.seq (.region r4_8) (.cond (.tmp 57) (.seq (.region r4_9) .ret) .skip))))) tB2))
theorem cBack_eq : c4 = (.seq (.region r4_0) (.seq (.seq (.region r4_1) (.cond (.tmp 30) (.seq (.region r4_2) .ret) .skip)) tB1)) := rfl

/-- What EditBack ends with. -/
def bkP (w : World) : Ending → World → Prop := fun r w' => r = .returned (.bool true) ∧ Fr no w w'

theorem tB3_any {w w2 : World} {C : Nat} {s : List UInt8} {e : Ed} {n : Int} {x : Env} (h : parseP s = .ok e) (hs : s.length ≤ 3000) (hT : TN w2) (hU : UT w2) (hF : Fr no w w2) (hC : Row w2 C (edC e)) (hz : w.heap.size ≤ C) :
    vc Tryd.prog tB3 (endPost [RV.t 4] (bkP w)) ((1, .string (ba s)) :: (10, .pointer (some ⟨C, 0, none⟩)) :: (11, .int .i64 n) :: x) w2 := by
  obtain ⟨hc, hl⟩ := parse_clean h
  have ok : EdOk e := edOk_num hc.1.1 hc.2.1 (by omega)
  have tl := texL_len hc
  have e6 : (edC e).size = 6 := rfl
  (repeat' first | (simp only [RA, MI, S.dst, Nat.reduceAdd, Nat.reduceMul, Nat.reduceEqDiff, ↓reduceIte, reduceCtorEq, ne_eq, Nat.reduceLT, Nat.reduceLeDiff, gt_iff_lt, ge_iff_le, Int.reduceToNat, Nat.reduceSub, Int.reduceEq, Int.reduceLT, Int.reduceLE, not_true_eq_false, x4.down, tB3, btE, tup_10, List.take_length, ba_nil, ba_size, ba_list, ba_ext, ba_add, true_and, at_z, at_s, putc1, putc4, List.setIfInBounds_toArray, List.set_cons_zero, List.set_cons_succ, List.size_toArray, List.length_cons, List.length_nil, List.toList_toArray, zEd, beq_self_eq_true, decide_true, decide_false]) | ((with_reducible first | apply ld_r | apply ldN_a | apply ldN_r | apply st_r | apply stN_a); (exact X.rws)) | ((with_reducible first | apply bound_of | apply wr_i64 | apply wr_u8 | apply wr_u64 | apply wr_i32 | apply wr_i16 | apply wr_u32 | apply wr_u16); (exact X.om); (exact X.om)) | ((with_reducible first | apply ints_at | apply le_andI | apply le_andN | apply ne_andI); (exact X.om)) | ((with_reducible first | apply same_and | apply same_andW); (exact X.olz)) | (with_reducible refine ite_of (fun _ => ?_) (fun _ => ?_)))
  refine calls_mono (Text_any w2 e ok (by omega) hT hU) ?_
  rintro _ w3 ⟨rfl, hF3⟩
  rw [if_pos hc, if_pos hc]
  replace hF := hF.and hF3
  replace hC := hC.fr hF3 fun h => h
  have hT3 := hT.fr hF3 fun h => h
  (repeat' first | (simp only [RA, MI, S.dst, Nat.reduceAdd, Nat.reduceMul, Nat.reduceEqDiff, ↓reduceIte, reduceCtorEq, ne_eq, Nat.reduceLT, Nat.reduceLeDiff, gt_iff_lt, ge_iff_le, Int.reduceToNat, Nat.reduceSub, Int.reduceEq, Int.reduceLT, Int.reduceLE, not_true_eq_false, x4.down, tB3, btE, tup_10, List.take_length, ba_nil, ba_size, ba_list, ba_ext, ba_add, true_and, at_z, at_s, putc1, putc4, List.setIfInBounds_toArray, List.set_cons_zero, List.set_cons_succ, List.size_toArray, List.length_cons, List.length_nil, List.toList_toArray, zEd, beq_self_eq_true, decide_true, decide_false]) | ((with_reducible first | apply ld_r | apply ldN_a | apply ldN_r | apply st_r | apply stN_a); (exact X.rws)) | ((with_reducible first | apply bound_of | apply wr_i64 | apply wr_u8 | apply wr_u64 | apply wr_i32 | apply wr_i16 | apply wr_u32 | apply wr_u16); (exact X.om); (exact X.om)) | ((with_reducible first | apply ints_at | apply le_andI | apply le_andN | apply ne_andI); (exact X.om)) | ((with_reducible first | apply same_and | apply same_andW); (exact X.olz)) | (with_reducible refine ite_of (fun _ => ?_) (fun _ => ?_)))
  refine calls_mono (Parse_any w3 (texL e) (by omega) hT3) ?_
  rintro _ w4 ⟨rfl, hF4⟩
  rw [parseL_text hc]
  replace hF := hF.and hF4
  replace hC := hC.fr hF4 fun h => h
  have hsz := hF.size
  have hlt := hC.lt
  simp only [edC]
  (repeat' first | (simp only [RA, MI, S.dst, Nat.reduceAdd, Nat.reduceMul, Nat.reduceEqDiff, ↓reduceIte, reduceCtorEq, ne_eq, Nat.reduceLT, Nat.reduceLeDiff, gt_iff_lt, ge_iff_le, Int.reduceToNat, Nat.reduceSub, Int.reduceEq, Int.reduceLT, Int.reduceLE, not_true_eq_false, x4.down, tB3, btE, tup_10, List.take_length, ba_nil, ba_size, ba_list, ba_ext, ba_add, true_and, at_z, at_s, putc1, putc4, List.setIfInBounds_toArray, List.set_cons_zero, List.set_cons_succ, List.size_toArray, List.length_cons, List.length_nil, List.toList_toArray, zEd, beq_self_eq_true, decide_true, decide_false]) | ((with_reducible first | apply ld_r | apply ldN_a | apply ldN_r | apply st_r | apply stN_a); (exact X.rws)) | ((with_reducible first | apply bound_of | apply wr_i64 | apply wr_u8 | apply wr_u64 | apply wr_i32 | apply wr_i16 | apply wr_u32 | apply wr_u16); (exact X.om); (exact X.om)) | ((with_reducible first | apply ints_at | apply le_andI | apply le_andN | apply ne_andI); (exact X.om)) | ((with_reducible first | apply same_and | apply same_andW); (exact X.olz)) | (with_reducible refine ite_of (fun _ => ?_) (fun _ => ?_)))
  generalize hW : World.setRow _ _ _ = w5
  have h5 : Row w5 w4.heap.size (edC e) := by rw [← hW]; unfold edC; (exact X.rws)
  have hF5 : Fr no w4 w5 := by rw [← hW]; (exact X.frz)
  clear hW
  replace hF := hF.and hF5
  replace hC := hC.fr hF5 fun h => h
  unfold edC at hC h5
  (repeat' first | (simp only [RA, MI, S.dst, Nat.reduceAdd, Nat.reduceMul, Nat.reduceEqDiff, ↓reduceIte, reduceCtorEq, ne_eq, Nat.reduceLT, Nat.reduceLeDiff, gt_iff_lt, ge_iff_le, Int.reduceToNat, Nat.reduceSub, Int.reduceEq, Int.reduceLT, Int.reduceLE, not_true_eq_false, x4.down, tB3, btE, tup_10, List.take_length, ba_nil, ba_size, ba_list, ba_ext, ba_add, true_and, at_z, at_s, putc1, putc4, List.setIfInBounds_toArray, List.set_cons_zero, List.set_cons_succ, List.size_toArray, List.length_cons, List.length_nil, List.toList_toArray, zEd, beq_self_eq_true, decide_true, decide_false]) | ((with_reducible first | apply ld_r | apply ldN_a | apply ldN_r | apply st_r | apply stN_a); (exact X.rws)) | ((with_reducible first | apply bound_of | apply wr_i64 | apply wr_u8 | apply wr_u64 | apply wr_i32 | apply wr_i16 | apply wr_u32 | apply wr_u16); (exact X.om); (exact X.om)) | ((with_reducible first | apply ints_at | apply le_andI | apply le_andN | apply ne_andI); (exact X.om)) | ((with_reducible first | apply same_and | apply same_andW); (exact X.olz)) | (with_reducible refine ite_of (fun _ => ?_) (fun _ => ?_)))
  refine aeqEd (x := e) (y := e) ok ok ?_
  rw [decide_eq_true (show sameEd e e from ⟨rfl, rfl, rfl, rfl, rfl, rfl⟩)]
  (repeat' first | (simp only [RA, MI, S.dst, Nat.reduceAdd, Nat.reduceMul, Nat.reduceEqDiff, ↓reduceIte, reduceCtorEq, ne_eq, Nat.reduceLT, Nat.reduceLeDiff, gt_iff_lt, ge_iff_le, Int.reduceToNat, Nat.reduceSub, Int.reduceEq, Int.reduceLT, Int.reduceLE, not_true_eq_false, x4.down, tB3, btE, tup_10, List.take_length, ba_nil, ba_size, ba_list, ba_ext, ba_add, true_and, at_z, at_s, putc1, putc4, List.setIfInBounds_toArray, List.set_cons_zero, List.set_cons_succ, List.size_toArray, List.length_cons, List.length_nil, List.toList_toArray, zEd, beq_self_eq_true, decide_true, decide_false]) | ((with_reducible first | apply ld_r | apply ldN_a | apply ldN_r | apply st_r | apply stN_a); (exact X.rws)) | ((with_reducible first | apply bound_of | apply wr_i64 | apply wr_u8 | apply wr_u64 | apply wr_i32 | apply wr_i16 | apply wr_u32 | apply wr_u16); (exact X.om); (exact X.om)) | ((with_reducible first | apply ints_at | apply le_andI | apply le_andN | apply ne_andI); (exact X.om)) | ((with_reducible first | apply same_and | apply same_andW); (exact X.olz)) | (with_reducible refine ite_of (fun _ => ?_) (fun _ => ?_)))
  refine calls_mono (Clean_any _ e ok) ?_
  rintro _ w6 ⟨rfl, hF6⟩
  simp only [hc, decide_true]
  (repeat' first | (simp only [RA, MI, S.dst, Nat.reduceAdd, Nat.reduceMul, Nat.reduceEqDiff, ↓reduceIte, reduceCtorEq, ne_eq, Nat.reduceLT, Nat.reduceLeDiff, gt_iff_lt, ge_iff_le, Int.reduceToNat, Nat.reduceSub, Int.reduceEq, Int.reduceLT, Int.reduceLE, not_true_eq_false, x4.down, tB3, btE, tup_10, List.take_length, ba_nil, ba_size, ba_list, ba_ext, ba_add, true_and, at_z, at_s, putc1, putc4, List.setIfInBounds_toArray, List.set_cons_zero, List.set_cons_succ, List.size_toArray, List.length_cons, List.length_nil, List.toList_toArray, zEd, beq_self_eq_true, decide_true, decide_false]) | ((with_reducible first | apply ld_r | apply ldN_a | apply ldN_r | apply st_r | apply stN_a); (exact X.rws)) | ((with_reducible first | apply bound_of | apply wr_i64 | apply wr_u8 | apply wr_u64 | apply wr_i32 | apply wr_i16 | apply wr_u32 | apply wr_u16); (exact X.om); (exact X.om)) | ((with_reducible first | apply ints_at | apply le_andI | apply le_andN | apply ne_andI); (exact X.om)) | ((with_reducible first | apply same_and | apply same_andW); (exact X.olz)) | (with_reducible refine ite_of (fun _ => ?_) (fun _ => ?_)))
  exact ⟨rfl, hF.and hF6⟩

theorem tB2_any {w w2 : World} {s : List UInt8} {x : Env} (hs : s.length ≤ 3000) (hT : TN w2) (hU : UT w2) (hF : Fr no w w2) :
    vc Tryd.prog tB2 (endPost [RV.t 4] (bkP w)) ((1, .string (ba s)) :: x) w2 := by
  (repeat' first | (simp only [RA, MI, S.dst, Nat.reduceAdd, Nat.reduceMul, Nat.reduceEqDiff, ↓reduceIte, reduceCtorEq, ne_eq, Nat.reduceLT, Nat.reduceLeDiff, gt_iff_lt, ge_iff_le, Int.reduceToNat, Nat.reduceSub, Int.reduceEq, Int.reduceLT, Int.reduceLE, not_true_eq_false, x4.down, tB2, btE, tup_10, List.take_length, ba_nil, ba_size, ba_list, ba_ext, ba_add, true_and, at_z, at_s, putc1, putc4, List.setIfInBounds_toArray, List.set_cons_zero, List.set_cons_succ, List.size_toArray, List.length_cons, List.length_nil, List.toList_toArray, zEd, beq_self_eq_true, decide_true, decide_false]) | ((with_reducible first | apply ld_r | apply ldN_a | apply ldN_r | apply st_r | apply stN_a); (exact X.rws)) | ((with_reducible first | apply bound_of | apply wr_i64 | apply wr_u8 | apply wr_u64 | apply wr_i32 | apply wr_i16 | apply wr_u32 | apply wr_u16); (exact X.om); (exact X.om)) | ((with_reducible first | apply ints_at | apply le_andI | apply le_andN | apply ne_andI); (exact X.om)) | ((with_reducible first | apply same_and | apply same_andW); (exact X.olz)) | (with_reducible refine ite_of (fun _ => ?_) (fun _ => ?_)))
  refine calls_mono (Parse_any w2 s (by omega) hT) ?_
  rintro _ w3 ⟨rfl, hF3⟩
  replace hF := hF.and hF3
  have hT3 := hT.fr hF3 fun h => h
  have hU3 := hU.fr hF3 (fun h => h) fun h => h
  have hsz := hF.size
  cases h : parseP s with
  | error y =>
    have hb := parse_err h
    unfold bad at hb
    rw [show parseL s = (ed0, y.1, y.2) by unfold parseL; rw [h]]
    simp only [edC, ed0]
    (repeat' first | (simp only [RA, MI, S.dst, Nat.reduceAdd, Nat.reduceMul, Nat.reduceEqDiff, ↓reduceIte, reduceCtorEq, ne_eq, Nat.reduceLT, Nat.reduceLeDiff, gt_iff_lt, ge_iff_le, Int.reduceToNat, Nat.reduceSub, Int.reduceEq, Int.reduceLT, Int.reduceLE, not_true_eq_false, x4.down, tB2, btE, tup_10, List.take_length, ba_nil, ba_size, ba_list, ba_ext, ba_add, true_and, at_z, at_s, putc1, putc4, List.setIfInBounds_toArray, List.set_cons_zero, List.set_cons_succ, List.size_toArray, List.length_cons, List.length_nil, List.toList_toArray, zEd, beq_self_eq_true, decide_true, decide_false]) | ((with_reducible first | apply ld_r | apply ldN_a | apply ldN_r | apply st_r | apply stN_a); (exact X.rws)) | ((with_reducible first | apply bound_of | apply wr_i64 | apply wr_u8 | apply wr_u64 | apply wr_i32 | apply wr_i16 | apply wr_u32 | apply wr_u16); (exact X.om); (exact X.om)) | ((with_reducible first | apply ints_at | apply le_andI | apply le_andN | apply ne_andI); (exact X.om)) | ((with_reducible first | apply same_and | apply same_andW); (exact X.olz)) | (with_reducible refine ite_of (fun _ => ?_) (fun _ => ?_)))
    all_goals first | (exfalso; omega) | skip
    refine aeqEd (x := ed0) (y := ed0) edOk_ed0 edOk_ed0 ?_
    rw [decide_eq_true (show sameEd ed0 ed0 from ⟨rfl, rfl, rfl, rfl, rfl, rfl⟩)]
    (repeat' first | (simp only [RA, MI, S.dst, Nat.reduceAdd, Nat.reduceMul, Nat.reduceEqDiff, ↓reduceIte, reduceCtorEq, ne_eq, Nat.reduceLT, Nat.reduceLeDiff, gt_iff_lt, ge_iff_le, Int.reduceToNat, Nat.reduceSub, Int.reduceEq, Int.reduceLT, Int.reduceLE, not_true_eq_false, x4.down, tB2, btE, tup_10, List.take_length, ba_nil, ba_size, ba_list, ba_ext, ba_add, true_and, at_z, at_s, putc1, putc4, List.setIfInBounds_toArray, List.set_cons_zero, List.set_cons_succ, List.size_toArray, List.length_cons, List.length_nil, List.toList_toArray, zEd, beq_self_eq_true, decide_true, decide_false]) | ((with_reducible first | apply ld_r | apply ldN_a | apply ldN_r | apply st_r | apply stN_a); (exact X.rws)) | ((with_reducible first | apply bound_of | apply wr_i64 | apply wr_u8 | apply wr_u64 | apply wr_i32 | apply wr_i16 | apply wr_u32 | apply wr_u16); (exact X.om); (exact X.om)) | ((with_reducible first | apply ints_at | apply le_andI | apply le_andN | apply ne_andI); (exact X.om)) | ((with_reducible first | apply same_and | apply same_andW); (exact X.olz)) | (with_reducible refine ite_of (fun _ => ?_) (fun _ => ?_)))
    all_goals first | (exfalso; omega) | skip
    refine ⟨?_, by (exact X.frz)⟩
    rw [decide_eq_true (by omega)]
  | ok e =>
    rw [show parseL s = (e, 0, 0) by unfold parseL; rw [h]]
    simp only [edC]
    (repeat' first | (simp only [RA, MI, S.dst, Nat.reduceAdd, Nat.reduceMul, Nat.reduceEqDiff, ↓reduceIte, reduceCtorEq, ne_eq, Nat.reduceLT, Nat.reduceLeDiff, gt_iff_lt, ge_iff_le, Int.reduceToNat, Nat.reduceSub, Int.reduceEq, Int.reduceLT, Int.reduceLE, not_true_eq_false, x4.down, tB2, btE, tup_10, List.take_length, ba_nil, ba_size, ba_list, ba_ext, ba_add, true_and, at_z, at_s, putc1, putc4, List.setIfInBounds_toArray, List.set_cons_zero, List.set_cons_succ, List.size_toArray, List.length_cons, List.length_nil, List.toList_toArray, zEd, beq_self_eq_true, decide_true, decide_false]) | ((with_reducible first | apply ld_r | apply ldN_a | apply ldN_r | apply st_r | apply stN_a); (exact X.rws)) | ((with_reducible first | apply bound_of | apply wr_i64 | apply wr_u8 | apply wr_u64 | apply wr_i32 | apply wr_i16 | apply wr_u32 | apply wr_u16); (exact X.om); (exact X.om)) | ((with_reducible first | apply ints_at | apply le_andI | apply le_andN | apply ne_andI); (exact X.om)) | ((with_reducible first | apply same_and | apply same_andW); (exact X.olz)) | (with_reducible refine ite_of (fun _ => ?_) (fun _ => ?_)))
    generalize hW : World.setRow _ _ _ = w5
    have h5 : Row w5 w3.heap.size (edC e) := by rw [← hW]; unfold edC; (exact X.rws)
    have hF5 : Fr no w3 w5 := by rw [← hW]; (exact X.frz)
    exact tB3_any h hs (hT3.fr hF5 fun h => h) (hU3.fr hF5 (fun h => h) fun h => h) (hF.and hF5) h5 hsz

theorem tB1_any {w w2 : World} {B : Nat} {s : List UInt8} {e : Ed} {x : Env} (ok : EdOk e) (hb : e.body.length ≤ 3000) (hs : s.length ≤ 3000) (hT : TN w2) (hU : UT w2) (hF : Fr no w w2) (hA : Row w2 B (edC e)) (hB : w.heap.size ≤ B) :
    vc Tryd.prog tB1 (endPost [RV.t 4] (bkP w)) ((1, .string (ba s)) :: (2, .pointer (some ⟨B, 0, none⟩)) :: x) w2 := by
  have e6 : (edC e).size = 6 := rfl
  (repeat' first | (simp only [RA, MI, S.dst, Nat.reduceAdd, Nat.reduceMul, Nat.reduceEqDiff, ↓reduceIte, reduceCtorEq, ne_eq, Nat.reduceLT, Nat.reduceLeDiff, gt_iff_lt, ge_iff_le, Int.reduceToNat, Nat.reduceSub, Int.reduceEq, Int.reduceLT, Int.reduceLE, not_true_eq_false, x4.down, tB1, btE, tup_10, List.take_length, ba_nil, ba_size, ba_list, ba_ext, ba_add, true_and, at_z, at_s, putc1, putc4, List.setIfInBounds_toArray, List.set_cons_zero, List.set_cons_succ, List.size_toArray, List.length_cons, List.length_nil, List.toList_toArray, zEd, beq_self_eq_true, decide_true, decide_false]) | ((with_reducible first | apply ld_r | apply ldN_a | apply ldN_r | apply st_r | apply stN_a); (exact X.rws)) | ((with_reducible first | apply bound_of | apply wr_i64 | apply wr_u8 | apply wr_u64 | apply wr_i32 | apply wr_i16 | apply wr_u32 | apply wr_u16); (exact X.om); (exact X.om)) | ((with_reducible first | apply ints_at | apply le_andI | apply le_andN | apply ne_andI); (exact X.om)) | ((with_reducible first | apply same_and | apply same_andW); (exact X.olz)) | (with_reducible refine ite_of (fun _ => ?_) (fun _ => ?_)))
  refine calls_mono (Text_any w2 e ok (by omega) hT hU) ?_
  rintro _ w3 ⟨rfl, hF3⟩
  replace hF := hF.and hF3
  replace hA := hA.fr hF3 fun h => h
  have hT3 := hT.fr hF3 fun h => h
  have hU3 := hU.fr hF3 (fun h => h) fun h => h
  by_cases hc : cleanP e
  · have tl := texL_len hc
    rw [if_pos hc, if_pos hc]
    (repeat' first | (simp only [RA, MI, S.dst, Nat.reduceAdd, Nat.reduceMul, Nat.reduceEqDiff, ↓reduceIte, reduceCtorEq, ne_eq, Nat.reduceLT, Nat.reduceLeDiff, gt_iff_lt, ge_iff_le, Int.reduceToNat, Nat.reduceSub, Int.reduceEq, Int.reduceLT, Int.reduceLE, not_true_eq_false, x4.down, tB1, btE, tup_10, List.take_length, ba_nil, ba_size, ba_list, ba_ext, ba_add, true_and, at_z, at_s, putc1, putc4, List.setIfInBounds_toArray, List.set_cons_zero, List.set_cons_succ, List.size_toArray, List.length_cons, List.length_nil, List.toList_toArray, zEd, beq_self_eq_true, decide_true, decide_false]) | ((with_reducible first | apply ld_r | apply ldN_a | apply ldN_r | apply st_r | apply stN_a); (exact X.rws)) | ((with_reducible first | apply bound_of | apply wr_i64 | apply wr_u8 | apply wr_u64 | apply wr_i32 | apply wr_i16 | apply wr_u32 | apply wr_u16); (exact X.om); (exact X.om)) | ((with_reducible first | apply ints_at | apply le_andI | apply le_andN | apply ne_andI); (exact X.om)) | ((with_reducible first | apply same_and | apply same_andW); (exact X.olz)) | (with_reducible refine ite_of (fun _ => ?_) (fun _ => ?_)))
    refine calls_mono (Parse_any w3 (texL e) (by omega) hT3) ?_
    rintro _ w4 ⟨rfl, hF4⟩
    rw [parseL_text hc]
    replace hF := hF.and hF4
    replace hA := hA.fr hF4 fun h => h
    have hT4 := hT3.fr hF4 fun h => h
    have hU4 := hU3.fr hF4 (fun h => h) fun h => h
    have hsz := hF.size
    have hlt := hA.lt
    simp only [edC]
    (repeat' first | (simp only [RA, MI, S.dst, Nat.reduceAdd, Nat.reduceMul, Nat.reduceEqDiff, ↓reduceIte, reduceCtorEq, ne_eq, Nat.reduceLT, Nat.reduceLeDiff, gt_iff_lt, ge_iff_le, Int.reduceToNat, Nat.reduceSub, Int.reduceEq, Int.reduceLT, Int.reduceLE, not_true_eq_false, x4.down, tB1, btE, tup_10, List.take_length, ba_nil, ba_size, ba_list, ba_ext, ba_add, true_and, at_z, at_s, putc1, putc4, List.setIfInBounds_toArray, List.set_cons_zero, List.set_cons_succ, List.size_toArray, List.length_cons, List.length_nil, List.toList_toArray, zEd, beq_self_eq_true, decide_true, decide_false]) | ((with_reducible first | apply ld_r | apply ldN_a | apply ldN_r | apply st_r | apply stN_a); (exact X.rws)) | ((with_reducible first | apply bound_of | apply wr_i64 | apply wr_u8 | apply wr_u64 | apply wr_i32 | apply wr_i16 | apply wr_u32 | apply wr_u16); (exact X.om); (exact X.om)) | ((with_reducible first | apply ints_at | apply le_andI | apply le_andN | apply ne_andI); (exact X.om)) | ((with_reducible first | apply same_and | apply same_andW); (exact X.olz)) | (with_reducible refine ite_of (fun _ => ?_) (fun _ => ?_)))
    generalize hW : World.setRow _ _ _ = w5
    have h5 : Row w5 w4.heap.size (edC e) := by rw [← hW]; unfold edC; (exact X.rws)
    have hF5 : Fr no w4 w5 := by rw [← hW]; (exact X.frz)
    clear hW
    replace hF := hF.and hF5
    replace hA := hA.fr hF5 fun h => h
    have hT5 := hT4.fr hF5 fun h => h
    have hU5 := hU4.fr hF5 (fun h => h) fun h => h
    unfold edC at hA h5
    (repeat' first | (simp only [RA, MI, S.dst, Nat.reduceAdd, Nat.reduceMul, Nat.reduceEqDiff, ↓reduceIte, reduceCtorEq, ne_eq, Nat.reduceLT, Nat.reduceLeDiff, gt_iff_lt, ge_iff_le, Int.reduceToNat, Nat.reduceSub, Int.reduceEq, Int.reduceLT, Int.reduceLE, not_true_eq_false, x4.down, tB1, btE, tup_10, List.take_length, ba_nil, ba_size, ba_list, ba_ext, ba_add, true_and, at_z, at_s, putc1, putc4, List.setIfInBounds_toArray, List.set_cons_zero, List.set_cons_succ, List.size_toArray, List.length_cons, List.length_nil, List.toList_toArray, zEd, beq_self_eq_true, decide_true, decide_false]) | ((with_reducible first | apply ld_r | apply ldN_a | apply ldN_r | apply st_r | apply stN_a); (exact X.rws)) | ((with_reducible first | apply bound_of | apply wr_i64 | apply wr_u8 | apply wr_u64 | apply wr_i32 | apply wr_i16 | apply wr_u32 | apply wr_u16); (exact X.om); (exact X.om)) | ((with_reducible first | apply ints_at | apply le_andI | apply le_andN | apply ne_andI); (exact X.om)) | ((with_reducible first | apply same_and | apply same_andW); (exact X.olz)) | (with_reducible refine ite_of (fun _ => ?_) (fun _ => ?_)))
    refine aeqEd (x := e) (y := e) ok ok ?_
    rw [decide_eq_true (show sameEd e e from ⟨rfl, rfl, rfl, rfl, rfl, rfl⟩)]
    (repeat' first | (simp only [RA, MI, S.dst, Nat.reduceAdd, Nat.reduceMul, Nat.reduceEqDiff, ↓reduceIte, reduceCtorEq, ne_eq, Nat.reduceLT, Nat.reduceLeDiff, gt_iff_lt, ge_iff_le, Int.reduceToNat, Nat.reduceSub, Int.reduceEq, Int.reduceLT, Int.reduceLE, not_true_eq_false, x4.down, tB1, btE, tup_10, List.take_length, ba_nil, ba_size, ba_list, ba_ext, ba_add, true_and, at_z, at_s, putc1, putc4, List.setIfInBounds_toArray, List.set_cons_zero, List.set_cons_succ, List.size_toArray, List.length_cons, List.length_nil, List.toList_toArray, zEd, beq_self_eq_true, decide_true, decide_false]) | ((with_reducible first | apply ld_r | apply ldN_a | apply ldN_r | apply st_r | apply stN_a); (exact X.rws)) | ((with_reducible first | apply bound_of | apply wr_i64 | apply wr_u8 | apply wr_u64 | apply wr_i32 | apply wr_i16 | apply wr_u32 | apply wr_u16); (exact X.om); (exact X.om)) | ((with_reducible first | apply ints_at | apply le_andI | apply le_andN | apply ne_andI); (exact X.om)) | ((with_reducible first | apply same_and | apply same_andW); (exact X.olz)) | (with_reducible refine ite_of (fun _ => ?_) (fun _ => ?_)))
    exact tB2_any hs hT5 hU5 hF
  · rw [if_neg hc, if_neg hc]
    (repeat' first | (simp only [RA, MI, S.dst, Nat.reduceAdd, Nat.reduceMul, Nat.reduceEqDiff, ↓reduceIte, reduceCtorEq, ne_eq, Nat.reduceLT, Nat.reduceLeDiff, gt_iff_lt, ge_iff_le, Int.reduceToNat, Nat.reduceSub, Int.reduceEq, Int.reduceLT, Int.reduceLE, not_true_eq_false, x4.down, tB1, btE, tup_10, List.take_length, ba_nil, ba_size, ba_list, ba_ext, ba_add, true_and, at_z, at_s, putc1, putc4, List.setIfInBounds_toArray, List.set_cons_zero, List.set_cons_succ, List.size_toArray, List.length_cons, List.length_nil, List.toList_toArray, zEd, beq_self_eq_true, decide_true, decide_false]) | ((with_reducible first | apply ld_r | apply ldN_a | apply ldN_r | apply st_r | apply stN_a); (exact X.rws)) | ((with_reducible first | apply bound_of | apply wr_i64 | apply wr_u8 | apply wr_u64 | apply wr_i32 | apply wr_i16 | apply wr_u32 | apply wr_u16); (exact X.om); (exact X.om)) | ((with_reducible first | apply ints_at | apply le_andI | apply le_andN | apply ne_andI); (exact X.om)) | ((with_reducible first | apply same_and | apply same_andW); (exact X.olz)) | (with_reducible refine ite_of (fun _ => ?_) (fun _ => ?_)))
    refine calls_mono (Clean_any w3 e ok) ?_
    rintro _ w4 ⟨rfl, hF4⟩
    simp only [hc, decide_false]
    (repeat' first | (simp only [RA, MI, S.dst, Nat.reduceAdd, Nat.reduceMul, Nat.reduceEqDiff, ↓reduceIte, reduceCtorEq, ne_eq, Nat.reduceLT, Nat.reduceLeDiff, gt_iff_lt, ge_iff_le, Int.reduceToNat, Nat.reduceSub, Int.reduceEq, Int.reduceLT, Int.reduceLE, not_true_eq_false, x4.down, tB1, btE, tup_10, List.take_length, ba_nil, ba_size, ba_list, ba_ext, ba_add, true_and, at_z, at_s, putc1, putc4, List.setIfInBounds_toArray, List.set_cons_zero, List.set_cons_succ, List.size_toArray, List.length_cons, List.length_nil, List.toList_toArray, zEd, beq_self_eq_true, decide_true, decide_false]) | ((with_reducible first | apply ld_r | apply ldN_a | apply ldN_r | apply st_r | apply stN_a); (exact X.rws)) | ((with_reducible first | apply bound_of | apply wr_i64 | apply wr_u8 | apply wr_u64 | apply wr_i32 | apply wr_i16 | apply wr_u32 | apply wr_u16); (exact X.om); (exact X.om)) | ((with_reducible first | apply ints_at | apply le_andI | apply le_andN | apply ne_andI); (exact X.om)) | ((with_reducible first | apply same_and | apply same_andW); (exact X.olz)) | (with_reducible refine ite_of (fun _ => ?_) (fun _ => ?_)))
    exact tB2_any hs (hT3.fr hF4 fun h => h) (hU3.fr hF4 (fun h => h) fun h => h) (hF.and hF4)

theorem EditBack_any (w : World) (e : Ed) (s : List UInt8) (ok : EdOk e) (hT : TN w) (hU : UT w) : Calls Tryd.prog 4 [.agg (edC e), .string (ba s)].toArray w (bkP w) := by
  refine enter4 (by simp) ?_
  have hA : Row (w.alloc (Obj.cells (edC e) 23)) w.heap.size (edC e) := Row.new _ _ _
  have hF : Fr X.no w (w.alloc (Obj.cells (edC e) 23)) := by (exact X.frz)
  have e6 : (edC e).size = 6 := rfl
  (repeat' first | (simp only [RA, MI, S.dst, Nat.reduceAdd, Nat.reduceMul, Nat.reduceEqDiff, ↓reduceIte, reduceCtorEq, ne_eq, Nat.reduceLT, Nat.reduceLeDiff, gt_iff_lt, ge_iff_le, Int.reduceToNat, Nat.reduceSub, Int.reduceEq, Int.reduceLT, Int.reduceLE, not_true_eq_false, x4.down, cBack_eq, btE, tup_10, List.take_length, ba_nil, ba_size, ba_list, ba_ext, ba_add, true_and, at_z, at_s, putc1, putc4, List.setIfInBounds_toArray, List.set_cons_zero, List.set_cons_succ, List.size_toArray, List.length_cons, List.length_nil, List.toList_toArray]) | ((with_reducible first | apply ld_r | apply ldN_a | apply ldN_r | apply st_r | apply stN_a); (exact X.rws)) | ((with_reducible first | apply bound_of | apply wr_i64 | apply wr_u8 | apply wr_u64 | apply wr_i32 | apply wr_i16 | apply wr_u32 | apply wr_u16); (exact X.om); (exact X.om)) | ((with_reducible first | apply ints_at | apply le_andI | apply le_andN | apply ne_andI); (exact X.om)) | ((with_reducible first | apply same_and | apply same_andW); (exact X.olz)) | (with_reducible refine ite_of (fun _ => ?_) (fun _ => ?_)))
  generalize World.alloc w _ = w1 at *
  have hT1 := hT.fr hF fun h => h
  have hU1 := hU.fr hF (fun h => h) fun h => h
  refine calls_mono (awake_any _ hT1) ?_
  rintro _ w2 ⟨rfl, hF2⟩
  replace hF := hF.and hF2
  replace hA := hA.fr hF2 fun h => h
  have hT2 := hT1.fr hF2 fun h => h
  have hU2 := hU1.fr hF2 (fun h => h) fun h => h
  clear hF2 hT1 hU1 w1
  unfold edC at hA
  (repeat' first | (simp only [RA, MI, S.dst, Nat.reduceAdd, Nat.reduceMul, Nat.reduceEqDiff, ↓reduceIte, reduceCtorEq, ne_eq, Nat.reduceLT, Nat.reduceLeDiff, gt_iff_lt, ge_iff_le, Int.reduceToNat, Nat.reduceSub, Int.reduceEq, Int.reduceLT, Int.reduceLE, not_true_eq_false, x4.down, cBack_eq, btE, tup_10, List.take_length, ba_nil, ba_size, ba_list, ba_ext, ba_add, true_and, at_z, at_s, putc1, putc4, List.setIfInBounds_toArray, List.set_cons_zero, List.set_cons_succ, List.size_toArray, List.length_cons, List.length_nil, List.toList_toArray]) | ((with_reducible first | apply ld_r | apply ldN_a | apply ldN_r | apply st_r | apply stN_a); (exact X.rws)) | ((with_reducible first | apply bound_of | apply wr_i64 | apply wr_u8 | apply wr_u64 | apply wr_i32 | apply wr_i16 | apply wr_u32 | apply wr_u16); (exact X.om); (exact X.om)) | ((with_reducible first | apply ints_at | apply le_andI | apply le_andN | apply ne_andI); (exact X.om)) | ((with_reducible first | apply same_and | apply same_andW); (exact X.olz)) | (with_reducible refine ite_of (fun _ => ?_) (fun _ => ?_)))
  · refine calls_mono (awake_any _ hT2) ?_
    rintro _ w3 ⟨rfl, hF3⟩
    (repeat' first | (simp only [RA, MI, S.dst, Nat.reduceAdd, Nat.reduceMul, Nat.reduceEqDiff, ↓reduceIte, reduceCtorEq, ne_eq, Nat.reduceLT, Nat.reduceLeDiff, gt_iff_lt, ge_iff_le, Int.reduceToNat, Nat.reduceSub, Int.reduceEq, Int.reduceLT, Int.reduceLE, not_true_eq_false, x4.down, cBack_eq, btE, tup_10, List.take_length, ba_nil, ba_size, ba_list, ba_ext, ba_add, true_and, at_z, at_s, putc1, putc4, List.setIfInBounds_toArray, List.set_cons_zero, List.set_cons_succ, List.size_toArray, List.length_cons, List.length_nil, List.toList_toArray]) | ((with_reducible first | apply ld_r | apply ldN_a | apply ldN_r | apply st_r | apply stN_a); (exact X.rws)) | ((with_reducible first | apply bound_of | apply wr_i64 | apply wr_u8 | apply wr_u64 | apply wr_i32 | apply wr_i16 | apply wr_u32 | apply wr_u16); (exact X.om); (exact X.om)) | ((with_reducible first | apply ints_at | apply le_andI | apply le_andN | apply ne_andI); (exact X.om)) | ((with_reducible first | apply same_and | apply same_andW); (exact X.olz)) | (with_reducible refine ite_of (fun _ => ?_) (fun _ => ?_)))
    exact ⟨rfl, hF.and hF3⟩
  · exact tB1_any ok (by omega) (by omega) hT2 hU2 hF hA (Nat.le_refl _)
  · refine calls_mono (awake_any _ hT2) ?_
    rintro _ w3 ⟨rfl, hF3⟩
    (repeat' first | (simp only [RA, MI, S.dst, Nat.reduceAdd, Nat.reduceMul, Nat.reduceEqDiff, ↓reduceIte, reduceCtorEq, ne_eq, Nat.reduceLT, Nat.reduceLeDiff, gt_iff_lt, ge_iff_le, Int.reduceToNat, Nat.reduceSub, Int.reduceEq, Int.reduceLT, Int.reduceLE, not_true_eq_false, x4.down, cBack_eq, btE, tup_10, List.take_length, ba_nil, ba_size, ba_list, ba_ext, ba_add, true_and, at_z, at_s, putc1, putc4, List.setIfInBounds_toArray, List.set_cons_zero, List.set_cons_succ, List.size_toArray, List.length_cons, List.length_nil, List.toList_toArray]) | ((with_reducible first | apply ld_r | apply ldN_a | apply ldN_r | apply st_r | apply stN_a); (exact X.rws)) | ((with_reducible first | apply bound_of | apply wr_i64 | apply wr_u8 | apply wr_u64 | apply wr_i32 | apply wr_i16 | apply wr_u32 | apply wr_u16); (exact X.om); (exact X.om)) | ((with_reducible first | apply ints_at | apply le_andI | apply le_andN | apply ne_andI); (exact X.om)) | ((with_reducible first | apply same_and | apply same_andW); (exact X.olz)) | (with_reducible refine ite_of (fun _ => ?_) (fun _ => ?_)))
    exact ⟨rfl, hF.and hF3⟩
end Go.Proofs.YtgibicifflfpfaaDoor
