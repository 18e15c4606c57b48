/-
  Two texts, byte by byte; a turn's number; a text's beginning: walked. Conditions: none.
-/
import Derived.Test.YtgibicifflfpfaaDoorE12
set_option autoImplicit false
set_option linter.unusedSimpArgs false
set_option linter.unusedVariables false
namespace Go.Proofs.YtgibicifflfpfaaDoor
open X
set_option maxRecDepth 10000
set_option maxHeartbeats 1000000

/-- A text of ASCII alone. -/
def Asc (l : List UInt8) : Prop := ∀ b ∈ l, b.toNat < 128
theorem ba_get (l : List UInt8) (i : Nat) : ((ba l).get! i).toNat = bt l i := by
  have e : (ba l).get! i = l.getD i 0 := by
    show (ba l).data[i]! = _
    rcases Nat.lt_or_ge i l.length with h | h
    · simp [ba, List.getD_eq_getElem?_getD, h]
    · rw [List.getD_eq_getElem?_getD, List.getElem?_eq_none h, getElem!_neg _ _ (by simpa [ba] using h)]; rfl
  rw [e]; rfl
/-- What is decoded at a place. -/
theorem dec_dn (l : List UInt8) (i : Nat) : Utf8.decode (ba l) i = dn (l.drop i) := by
  rw [Lib.decode_at, ba_get, ba_get, ba_get, ba_get, ba_size]
  unfold dn
  rw [bt_drop, bt_drop, bt_drop, bt_drop, List.length_drop]; rfl
theorem dn_asc {l : List UInt8} (h : bt l 0 < 128) : dn l = (bt l 0, 1) := by
  unfold dn Lib.decodeN; rw [if_pos h]
theorem dn_big {l : List UInt8} (h : ¬ bt l 0 < 128) : 128 ≤ (dn l).1 := by
  rcases Nat.lt_or_ge (dn l).1 128 with h1 | h1
  · have := dn_small h1; omega
  · exact h1
theorem dn_le (l : List UInt8) : (dn l).1 ≤ 1114111 := by
  have b0 := bt_lt l 0
  unfold dn Lib.decodeN
  repeat' split
  all_goals (simp only; omega)
theorem dec_asc {l : List UInt8} (h : Asc l) {i : Nat} (hi : i < l.length) : Utf8.decode (ba l) i = (bt l i, 1) := by
  have h2 : bt l i < 128 := by
    unfold bt; rw [List.getD_eq_getElem?_getD, List.getElem?_eq_getElem hi]; exact h _ (List.getElem_mem _)
  have e : bt (l.drop i) 0 = bt l i := bt_drop l i 0
  rw [dec_dn, dn_asc (by omega), e]
theorem lcp_take (a b : List UInt8) : lcp a b = b.length ↔ a.take b.length = b := by
  induction b generalizing a with
  | nil => cases a <;> simp [lcp]
  | cons y b ih =>
    cases a with
    | nil => simp [lcp]
    | cons x a =>
      simp only [lcp, List.length_cons, List.take_succ_cons, List.cons.injEq]
      by_cases h : x = y
      · simp only [h, if_true, true_and, ← ih a]; omega
      · simp [h]
theorem same_any (w : World) (a b : List UInt8) (ha : Asc a) (hla : a.length < 1000000) (hlb : b.length < 1000000000000) : Calls Tryd.prog 46 [.string (ba a), .string (ba b)].toArray w fun r w' => r = .returned (.bool (decide (a = b))) ∧ Fr no w w' := by
  refine enter46 (by simp) ?_
  (repeat' first | (simp only [RA, MI, S.dst, Nat.reduceAdd, Nat.reduceMul, Nat.reduceEqDiff, ↓reduceIte, reduceCtorEq, ne_eq, Nat.reduceLT, Nat.reduceLeDiff, gt_iff_lt, ge_iff_le, Int.reduceToNat, Nat.reduceSub, Int.reduceEq, Int.reduceLT, Int.reduceLE, not_true_eq_false, c46, x46.down, btE, tup_10, List.take_length, ba_nil, ba_size, ba_list, ba_ext, ba_add, true_and, at_z, at_s, putc1, putc4, List.setIfInBounds_toArray, List.set_cons_zero, List.set_cons_succ, List.size_toArray, List.length_cons, List.length_nil, List.toList_toArray]) | ((with_reducible first | apply ld_r | apply ldN_a | apply ldN_r | apply st_r | apply stN_a); (exact X.rws)) | ((with_reducible first | apply bound_of | apply wr_i64 | apply wr_u8 | apply wr_u64 | apply wr_i32 | apply wr_i16 | apply wr_u32 | apply wr_u16); (exact X.om); (exact X.om)) | ((with_reducible first | apply ints_at | apply le_andI | apply le_andN | apply ne_andI); (exact X.om)) | ((with_reducible first | apply same_and | apply same_andW); (exact X.olz)) | (with_reducible refine ite_of (fun _ => ?_) (fun _ => ?_)))
  · rename_i h
    exact ⟨by rw [decide_eq_false (fun e => h (by rw [e]))], Fr.refl _ _⟩
  rename_i hl
  refine loop_ofx (σ := Nat) (fun i => [(1, .string (ba b)), (13, .pointer (some ⟨w.heap.size, 0, none⟩))])
    (fun i w' => i ≤ a.length ∧ w'.heap[w.heap.size]? = some (.stringIter (ba a) i) ∧ Fr no w w' ∧ a.take i = b.take i) (fun i => a.length - i) 0 [] rfl ⟨Nat.zero_le _, heap_alloc_new w _, by (exact X.frz), rfl⟩ ?_
  rintro i x w1 ⟨hi, hit, hF, he⟩
  (repeat' first | (simp only [RA, MI, S.dst, Nat.reduceAdd, Nat.reduceMul, Nat.reduceEqDiff, ↓reduceIte, reduceCtorEq, ne_eq, Nat.reduceLT, Nat.reduceLeDiff, gt_iff_lt, ge_iff_le, Int.reduceToNat, Nat.reduceSub, Int.reduceEq, Int.reduceLT, Int.reduceLE, not_true_eq_false, c46, x46.down, btE, tup_10, List.take_length, ba_nil, ba_size, ba_list, ba_ext, ba_add, true_and, at_z, at_s, putc1, putc4, List.setIfInBounds_toArray, List.set_cons_zero, List.set_cons_succ, List.size_toArray, List.length_cons, List.length_nil, List.toList_toArray]) | ((with_reducible first | apply ld_r | apply ldN_a | apply ldN_r | apply st_r | apply stN_a); (exact X.rws)) | ((with_reducible first | apply bound_of | apply wr_i64 | apply wr_u8 | apply wr_u64 | apply wr_i32 | apply wr_i16 | apply wr_u32 | apply wr_u16); (exact X.om); (exact X.om)) | ((with_reducible first | apply ints_at | apply le_andI | apply le_andN | apply ne_andI); (exact X.om)) | ((with_reducible first | apply same_and | apply same_andW); (exact X.olz)) | (with_reducible refine ite_of (fun _ => ?_) (fun _ => ?_)))
  refine nxt_of hit (fun hp => ?_) (fun hp => ?_)
  · rw [ba_size] at hp
    rw [dec_asc ha hp]
    have b1 := bt_lt a i
    have b2 := bt_lt b i
    simp only
    (repeat' first | (simp only [RA, MI, S.dst, Nat.reduceAdd, Nat.reduceMul, Nat.reduceEqDiff, ↓reduceIte, reduceCtorEq, ne_eq, Nat.reduceLT, Nat.reduceLeDiff, gt_iff_lt, ge_iff_le, Int.reduceToNat, Nat.reduceSub, Int.reduceEq, Int.reduceLT, Int.reduceLE, not_true_eq_false, c46, x46.down, btE, tup_10, List.take_length, ba_nil, ba_size, ba_list, ba_ext, ba_add, true_and, at_z, at_s, putc1, putc4, List.setIfInBounds_toArray, List.set_cons_zero, List.set_cons_succ, List.size_toArray, List.length_cons, List.length_nil, List.toList_toArray]) | ((with_reducible first | apply ld_r | apply ldN_a | apply ldN_r | apply st_r | apply stN_a); (exact X.rws)) | ((with_reducible first | apply bound_of | apply wr_i64 | apply wr_u8 | apply wr_u64 | apply wr_i32 | apply wr_i16 | apply wr_u32 | apply wr_u16); (exact X.om); (exact X.om)) | ((with_reducible first | apply ints_at | apply le_andI | apply le_andN | apply ne_andI); (exact X.om)) | ((with_reducible first | apply same_and | apply same_andW); (exact X.olz)) | (with_reducible refine ite_of (fun _ => ?_) (fun _ => ?_)))
    · rename_i hne
      refine ⟨?_, hF.iterAt _ _ _ fun h => by omega⟩
      rw [decide_eq_false (fun e => hne (by rw [e]))]
    · rename_i heq
      refine ⟨i + 1, ⟨[_], rfl⟩, ⟨by omega, iterAt_same hit, hF.iterAt _ _ _ fun h => by omega, ?_⟩, by omega⟩
      rw [take_bt hp, take_bt (by omega), he, show bt a i = bt b i by omega]
  · rw [ba_size] at hp
    (repeat' first | (simp only [RA, MI, S.dst, Nat.reduceAdd, Nat.reduceMul, Nat.reduceEqDiff, ↓reduceIte, reduceCtorEq, ne_eq, Nat.reduceLT, Nat.reduceLeDiff, gt_iff_lt, ge_iff_le, Int.reduceToNat, Nat.reduceSub, Int.reduceEq, Int.reduceLT, Int.reduceLE, not_true_eq_false, c46, x46.down, btE, tup_10, List.take_length, ba_nil, ba_size, ba_list, ba_ext, ba_add, true_and, at_z, at_s, putc1, putc4, List.setIfInBounds_toArray, List.set_cons_zero, List.set_cons_succ, List.size_toArray, List.length_cons, List.length_nil, List.toList_toArray]) | ((with_reducible first | apply ld_r | apply ldN_a | apply ldN_r | apply st_r | apply stN_a); (exact X.rws)) | ((with_reducible first | apply bound_of | apply wr_i64 | apply wr_u8 | apply wr_u64 | apply wr_i32 | apply wr_i16 | apply wr_u32 | apply wr_u16); (exact X.om); (exact X.om)) | ((with_reducible first | apply ints_at | apply le_andI | apply le_andN | apply ne_andI); (exact X.om)) | ((with_reducible first | apply same_and | apply same_andW); (exact X.olz)) | (with_reducible refine ite_of (fun _ => ?_) (fun _ => ?_)))
    refine ⟨?_, hF⟩
    rw [List.take_of_length_le hp, List.take_of_length_le (by omega)] at he
    rw [decide_eq_true he]
theorem HasPrefix_any (w : World) (a b : List UInt8) : Calls Tryd.prog 49 [.string (ba a), .string (ba b)].toArray w fun r w' => r = .returned (.bool (decide (lcp a b = b.length))) ∧ w' = w := by
  refine enter49 (by simp) ?_
  (repeat' first | (simp only [RA, MI, S.dst, Nat.reduceAdd, Nat.reduceMul, Nat.reduceEqDiff, ↓reduceIte, reduceCtorEq, ne_eq, Nat.reduceLT, Nat.reduceLeDiff, gt_iff_lt, ge_iff_le, Int.reduceToNat, Nat.reduceSub, Int.reduceEq, Int.reduceLT, Int.reduceLE, not_true_eq_false, c45, x45.down, c49, x49.down, btE, tup_10, List.take_length, ba_nil, ba_size, ba_list, ba_ext, ba_add, true_and, at_z, at_s, putc1, putc4, List.setIfInBounds_toArray, List.set_cons_zero, List.set_cons_succ, List.size_toArray, List.length_cons, List.length_nil, List.toList_toArray]) | ((with_reducible first | apply ld_r | apply ldN_a | apply ldN_r | apply st_r | apply stN_a); (exact X.rws)) | ((with_reducible first | apply bound_of | apply wr_i64 | apply wr_u8 | apply wr_u64 | apply wr_i32 | apply wr_i16 | apply wr_u32 | apply wr_u16); (exact X.om); (exact X.om)) | ((with_reducible first | apply ints_at | apply le_andI | apply le_andN | apply ne_andI); (exact X.om)) | ((with_reducible first | apply same_and | apply same_andW); (exact X.olz)) | (with_reducible refine ite_of (fun _ => ?_) (fun _ => ?_)))
  all_goals refine ⟨?_, trivial⟩
  · rw [ba_eq, decide_eq_decide.2 (lcp_take a b).symm]
  · have := lcp_le a b
    rw [decide_eq_false (by omega)]
theorem strHasPrefix_any (w : World) (a b : List UInt8) : Calls Tryd.prog 45 [.string (ba a), .string (ba b)].toArray w fun r w' => r = .returned (.bool (decide (lcp a b = b.length))) ∧ w' = w := by
  refine enter45 (by simp) ?_
  (repeat' first | (simp only [RA, MI, S.dst, Nat.reduceAdd, Nat.reduceMul, Nat.reduceEqDiff, ↓reduceIte, reduceCtorEq, ne_eq, Nat.reduceLT, Nat.reduceLeDiff, gt_iff_lt, ge_iff_le, Int.reduceToNat, Nat.reduceSub, Int.reduceEq, Int.reduceLT, Int.reduceLE, not_true_eq_false, c45, x45.down, c49, x49.down, btE, tup_10, List.take_length, ba_nil, ba_size, ba_list, ba_ext, ba_add, true_and, at_z, at_s, putc1, putc4, List.setIfInBounds_toArray, List.set_cons_zero, List.set_cons_succ, List.size_toArray, List.length_cons, List.length_nil, List.toList_toArray]) | ((with_reducible first | apply ld_r | apply ldN_a | apply ldN_r | apply st_r | apply stN_a); (exact X.rws)) | ((with_reducible first | apply bound_of | apply wr_i64 | apply wr_u8 | apply wr_u64 | apply wr_i32 | apply wr_i16 | apply wr_u32 | apply wr_u16); (exact X.om); (exact X.om)) | ((with_reducible first | apply ints_at | apply le_andI | apply le_andN | apply ne_andI); (exact X.om)) | ((with_reducible first | apply same_and | apply same_andW); (exact X.olz)) | (with_reducible refine ite_of (fun _ => ?_) (fun _ => ?_)))
  refine calls_mono (HasPrefix_any w a b) ?_
  rintro _ _ ⟨rfl, rfl⟩
  (repeat' first | (simp only [RA, MI, S.dst, Nat.reduceAdd, Nat.reduceMul, Nat.reduceEqDiff, ↓reduceIte, reduceCtorEq, ne_eq, Nat.reduceLT, Nat.reduceLeDiff, gt_iff_lt, ge_iff_le, Int.reduceToNat, Nat.reduceSub, Int.reduceEq, Int.reduceLT, Int.reduceLE, not_true_eq_false, c45, x45.down, c49, x49.down, btE, tup_10, List.take_length, ba_nil, ba_size, ba_list, ba_ext, ba_add, true_and, at_z, at_s, putc1, putc4, List.setIfInBounds_toArray, List.set_cons_zero, List.set_cons_succ, List.size_toArray, List.length_cons, List.length_nil, List.toList_toArray]) | ((with_reducible first | apply ld_r | apply ldN_a | apply ldN_r | apply st_r | apply stN_a); (exact X.rws)) | ((with_reducible first | apply bound_of | apply wr_i64 | apply wr_u8 | apply wr_u64 | apply wr_i32 | apply wr_i16 | apply wr_u32 | apply wr_u16); (exact X.om); (exact X.om)) | ((with_reducible first | apply ints_at | apply le_andI | apply le_andN | apply ne_andI); (exact X.om)) | ((with_reducible first | apply same_and | apply same_andW); (exact X.olz)) | (with_reducible refine ite_of (fun _ => ?_) (fun _ => ?_)))
end Go.Proofs.YtgibicifflfpfaaDoor
