/-
  A text, quoted; an edit, printed: walked. Conditions: none.
-/
import Derived.Test.YtgibicifflfpfaaDoorE26
import Derived.Test.YtgibicifflfpfaaDoorE13
import Derived.Test.YtgibicifflfpfaaDoorE14
set_option autoImplicit false
set_option linter.unusedSimpArgs false
set_option linter.unusedVariables false
namespace Go.Proofs.YtgibicifflfpfaaDoor
open X
set_option maxRecDepth 10000
set_option maxHeartbeats 1000000

theorem quoR_le {r : Nat} (h : r ≤ 1114111) : (quoR r).length ≤ 11 := by
  have := hexK_len 7 1 r (by omega) (by omega)
  unfold quoR
  repeat' split
  all_goals simp
  omega
theorem piece_le (l : List UInt8) : (piece l).length ≤ 11 := by
  unfold piece
  split
  · have := hexK_len 7 2 (bt l 0) (by have := bt_lt l 0; omega) (by omega)
    simp; omega
  · exact quoR_le (dn_le l)
theorem dn_wd {l : List UInt8} (hl : l ≠ []) : (dn l).2 ≤ l.length := by
  by_cases h : brk l
  · rw [h.2]; exact Nat.pos_of_ne_zero fun h2 => hl (List.eq_nil_of_length_eq_zero h2)
  · exact (dn_bytes hl h).2.2
theorem ba_34 : ({ data := #[34] } : ByteArray) = ba [34] := (rfl)
theorem ba_x : ({ data := #[92, 120] } : ByteArray) = ba [92, 120] := (rfl)
theorem Quote_any (w : World) (s : List UInt8) (hs : s.length < 100000000000) (hU : UT w) : Calls Tryd.prog 20 [.string (ba s)].toArray w fun r w' => r = .returned (.string (ba (quo s))) ∧ Fr no w w' := by
  refine enter20 (by simp) ?_
  (repeat' first | (simp only [RA, MI, S.dst, Nat.reduceAdd, Nat.reduceMul, Nat.reduceEqDiff, ↓reduceIte, reduceCtorEq, ne_eq, Nat.reduceLT, Nat.reduceLeDiff, gt_iff_lt, ge_iff_le, Int.reduceToNat, Nat.reduceSub, Int.reduceEq, Int.reduceLT, Int.reduceLE, not_true_eq_false, c20, x20.down, btE, tup_10, List.take_length, ba_nil, ba_size, ba_list, ba_ext, ba_add, true_and, at_z, at_s, putc1, putc4, List.setIfInBounds_toArray, List.set_cons_zero, List.set_cons_succ, List.size_toArray, List.length_cons, List.length_nil, List.toList_toArray, ba_34, ba_x]) | ((with_reducible first | apply ld_r | apply ldN_a | apply ldN_r | apply st_r | apply stN_a); (exact X.rws)) | ((with_reducible first | apply bound_of | apply wr_i64 | apply wr_u8 | apply wr_u64 | apply wr_i32 | apply wr_i16 | apply wr_u32 | apply wr_u16); (exact X.om); (exact X.om)) | ((with_reducible first | apply ints_at | apply le_andI | apply le_andN | apply ne_andI); (exact X.om)) | ((with_reducible first | apply same_and | apply same_andW); (exact X.olz)) | (with_reducible refine ite_of (fun _ => ?_) (fun _ => ?_)))
  refine loop_ofx (σ := Nat × List UInt8) (fun k => [(0, .string (ba s)), (3, .string (ba k.2)), (7, .pointer (some ⟨w.heap.size, 0, none⟩))])
    (fun k w' => k.1 ≤ s.length ∧ w'.heap[w.heap.size]? = some (.stringIter (ba s) k.1) ∧ Fr no w w' ∧ k.2.length ≤ 1 + 11 * k.1 ∧ k.2 ++ quoB (s.drop k.1) = 34 :: quoB s) (fun k => s.length - k.1) (0, [34]) [] rfl ⟨Nat.zero_le _, heap_alloc_new w _, by (exact X.frz), by simp, rfl⟩ ?_
  rintro ⟨i, out⟩ x w1 ⟨hi, hit, hF, hl, he⟩
  simp only at hi hit hl he
  have hz := hF.size
  (repeat' first | (simp only [RA, MI, S.dst, Nat.reduceAdd, Nat.reduceMul, Nat.reduceEqDiff, ↓reduceIte, reduceCtorEq, ne_eq, Nat.reduceLT, Nat.reduceLeDiff, gt_iff_lt, ge_iff_le, Int.reduceToNat, Nat.reduceSub, Int.reduceEq, Int.reduceLT, Int.reduceLE, not_true_eq_false, c20, x20.down, btE, tup_10, List.take_length, ba_nil, ba_size, ba_list, ba_ext, ba_add, true_and, at_z, at_s, putc1, putc4, List.setIfInBounds_toArray, List.set_cons_zero, List.set_cons_succ, List.size_toArray, List.length_cons, List.length_nil, List.toList_toArray, ba_34, ba_x]) | ((with_reducible first | apply ld_r | apply ldN_a | apply ldN_r | apply st_r | apply stN_a); (exact X.rws)) | ((with_reducible first | apply bound_of | apply wr_i64 | apply wr_u8 | apply wr_u64 | apply wr_i32 | apply wr_i16 | apply wr_u32 | apply wr_u16); (exact X.om); (exact X.om)) | ((with_reducible first | apply ints_at | apply le_andI | apply le_andN | apply ne_andI); (exact X.om)) | ((with_reducible first | apply same_and | apply same_andW); (exact X.olz)) | (with_reducible refine ite_of (fun _ => ?_) (fun _ => ?_)))
  refine nxt_of hit (fun hp => ?_) (fun hp => ?_)
  · rw [ba_size] at hp
    rw [dec_dn]
    have hit2 := iterAt_same (s := ba s) (p := i + (dn (s.drop i)).2) hit
    have hF2 := hF.iterAt w.heap.size (ba s) (i + (dn (s.drop i)).2) fun h => absurd h (by omega)
    generalize w1.iterAt _ _ _ = w2 at *
    have hne : s.drop i ≠ [] := fun h => by have := congrArg List.length h; simp at this; omega
    have hwd := dn_wd hne
    have hps := dn_pos (s.drop i)
    rw [List.length_drop] at hwd
    rw [quoB_cons hne, List.drop_drop, ← List.append_assoc] at he
    have hpl := piece_le (s.drop i)
    have hb0 : bt (s.drop i) 0 = bt s i := bt_drop s i 0
    have hb := bt_lt s i
    (repeat' first | (simp only [RA, MI, S.dst, Nat.reduceAdd, Nat.reduceMul, Nat.reduceEqDiff, ↓reduceIte, reduceCtorEq, ne_eq, Nat.reduceLT, Nat.reduceLeDiff, gt_iff_lt, ge_iff_le, Int.reduceToNat, Nat.reduceSub, Int.reduceEq, Int.reduceLT, Int.reduceLE, not_true_eq_false, c20, x20.down, btE, tup_10, List.take_length, ba_nil, ba_size, ba_list, ba_ext, ba_add, true_and, at_z, at_s, putc1, putc4, List.setIfInBounds_toArray, List.set_cons_zero, List.set_cons_succ, List.size_toArray, List.length_cons, List.length_nil, List.toList_toArray, ba_34, ba_x]) | ((with_reducible first | apply ld_r | apply ldN_a | apply ldN_r | apply st_r | apply stN_a); (exact X.rws)) | ((with_reducible first | apply bound_of | apply wr_i64 | apply wr_u8 | apply wr_u64 | apply wr_i32 | apply wr_i16 | apply wr_u32 | apply wr_u16); (exact X.om); (exact X.om)) | ((with_reducible first | apply ints_at | apply le_andI | apply le_andN | apply ne_andI); (exact X.om)) | ((with_reducible first | apply same_and | apply same_andW); (exact X.olz)) | (with_reducible refine ite_of (fun _ => ?_) (fun _ => ?_)))
    refine calls_mono (broken_any w2 s i hp (hU.fr hF2 (fun h => h) (fun h => h))) ?_
    rintro _ w3 ⟨rfl, hF3⟩
    have hz2 := hF2.size
    have hit3 : w3.heap[w.heap.size]? = some (.stringIter (ba s) (i + (dn (s.drop i)).2)) := by
      rw [← hit2]; exact hF3.block _ (Array.getElem?_eq_some_iff.1 hit2).1 fun h => h
    by_cases hbr : brk (s.drop i)
    · simp only [hbr, decide_true]
      have hpc : piece (s.drop i) = [92, 120] ++ hexK 2 (bt s i) := by rw [piece, if_pos hbr, hb0]
      rw [hpc] at he hpl
      (repeat' first | (simp only [RA, MI, S.dst, Nat.reduceAdd, Nat.reduceMul, Nat.reduceEqDiff, ↓reduceIte, reduceCtorEq, ne_eq, Nat.reduceLT, Nat.reduceLeDiff, gt_iff_lt, ge_iff_le, Int.reduceToNat, Nat.reduceSub, Int.reduceEq, Int.reduceLT, Int.reduceLE, not_true_eq_false, c20, x20.down, btE, tup_10, List.take_length, ba_nil, ba_size, ba_list, ba_ext, ba_add, true_and, at_z, at_s, putc1, putc4, List.setIfInBounds_toArray, List.set_cons_zero, List.set_cons_succ, List.size_toArray, List.length_cons, List.length_nil, List.toList_toArray, ba_34, ba_x]) | ((with_reducible first | apply ld_r | apply ldN_a | apply ldN_r | apply st_r | apply stN_a); (exact X.rws)) | ((with_reducible first | apply bound_of | apply wr_i64 | apply wr_u8 | apply wr_u64 | apply wr_i32 | apply wr_i16 | apply wr_u32 | apply wr_u16); (exact X.om); (exact X.om)) | ((with_reducible first | apply ints_at | apply le_andI | apply le_andN | apply ne_andI); (exact X.om)) | ((with_reducible first | apply same_and | apply same_andW); (exact X.olz)) | (with_reducible refine ite_of (fun _ => ?_) (fun _ => ?_)))
      refine calls_mono (hex_any w3 (bt s i) 2 (by omega) (by omega)) ?_
      rintro _ w4 ⟨rfl, hw4⟩
      rw [hw4]; clear hw4 w4
      (repeat' first | (simp only [RA, MI, S.dst, Nat.reduceAdd, Nat.reduceMul, Nat.reduceEqDiff, ↓reduceIte, reduceCtorEq, ne_eq, Nat.reduceLT, Nat.reduceLeDiff, gt_iff_lt, ge_iff_le, Int.reduceToNat, Nat.reduceSub, Int.reduceEq, Int.reduceLT, Int.reduceLE, not_true_eq_false, c20, x20.down, btE, tup_10, List.take_length, ba_nil, ba_size, ba_list, ba_ext, ba_add, true_and, at_z, at_s, putc1, putc4, List.setIfInBounds_toArray, List.set_cons_zero, List.set_cons_succ, List.size_toArray, List.length_cons, List.length_nil, List.toList_toArray, ba_34, ba_x]) | ((with_reducible first | apply ld_r | apply ldN_a | apply ldN_r | apply st_r | apply stN_a); (exact X.rws)) | ((with_reducible first | apply bound_of | apply wr_i64 | apply wr_u8 | apply wr_u64 | apply wr_i32 | apply wr_i16 | apply wr_u32 | apply wr_u16); (exact X.om); (exact X.om)) | ((with_reducible first | apply ints_at | apply le_andI | apply le_andN | apply ne_andI); (exact X.om)) | ((with_reducible first | apply same_and | apply same_andW); (exact X.olz)) | (with_reducible refine ite_of (fun _ => ?_) (fun _ => ?_)))
      refine ⟨(i + (dn (s.drop i)).2, out ++ ([92, 120] ++ hexK 2 (bt s i))), ⟨[], rfl⟩, ⟨by simp only; omega, hit3, hF2.and hF3, ?_, he⟩, by simp only; omega⟩
      rw [List.length_append]; simp only at hpl ⊢; omega
    · simp only [hbr, decide_false]
      have hpc : piece (s.drop i) = quoR (dn (s.drop i)).1 := by rw [piece, if_neg hbr]
      rw [hpc] at he hpl
      (repeat' first | (simp only [RA, MI, S.dst, Nat.reduceAdd, Nat.reduceMul, Nat.reduceEqDiff, ↓reduceIte, reduceCtorEq, ne_eq, Nat.reduceLT, Nat.reduceLeDiff, gt_iff_lt, ge_iff_le, Int.reduceToNat, Nat.reduceSub, Int.reduceEq, Int.reduceLT, Int.reduceLE, not_true_eq_false, c20, x20.down, btE, tup_10, List.take_length, ba_nil, ba_size, ba_list, ba_ext, ba_add, true_and, at_z, at_s, putc1, putc4, List.setIfInBounds_toArray, List.set_cons_zero, List.set_cons_succ, List.size_toArray, List.length_cons, List.length_nil, List.toList_toArray, ba_34, ba_x]) | ((with_reducible first | apply ld_r | apply ldN_a | apply ldN_r | apply st_r | apply stN_a); (exact X.rws)) | ((with_reducible first | apply bound_of | apply wr_i64 | apply wr_u8 | apply wr_u64 | apply wr_i32 | apply wr_i16 | apply wr_u32 | apply wr_u16); (exact X.om); (exact X.om)) | ((with_reducible first | apply ints_at | apply le_andI | apply le_andN | apply ne_andI); (exact X.om)) | ((with_reducible first | apply same_and | apply same_andW); (exact X.olz)) | (with_reducible refine ite_of (fun _ => ?_) (fun _ => ?_)))
      refine calls_mono (gquoted_any w3 (dn (s.drop i)).1 (dn_le _)) ?_
      rintro _ w4 ⟨rfl, hw4⟩
      rw [hw4]; clear hw4 w4
      (repeat' first | (simp only [RA, MI, S.dst, Nat.reduceAdd, Nat.reduceMul, Nat.reduceEqDiff, ↓reduceIte, reduceCtorEq, ne_eq, Nat.reduceLT, Nat.reduceLeDiff, gt_iff_lt, ge_iff_le, Int.reduceToNat, Nat.reduceSub, Int.reduceEq, Int.reduceLT, Int.reduceLE, not_true_eq_false, c20, x20.down, btE, tup_10, List.take_length, ba_nil, ba_size, ba_list, ba_ext, ba_add, true_and, at_z, at_s, putc1, putc4, List.setIfInBounds_toArray, List.set_cons_zero, List.set_cons_succ, List.size_toArray, List.length_cons, List.length_nil, List.toList_toArray, ba_34, ba_x]) | ((with_reducible first | apply ld_r | apply ldN_a | apply ldN_r | apply st_r | apply stN_a); (exact X.rws)) | ((with_reducible first | apply bound_of | apply wr_i64 | apply wr_u8 | apply wr_u64 | apply wr_i32 | apply wr_i16 | apply wr_u32 | apply wr_u16); (exact X.om); (exact X.om)) | ((with_reducible first | apply ints_at | apply le_andI | apply le_andN | apply ne_andI); (exact X.om)) | ((with_reducible first | apply same_and | apply same_andW); (exact X.olz)) | (with_reducible refine ite_of (fun _ => ?_) (fun _ => ?_)))
      refine ⟨(i + (dn (s.drop i)).2, out ++ quoR (dn (s.drop i)).1), ⟨[], rfl⟩, ⟨by simp only; omega, hit3, hF2.and hF3, ?_, he⟩, by simp only; omega⟩
      rw [List.length_append]; simp only; omega
  · rw [ba_size] at hp
    (repeat' first | (simp only [RA, MI, S.dst, Nat.reduceAdd, Nat.reduceMul, Nat.reduceEqDiff, ↓reduceIte, reduceCtorEq, ne_eq, Nat.reduceLT, Nat.reduceLeDiff, gt_iff_lt, ge_iff_le, Int.reduceToNat, Nat.reduceSub, Int.reduceEq, Int.reduceLT, Int.reduceLE, not_true_eq_false, c20, x20.down, btE, tup_10, List.take_length, ba_nil, ba_size, ba_list, ba_ext, ba_add, true_and, at_z, at_s, putc1, putc4, List.setIfInBounds_toArray, List.set_cons_zero, List.set_cons_succ, List.size_toArray, List.length_cons, List.length_nil, List.toList_toArray, ba_34, ba_x]) | ((with_reducible first | apply ld_r | apply ldN_a | apply ldN_r | apply st_r | apply stN_a); (exact X.rws)) | ((with_reducible first | apply bound_of | apply wr_i64 | apply wr_u8 | apply wr_u64 | apply wr_i32 | apply wr_i16 | apply wr_u32 | apply wr_u16); (exact X.om); (exact X.om)) | ((with_reducible first | apply ints_at | apply le_andI | apply le_andN | apply ne_andI); (exact X.om)) | ((with_reducible first | apply same_and | apply same_andW); (exact X.olz)) | (with_reducible refine ite_of (fun _ => ?_) (fun _ => ?_)))
    refine ⟨?_, hF⟩
    rw [List.drop_of_length_le hp, quoB_nil, List.append_nil] at he
    rw [he]; rfl
theorem quoB_len (s : List UInt8) : (quoB s).length ≤ 11 * s.length := by
  induction hn : s.length using Nat.strongRecOn generalizing s with
  | _ n ih =>
    subst hn
    by_cases h : s = []
    · subst h; rw [quoB_nil]; simp
    · have hp := dn_pos s
      have h0 : s.length ≠ 0 := fun h2 => h (List.eq_nil_of_length_eq_zero h2)
      have h1 := ih (s.drop (dn s).2).length (by rw [List.length_drop]; omega) (s.drop (dn s).2) rfl
      have h2 := piece_le s
      rw [quoB_cons h, List.length_append]
      rw [List.length_drop] at h1; omega
theorem quo_len (s : List UInt8) : (quo s).length ≤ 11 * s.length + 2 := by
  have := quoB_len s
  unfold quo
  simp only [List.cons_append, List.length_cons, List.length_append, List.length_nil]; omega
theorem zI1 : zrep (zcells Tryd.prog 3) 1 = #[.int .i64 0] := by kernel_rfl
theorem zI2 : zrep (zcells Tryd.prog 3) 2 = #[.int .i64 0, .int .i64 0] := by kernel_rfl
theorem ba_turn5 : ({ data := #[116, 117, 114, 110, 32] } : ByteArray) = ba [116, 117, 114, 110, 32] := (rfl)
theorem ba_note5 : ({ data := #[110, 111, 116, 101, 32] } : ByteArray) = ba [110, 111, 116, 101, 32] := (rfl)
theorem ba_crop4 : ({ data := #[99, 114, 111, 112] } : ByteArray) = ba [99, 114, 111, 112] := (rfl)
theorem ba_redact6 : ({ data := #[114, 101, 100, 97, 99, 116] } : ByteArray) = ba [114, 101, 100, 97, 99, 116] := (rfl)
theorem ba_put3 : ({ data := #[112, 117, 116] } : ByteArray) = ba [112, 117, 116] := (rfl)
theorem ba_drop4 : ({ data := #[100, 114, 111, 112] } : ByteArray) = ba [100, 114, 111, 112] := (rfl)
theorem turnW_len : ∀ k, k < 8 → (turnW.getD k []).length < 10 := by decide
theorem Text_any (w : World) (e : Ed) (ok : EdOk e) (hb : e.body.length < 10000000000) (hT : TN w) (hU : UT w) : Calls Tryd.prog 12 [.agg (edC e)].toArray w fun r w' =>
    r = .returned (.tuple #[.string (ba (if cleanP e then texL e else [])), .int .i64 (if cleanP e then 0 else 1)]) ∧ Fr no w w' := by
  refine enter12 (by simp) ?_
  have hA : Row (w.alloc (Obj.cells (edC e) 23)) w.heap.size (edC e) := Row.new _ _ _
  have hF : Fr X.no w (w.alloc (Obj.cells (edC e) 23)) := by (exact X.frz)
  have e6 : (edC e).size = 6 := rfl
  (repeat' first | (simp only [RA, MI, S.dst, Nat.reduceAdd, Nat.reduceMul, Nat.reduceEqDiff, ↓reduceIte, reduceCtorEq, ne_eq, Nat.reduceLT, Nat.reduceLeDiff, gt_iff_lt, ge_iff_le, Int.reduceToNat, Nat.reduceSub, Int.reduceEq, Int.reduceLT, Int.reduceLE, not_true_eq_false, c12, x12.down, btE, tup_10, List.take_length, ba_nil, ba_size, ba_list, ba_ext, ba_add, true_and, at_z, at_s, putc1, putc4, List.setIfInBounds_toArray, List.set_cons_zero, List.set_cons_succ, List.size_toArray, List.length_cons, List.length_nil, List.toList_toArray, ba_32, ba_turn5, ba_note5, ba_crop4, ba_redact6, ba_put3, ba_drop4, zI1, zI2, zI4]) | ((with_reducible first | apply ld_r | apply ldN_a | apply ldN_r | apply st_r | apply stN_a); (exact X.rws)) | ((with_reducible first | apply bound_of | apply wr_i64 | apply wr_u8 | apply wr_u64 | apply wr_i32 | apply wr_i16 | apply wr_u32 | apply wr_u16); (exact X.om); (exact X.om)) | ((with_reducible first | apply ints_at | apply le_andI | apply le_andN | apply ne_andI); (exact X.om)) | ((with_reducible first | apply same_and | apply same_andW); (exact X.olz)) | (with_reducible refine ite_of (fun _ => ?_) (fun _ => ?_)))
  generalize World.alloc w _ = w1 at *
  (repeat' first | (simp only [RA, MI, S.dst, Nat.reduceAdd, Nat.reduceMul, Nat.reduceEqDiff, ↓reduceIte, reduceCtorEq, ne_eq, Nat.reduceLT, Nat.reduceLeDiff, gt_iff_lt, ge_iff_le, Int.reduceToNat, Nat.reduceSub, Int.reduceEq, Int.reduceLT, Int.reduceLE, not_true_eq_false, c12, x12.down, btE, tup_10, List.take_length, ba_nil, ba_size, ba_list, ba_ext, ba_add, true_and, at_z, at_s, putc1, putc4, List.setIfInBounds_toArray, List.set_cons_zero, List.set_cons_succ, List.size_toArray, List.length_cons, List.length_nil, List.toList_toArray, ba_32, ba_turn5, ba_note5, ba_crop4, ba_redact6, ba_put3, ba_drop4, zI1, zI2, zI4]) | ((with_reducible first | apply ld_r | apply ldN_a | apply ldN_r | apply st_r | apply stN_a); (exact X.rws)) | ((with_reducible first | apply bound_of | apply wr_i64 | apply wr_u8 | apply wr_u64 | apply wr_i32 | apply wr_i16 | apply wr_u32 | apply wr_u16); (exact X.om); (exact X.om)) | ((with_reducible first | apply ints_at | apply le_andI | apply le_andN | apply ne_andI); (exact X.om)) | ((with_reducible first | apply same_and | apply same_andW); (exact X.olz)) | (with_reducible refine ite_of (fun _ => ?_) (fun _ => ?_)))
  refine calls_mono (Clean_any w1 e ok) ?_
  rintro _ w2 ⟨rfl, hf2⟩
  replace hA := hA.fr hf2 (fun h => h)
  replace hF := hF.and hf2
  by_cases hc : cleanP e
  · simp only [hc, decide_true, if_true]
    obtain ⟨⟨hk, _⟩, ⟨ra, rb', rc, rd⟩, h8, h255⟩ := hc
    unfold rng at ra rb' rc rd
    obtain ⟨k, a, b, c, d, t⟩ := e
    simp only at hk ra rb' rc rd h8 h255 hb
    obtain ⟨na, rfl⟩ : ∃ n : Nat, a = n := ⟨a.toNat, by omega⟩
    obtain ⟨nb, rfl⟩ : ∃ n : Nat, b = n := ⟨b.toNat, by omega⟩
    obtain ⟨nc, rfl⟩ : ∃ n : Nat, c = n := ⟨c.toNat, by omega⟩
    obtain ⟨nd, rfl⟩ : ∃ n : Nat, d = n := ⟨d.toNat, by omega⟩
    unfold edC at hA
    simp only at hA
    have hz := hF.size
    have dl := digL_len
    rcases hk with rfl | rfl | rfl | rfl | rfl | rfl
    · (repeat' first | (simp only [RA, MI, S.dst, Nat.reduceAdd, Nat.reduceMul, Nat.reduceEqDiff, ↓reduceIte, reduceCtorEq, ne_eq, Nat.reduceLT, Nat.reduceLeDiff, gt_iff_lt, ge_iff_le, Int.reduceToNat, Nat.reduceSub, Int.reduceEq, Int.reduceLT, Int.reduceLE, not_true_eq_false, c12, x12.down, btE, tup_10, List.take_length, ba_nil, ba_size, ba_list, ba_ext, ba_add, true_and, at_z, at_s, putc1, putc4, List.setIfInBounds_toArray, List.set_cons_zero, List.set_cons_succ, List.size_toArray, List.length_cons, List.length_nil, List.toList_toArray, ba_32, ba_turn5, ba_note5, ba_crop4, ba_redact6, ba_put3, ba_drop4, zI1, zI2, zI4]) | ((with_reducible first | apply ld_r | apply ldN_a | apply ldN_r | apply st_r | apply stN_a); (exact X.rws)) | ((with_reducible first | apply bound_of | apply wr_i64 | apply wr_u8 | apply wr_u64 | apply wr_i32 | apply wr_i16 | apply wr_u32 | apply wr_u16); (exact X.om); (exact X.om)) | ((with_reducible first | apply ints_at | apply le_andI | apply le_andN | apply ne_andI); (exact X.om)) | ((with_reducible first | apply same_and | apply same_andW); (exact X.olz)) | (with_reducible refine ite_of (fun _ => ?_) (fun _ => ?_)))
      refine calls_mono (Name_any w2 na (hT.fr hF fun h => h)) ?_
      rintro _ w3 ⟨rfl, hw3⟩
      rw [hw3]; clear hw3 w3
      have h8' := h8 rfl
      rw [if_pos ⟨by omega, h8'⟩, Int.toNat_natCast]
      have := turnW_len na (by omega)
      (repeat' first | (simp only [RA, MI, S.dst, Nat.reduceAdd, Nat.reduceMul, Nat.reduceEqDiff, ↓reduceIte, reduceCtorEq, ne_eq, Nat.reduceLT, Nat.reduceLeDiff, gt_iff_lt, ge_iff_le, Int.reduceToNat, Nat.reduceSub, Int.reduceEq, Int.reduceLT, Int.reduceLE, not_true_eq_false, c12, x12.down, btE, tup_10, List.take_length, ba_nil, ba_size, ba_list, ba_ext, ba_add, true_and, at_z, at_s, putc1, putc4, List.setIfInBounds_toArray, List.set_cons_zero, List.set_cons_succ, List.size_toArray, List.length_cons, List.length_nil, List.toList_toArray, ba_32, ba_turn5, ba_note5, ba_crop4, ba_redact6, ba_put3, ba_drop4, zI1, zI2, zI4]) | ((with_reducible first | apply ld_r | apply ldN_a | apply ldN_r | apply st_r | apply stN_a); (exact X.rws)) | ((with_reducible first | apply bound_of | apply wr_i64 | apply wr_u8 | apply wr_u64 | apply wr_i32 | apply wr_i16 | apply wr_u32 | apply wr_u16); (exact X.om); (exact X.om)) | ((with_reducible first | apply ints_at | apply le_andI | apply le_andN | apply ne_andI); (exact X.om)) | ((with_reducible first | apply same_and | apply same_andW); (exact X.olz)) | (with_reducible refine ite_of (fun _ => ?_) (fun _ => ?_)))
      refine ⟨?_, hF⟩
      rfl
    · (repeat' first | (simp only [RA, MI, S.dst, Nat.reduceAdd, Nat.reduceMul, Nat.reduceEqDiff, ↓reduceIte, reduceCtorEq, ne_eq, Nat.reduceLT, Nat.reduceLeDiff, gt_iff_lt, ge_iff_le, Int.reduceToNat, Nat.reduceSub, Int.reduceEq, Int.reduceLT, Int.reduceLE, not_true_eq_false, c12, x12.down, btE, tup_10, List.take_length, ba_nil, ba_size, ba_list, ba_ext, ba_add, true_and, at_z, at_s, putc1, putc4, List.setIfInBounds_toArray, List.set_cons_zero, List.set_cons_succ, List.size_toArray, List.length_cons, List.length_nil, List.toList_toArray, ba_32, ba_turn5, ba_note5, ba_crop4, ba_redact6, ba_put3, ba_drop4, zI1, zI2, zI4]) | ((with_reducible first | apply ld_r | apply ldN_a | apply ldN_r | apply st_r | apply stN_a); (exact X.rws)) | ((with_reducible first | apply bound_of | apply wr_i64 | apply wr_u8 | apply wr_u64 | apply wr_i32 | apply wr_i16 | apply wr_u32 | apply wr_u16); (exact X.om); (exact X.om)) | ((with_reducible first | apply ints_at | apply le_andI | apply le_andN | apply ne_andI); (exact X.om)) | ((with_reducible first | apply same_and | apply same_andW); (exact X.olz)) | (with_reducible refine ite_of (fun _ => ?_) (fun _ => ?_)))
      refine calls_mono (digits_any _ w2.heap.size 4 4 [na, nb, nc, nd] (Row.new _ _ _) (by simp; omega) rfl (by omega)) ?_
      rintro _ w3 ⟨rfl, hw3⟩
      rw [hw3]; clear hw3 w3
      have := dl [na, nb, nc, nd] (by simp; omega)
      simp only [List.length_cons, List.length_nil] at this
      (repeat' first | (simp only [RA, MI, S.dst, Nat.reduceAdd, Nat.reduceMul, Nat.reduceEqDiff, ↓reduceIte, reduceCtorEq, ne_eq, Nat.reduceLT, Nat.reduceLeDiff, gt_iff_lt, ge_iff_le, Int.reduceToNat, Nat.reduceSub, Int.reduceEq, Int.reduceLT, Int.reduceLE, not_true_eq_false, c12, x12.down, btE, tup_10, List.take_length, ba_nil, ba_size, ba_list, ba_ext, ba_add, true_and, at_z, at_s, putc1, putc4, List.setIfInBounds_toArray, List.set_cons_zero, List.set_cons_succ, List.size_toArray, List.length_cons, List.length_nil, List.toList_toArray, ba_32, ba_turn5, ba_note5, ba_crop4, ba_redact6, ba_put3, ba_drop4, zI1, zI2, zI4]) | ((with_reducible first | apply ld_r | apply ldN_a | apply ldN_r | apply st_r | apply stN_a); (exact X.rws)) | ((with_reducible first | apply bound_of | apply wr_i64 | apply wr_u8 | apply wr_u64 | apply wr_i32 | apply wr_i16 | apply wr_u32 | apply wr_u16); (exact X.om); (exact X.om)) | ((with_reducible first | apply ints_at | apply le_andI | apply le_andN | apply ne_andI); (exact X.om)) | ((with_reducible first | apply same_and | apply same_andW); (exact X.olz)) | (with_reducible refine ite_of (fun _ => ?_) (fun _ => ?_)))
      refine ⟨rfl, by (exact X.frz)⟩
    · (repeat' first | (simp only [RA, MI, S.dst, Nat.reduceAdd, Nat.reduceMul, Nat.reduceEqDiff, ↓reduceIte, reduceCtorEq, ne_eq, Nat.reduceLT, Nat.reduceLeDiff, gt_iff_lt, ge_iff_le, Int.reduceToNat, Nat.reduceSub, Int.reduceEq, Int.reduceLT, Int.reduceLE, not_true_eq_false, c12, x12.down, btE, tup_10, List.take_length, ba_nil, ba_size, ba_list, ba_ext, ba_add, true_and, at_z, at_s, putc1, putc4, List.setIfInBounds_toArray, List.set_cons_zero, List.set_cons_succ, List.size_toArray, List.length_cons, List.length_nil, List.toList_toArray, ba_32, ba_turn5, ba_note5, ba_crop4, ba_redact6, ba_put3, ba_drop4, zI1, zI2, zI4]) | ((with_reducible first | apply ld_r | apply ldN_a | apply ldN_r | apply st_r | apply stN_a); (exact X.rws)) | ((with_reducible first | apply bound_of | apply wr_i64 | apply wr_u8 | apply wr_u64 | apply wr_i32 | apply wr_i16 | apply wr_u32 | apply wr_u16); (exact X.om); (exact X.om)) | ((with_reducible first | apply ints_at | apply le_andI | apply le_andN | apply ne_andI); (exact X.om)) | ((with_reducible first | apply same_and | apply same_andW); (exact X.olz)) | (with_reducible refine ite_of (fun _ => ?_) (fun _ => ?_)))
      refine calls_mono (digits_any _ w2.heap.size 4 4 [na, nb, nc, nd] (Row.new _ _ _) (by simp; omega) rfl (by omega)) ?_
      rintro _ w3 ⟨rfl, hw3⟩
      rw [hw3]; clear hw3 w3
      have := dl [na, nb, nc, nd] (by simp; omega)
      simp only [List.length_cons, List.length_nil] at this
      (repeat' first | (simp only [RA, MI, S.dst, Nat.reduceAdd, Nat.reduceMul, Nat.reduceEqDiff, ↓reduceIte, reduceCtorEq, ne_eq, Nat.reduceLT, Nat.reduceLeDiff, gt_iff_lt, ge_iff_le, Int.reduceToNat, Nat.reduceSub, Int.reduceEq, Int.reduceLT, Int.reduceLE, not_true_eq_false, c12, x12.down, btE, tup_10, List.take_length, ba_nil, ba_size, ba_list, ba_ext, ba_add, true_and, at_z, at_s, putc1, putc4, List.setIfInBounds_toArray, List.set_cons_zero, List.set_cons_succ, List.size_toArray, List.length_cons, List.length_nil, List.toList_toArray, ba_32, ba_turn5, ba_note5, ba_crop4, ba_redact6, ba_put3, ba_drop4, zI1, zI2, zI4]) | ((with_reducible first | apply ld_r | apply ldN_a | apply ldN_r | apply st_r | apply stN_a); (exact X.rws)) | ((with_reducible first | apply bound_of | apply wr_i64 | apply wr_u8 | apply wr_u64 | apply wr_i32 | apply wr_i16 | apply wr_u32 | apply wr_u16); (exact X.om); (exact X.om)) | ((with_reducible first | apply ints_at | apply le_andI | apply le_andN | apply ne_andI); (exact X.om)) | ((with_reducible first | apply same_and | apply same_andW); (exact X.olz)) | (with_reducible refine ite_of (fun _ => ?_) (fun _ => ?_)))
      refine ⟨rfl, by (exact X.frz)⟩
    · (repeat' first | (simp only [RA, MI, S.dst, Nat.reduceAdd, Nat.reduceMul, Nat.reduceEqDiff, ↓reduceIte, reduceCtorEq, ne_eq, Nat.reduceLT, Nat.reduceLeDiff, gt_iff_lt, ge_iff_le, Int.reduceToNat, Nat.reduceSub, Int.reduceEq, Int.reduceLT, Int.reduceLE, not_true_eq_false, c12, x12.down, btE, tup_10, List.take_length, ba_nil, ba_size, ba_list, ba_ext, ba_add, true_and, at_z, at_s, putc1, putc4, List.setIfInBounds_toArray, List.set_cons_zero, List.set_cons_succ, List.size_toArray, List.length_cons, List.length_nil, List.toList_toArray, ba_32, ba_turn5, ba_note5, ba_crop4, ba_redact6, ba_put3, ba_drop4, zI1, zI2, zI4]) | ((with_reducible first | apply ld_r | apply ldN_a | apply ldN_r | apply st_r | apply stN_a); (exact X.rws)) | ((with_reducible first | apply bound_of | apply wr_i64 | apply wr_u8 | apply wr_u64 | apply wr_i32 | apply wr_i16 | apply wr_u32 | apply wr_u16); (exact X.om); (exact X.om)) | ((with_reducible first | apply ints_at | apply le_andI | apply le_andN | apply ne_andI); (exact X.om)) | ((with_reducible first | apply same_and | apply same_andW); (exact X.olz)) | (with_reducible refine ite_of (fun _ => ?_) (fun _ => ?_)))
      have hB : Fr no w2 (w2.drew.alloc (Obj.cells #[Value.int IntKind.i64 na, Value.int IntKind.i64 nb] 3)) := ((Fr.refl _ w2).drew).alloc _
      refine calls_mono (digits_any _ w2.drew.heap.size 2 2 [na, nb] (Row.new _ _ _) (by simp; omega) rfl (by omega)) ?_
      rintro _ w3 ⟨rfl, hw3⟩
      rw [hw3]; clear hw3 w3
      have h19 := dl [na, nb] (by simp; omega)
      have hq := quo_len t
      simp only [List.length_cons, List.length_nil] at h19
      have hS := SameB.fr (b := w.heap.size) hB fun h => h
      have hS' : SameB w.heap.size w2.drew (w2.drew.alloc (Obj.cells #[Value.int IntKind.i64 na, Value.int IntKind.i64 nb] 3)) := hS
      have hF3 := hF.and hB
      generalize World.alloc _ _ = w3 at *
      (repeat' first | (simp only [RA, MI, S.dst, Nat.reduceAdd, Nat.reduceMul, Nat.reduceEqDiff, ↓reduceIte, reduceCtorEq, ne_eq, Nat.reduceLT, Nat.reduceLeDiff, gt_iff_lt, ge_iff_le, Int.reduceToNat, Nat.reduceSub, Int.reduceEq, Int.reduceLT, Int.reduceLE, not_true_eq_false, c12, x12.down, btE, tup_10, List.take_length, ba_nil, ba_size, ba_list, ba_ext, ba_add, true_and, at_z, at_s, putc1, putc4, List.setIfInBounds_toArray, List.set_cons_zero, List.set_cons_succ, List.size_toArray, List.length_cons, List.length_nil, List.toList_toArray, ba_32, ba_turn5, ba_note5, ba_crop4, ba_redact6, ba_put3, ba_drop4, zI1, zI2, zI4]) | ((with_reducible first | apply ld_r | apply ldN_a | apply ldN_r | apply st_r | apply stN_a); (exact X.rws)) | ((with_reducible first | apply bound_of | apply wr_i64 | apply wr_u8 | apply wr_u64 | apply wr_i32 | apply wr_i16 | apply wr_u32 | apply wr_u16); (exact X.om); (exact X.om)) | ((with_reducible first | apply ints_at | apply le_andI | apply le_andN | apply ne_andI); (exact X.om)) | ((with_reducible first | apply same_and | apply same_andW); (exact X.olz)) | (with_reducible refine ite_of (fun _ => ?_) (fun _ => ?_)))
      refine calls_mono (Quote_any w3 t (by omega) (hU.fr hF3 (fun h => h) (fun h => h))) ?_
      rintro _ w4 ⟨rfl, hF4⟩
      have hS4 : SameB w.heap.size w2.drew w4 := fun h => (hF4.block _ (Nat.lt_of_lt_of_le h hB.size) fun h => h).trans (hS' h)
      (repeat' first | (simp only [RA, MI, S.dst, Nat.reduceAdd, Nat.reduceMul, Nat.reduceEqDiff, ↓reduceIte, reduceCtorEq, ne_eq, Nat.reduceLT, Nat.reduceLeDiff, gt_iff_lt, ge_iff_le, Int.reduceToNat, Nat.reduceSub, Int.reduceEq, Int.reduceLT, Int.reduceLE, not_true_eq_false, c12, x12.down, btE, tup_10, List.take_length, ba_nil, ba_size, ba_list, ba_ext, ba_add, true_and, at_z, at_s, putc1, putc4, List.setIfInBounds_toArray, List.set_cons_zero, List.set_cons_succ, List.size_toArray, List.length_cons, List.length_nil, List.toList_toArray, ba_32, ba_turn5, ba_note5, ba_crop4, ba_redact6, ba_put3, ba_drop4, zI1, zI2, zI4]) | ((with_reducible first | apply ld_r | apply ldN_a | apply ldN_r | apply st_r | apply stN_a); (exact X.rws)) | ((with_reducible first | apply bound_of | apply wr_i64 | apply wr_u8 | apply wr_u64 | apply wr_i32 | apply wr_i16 | apply wr_u32 | apply wr_u16); (exact X.om); (exact X.om)) | ((with_reducible first | apply ints_at | apply le_andI | apply le_andN | apply ne_andI); (exact X.om)) | ((with_reducible first | apply same_and | apply same_andW); (exact X.olz)) | (with_reducible refine ite_of (fun _ => ?_) (fun _ => ?_)))
      exact ⟨rfl, hF3.and hF4⟩
    · (repeat' first | (simp only [RA, MI, S.dst, Nat.reduceAdd, Nat.reduceMul, Nat.reduceEqDiff, ↓reduceIte, reduceCtorEq, ne_eq, Nat.reduceLT, Nat.reduceLeDiff, gt_iff_lt, ge_iff_le, Int.reduceToNat, Nat.reduceSub, Int.reduceEq, Int.reduceLT, Int.reduceLE, not_true_eq_false, c12, x12.down, btE, tup_10, List.take_length, ba_nil, ba_size, ba_list, ba_ext, ba_add, true_and, at_z, at_s, putc1, putc4, List.setIfInBounds_toArray, List.set_cons_zero, List.set_cons_succ, List.size_toArray, List.length_cons, List.length_nil, List.toList_toArray, ba_32, ba_turn5, ba_note5, ba_crop4, ba_redact6, ba_put3, ba_drop4, zI1, zI2, zI4]) | ((with_reducible first | apply ld_r | apply ldN_a | apply ldN_r | apply st_r | apply stN_a); (exact X.rws)) | ((with_reducible first | apply bound_of | apply wr_i64 | apply wr_u8 | apply wr_u64 | apply wr_i32 | apply wr_i16 | apply wr_u32 | apply wr_u16); (exact X.om); (exact X.om)) | ((with_reducible first | apply ints_at | apply le_andI | apply le_andN | apply ne_andI); (exact X.om)) | ((with_reducible first | apply same_and | apply same_andW); (exact X.olz)) | (with_reducible refine ite_of (fun _ => ?_) (fun _ => ?_)))
      refine calls_mono (digits_any _ w2.heap.size 1 1 [na] (Row.new _ _ _) (by simp; omega) rfl (by omega)) ?_
      rintro _ w3 ⟨rfl, hw3⟩
      rw [hw3]; clear hw3 w3
      have := dl [na] (by simp; omega)
      simp only [List.length_cons, List.length_nil] at this
      (repeat' first | (simp only [RA, MI, S.dst, Nat.reduceAdd, Nat.reduceMul, Nat.reduceEqDiff, ↓reduceIte, reduceCtorEq, ne_eq, Nat.reduceLT, Nat.reduceLeDiff, gt_iff_lt, ge_iff_le, Int.reduceToNat, Nat.reduceSub, Int.reduceEq, Int.reduceLT, Int.reduceLE, not_true_eq_false, c12, x12.down, btE, tup_10, List.take_length, ba_nil, ba_size, ba_list, ba_ext, ba_add, true_and, at_z, at_s, putc1, putc4, List.setIfInBounds_toArray, List.set_cons_zero, List.set_cons_succ, List.size_toArray, List.length_cons, List.length_nil, List.toList_toArray, ba_32, ba_turn5, ba_note5, ba_crop4, ba_redact6, ba_put3, ba_drop4, zI1, zI2, zI4]) | ((with_reducible first | apply ld_r | apply ldN_a | apply ldN_r | apply st_r | apply stN_a); (exact X.rws)) | ((with_reducible first | apply bound_of | apply wr_i64 | apply wr_u8 | apply wr_u64 | apply wr_i32 | apply wr_i16 | apply wr_u32 | apply wr_u16); (exact X.om); (exact X.om)) | ((with_reducible first | apply ints_at | apply le_andI | apply le_andN | apply ne_andI); (exact X.om)) | ((with_reducible first | apply same_and | apply same_andW); (exact X.olz)) | (with_reducible refine ite_of (fun _ => ?_) (fun _ => ?_)))
      refine ⟨rfl, by (exact X.frz)⟩
    · (repeat' first | (simp only [RA, MI, S.dst, Nat.reduceAdd, Nat.reduceMul, Nat.reduceEqDiff, ↓reduceIte, reduceCtorEq, ne_eq, Nat.reduceLT, Nat.reduceLeDiff, gt_iff_lt, ge_iff_le, Int.reduceToNat, Nat.reduceSub, Int.reduceEq, Int.reduceLT, Int.reduceLE, not_true_eq_false, c12, x12.down, btE, tup_10, List.take_length, ba_nil, ba_size, ba_list, ba_ext, ba_add, true_and, at_z, at_s, putc1, putc4, List.setIfInBounds_toArray, List.set_cons_zero, List.set_cons_succ, List.size_toArray, List.length_cons, List.length_nil, List.toList_toArray, ba_32, ba_turn5, ba_note5, ba_crop4, ba_redact6, ba_put3, ba_drop4, zI1, zI2, zI4]) | ((with_reducible first | apply ld_r | apply ldN_a | apply ldN_r | apply st_r | apply stN_a); (exact X.rws)) | ((with_reducible first | apply bound_of | apply wr_i64 | apply wr_u8 | apply wr_u64 | apply wr_i32 | apply wr_i16 | apply wr_u32 | apply wr_u16); (exact X.om); (exact X.om)) | ((with_reducible first | apply ints_at | apply le_andI | apply le_andN | apply ne_andI); (exact X.om)) | ((with_reducible first | apply same_and | apply same_andW); (exact X.olz)) | (with_reducible refine ite_of (fun _ => ?_) (fun _ => ?_)))
      refine calls_mono (Quote_any w2 t (by omega) (hU.fr hF (fun h => h) (fun h => h))) ?_
      rintro _ w3 ⟨rfl, hF3⟩
      have := quo_len t
      (repeat' first | (simp only [RA, MI, S.dst, Nat.reduceAdd, Nat.reduceMul, Nat.reduceEqDiff, ↓reduceIte, reduceCtorEq, ne_eq, Nat.reduceLT, Nat.reduceLeDiff, gt_iff_lt, ge_iff_le, Int.reduceToNat, Nat.reduceSub, Int.reduceEq, Int.reduceLT, Int.reduceLE, not_true_eq_false, c12, x12.down, btE, tup_10, List.take_length, ba_nil, ba_size, ba_list, ba_ext, ba_add, true_and, at_z, at_s, putc1, putc4, List.setIfInBounds_toArray, List.set_cons_zero, List.set_cons_succ, List.size_toArray, List.length_cons, List.length_nil, List.toList_toArray, ba_32, ba_turn5, ba_note5, ba_crop4, ba_redact6, ba_put3, ba_drop4, zI1, zI2, zI4]) | ((with_reducible first | apply ld_r | apply ldN_a | apply ldN_r | apply st_r | apply stN_a); (exact X.rws)) | ((with_reducible first | apply bound_of | apply wr_i64 | apply wr_u8 | apply wr_u64 | apply wr_i32 | apply wr_i16 | apply wr_u32 | apply wr_u16); (exact X.om); (exact X.om)) | ((with_reducible first | apply ints_at | apply le_andI | apply le_andN | apply ne_andI); (exact X.om)) | ((with_reducible first | apply same_and | apply same_andW); (exact X.olz)) | (with_reducible refine ite_of (fun _ => ?_) (fun _ => ?_)))
      refine ⟨rfl, hF.and hF3⟩
  · simp only [hc, decide_false, if_false]
    (repeat' first | (simp only [RA, MI, S.dst, Nat.reduceAdd, Nat.reduceMul, Nat.reduceEqDiff, ↓reduceIte, reduceCtorEq, ne_eq, Nat.reduceLT, Nat.reduceLeDiff, gt_iff_lt, ge_iff_le, Int.reduceToNat, Nat.reduceSub, Int.reduceEq, Int.reduceLT, Int.reduceLE, not_true_eq_false, c12, x12.down, btE, tup_10, List.take_length, ba_nil, ba_size, ba_list, ba_ext, ba_add, true_and, at_z, at_s, putc1, putc4, List.setIfInBounds_toArray, List.set_cons_zero, List.set_cons_succ, List.size_toArray, List.length_cons, List.length_nil, List.toList_toArray, ba_32, ba_turn5, ba_note5, ba_crop4, ba_redact6, ba_put3, ba_drop4, zI1, zI2, zI4]) | ((with_reducible first | apply ld_r | apply ldN_a | apply ldN_r | apply st_r | apply stN_a); (exact X.rws)) | ((with_reducible first | apply bound_of | apply wr_i64 | apply wr_u8 | apply wr_u64 | apply wr_i32 | apply wr_i16 | apply wr_u32 | apply wr_u16); (exact X.om); (exact X.om)) | ((with_reducible first | apply ints_at | apply le_andI | apply le_andN | apply ne_andI); (exact X.om)) | ((with_reducible first | apply same_and | apply same_andW); (exact X.olz)) | (with_reducible refine ite_of (fun _ => ?_) (fun _ => ?_)))
    exact hF
end Go.Proofs.YtgibicifflfpfaaDoor
