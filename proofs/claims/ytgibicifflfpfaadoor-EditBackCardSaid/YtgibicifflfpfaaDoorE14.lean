/-
  Numbers behind blanks: walked. Conditions: none.
-/
import Derived.Test.YtgibicifflfpfaaDoorE12
set_option autoImplicit false
set_option linter.unusedSimpArgs false
set_option linter.unusedVariables false
namespace Go.Proofs.YtgibicifflfpfaaDoor
open X
set_option maxRecDepth 10000
set_option maxHeartbeats 1000000

theorem dig_drop (ls : List Nat) (k : Nat) (h : k < ls.length) : digL (ls.drop k) = 32 :: decL (ls.getD k 0) ++ digL (ls.drop (k + 1)) := by
  unfold digL
  rw [List.drop_eq_getElem_cons h, List.flatMap_cons, List.getD_eq_getElem?_getD, List.getElem?_eq_getElem h]; rfl
theorem digL_len (ls : List Nat) (h : ∀ n ∈ ls, n < 10 ^ 18) : (digL ls).length ≤ 19 * ls.length := by
  induction ls with
  | nil => simp [digL]
  | cons n ls ih =>
    have h1 := ih fun m hm => h m (List.mem_cons_of_mem _ hm)
    have h2 := decL_len 18 n (by omega) (h n (List.mem_cons_self ..))
    simp only [digL, List.flatMap_cons, List.length_append, List.length_cons] at h1 ⊢
    omega
theorem ba_32 : ({ data := #[32] } : ByteArray) = ba [32] := rfl
theorem enc_dig (m : Nat) : Utf8.encode (48 + ((m % 10 : Nat) : Int)) = ba [UInt8.ofNat (48 + m % 10)] := by
  rw [enc_small (by omega) (by omega)]; congr 2
theorem digits_any (w : World) (B n c : Nat) (ls : List Nat) (hB : Row w B (ints .i64 (ls.map fun n : Nat => (n : Int)))) (hl : ∀ n ∈ ls, n < 10 ^ 18) (hn : ls.length = n) (hn2 : n ≤ 8) :
    Calls Tryd.prog 19 [.slice (some ⟨B, 0, none⟩) n c].toArray w fun r w' => r = .returned (.string (ba (digL ls))) ∧ w' = w := by
  refine enter19 (by simp) ?_
  (repeat' first | (simp only [RA, MI, S.dst, Nat.reduceAdd, Nat.reduceMul, Nat.reduceEqDiff, ↓reduceIte, reduceCtorEq, ne_eq, Nat.reduceLT, Nat.reduceLeDiff, gt_iff_lt, ge_iff_le, Int.reduceToNat, Nat.reduceSub, Int.reduceEq, Int.reduceLT, Int.reduceLE, not_true_eq_false, c19, x19.down, btE, tup_10, List.take_length, ba_nil, ba_size, ba_list, ba_ext, ba_add, true_and, at_z, at_s, putc1, putc4, List.setIfInBounds_toArray, List.set_cons_zero, List.set_cons_succ, List.size_toArray, List.length_cons, List.length_nil, List.toList_toArray, td10, tm10, enc_dig, ba_32]) | ((with_reducible first | apply ld_r | apply ldN_a | apply ldN_r | apply st_r | apply stN_a); (exact X.rws)) | ((with_reducible first | apply bound_of | apply wr_i64 | apply wr_u8 | apply wr_u64 | apply wr_i32 | apply wr_i16 | apply wr_u32 | apply wr_u16); (exact X.om); (exact X.om)) | ((with_reducible first | apply ints_at | apply le_andI | apply le_andN | apply ne_andI); (exact X.om)) | ((with_reducible first | apply same_and | apply same_andW); (exact X.olz)) | (with_reducible refine ite_of (fun _ => ?_) (fun _ => ?_)))
  subst hn
  refine loop_of (σ := Nat) (fun k => [(0, .slice (some ⟨B, 0, none⟩) ls.length c), (3, .string (ba (digL (ls.drop k)))), (4, .int .i64 ((k : Int) - 1))])
    (fun k w' => k ≤ ls.length ∧ w' = w) (fun k => k) ls.length (by rw [List.drop_length]; rfl) ⟨Nat.le_refl _, rfl⟩ ?_
  rintro k w_ ⟨hk, rfl⟩
  (repeat' first | (simp only [RA, MI, S.dst, Nat.reduceAdd, Nat.reduceMul, Nat.reduceEqDiff, ↓reduceIte, reduceCtorEq, ne_eq, Nat.reduceLT, Nat.reduceLeDiff, gt_iff_lt, ge_iff_le, Int.reduceToNat, Nat.reduceSub, Int.reduceEq, Int.reduceLT, Int.reduceLE, not_true_eq_false, c19, x19.down, btE, tup_10, List.take_length, ba_nil, ba_size, ba_list, ba_ext, ba_add, true_and, at_z, at_s, putc1, putc4, List.setIfInBounds_toArray, List.set_cons_zero, List.set_cons_succ, List.size_toArray, List.length_cons, List.length_nil, List.toList_toArray, td10, tm10, enc_dig, ba_32]) | ((with_reducible first | apply ld_r | apply ldN_a | apply ldN_r | apply st_r | apply stN_a); (exact X.rws)) | ((with_reducible first | apply bound_of | apply wr_i64 | apply wr_u8 | apply wr_u64 | apply wr_i32 | apply wr_i16 | apply wr_u32 | apply wr_u16); (exact X.om); (exact X.om)) | ((with_reducible first | apply ints_at | apply le_andI | apply le_andN | apply ne_andI); (exact X.om)) | ((with_reducible first | apply same_and | apply same_andW); (exact X.olz)) | (with_reducible refine ite_of (fun _ => ?_) (fun _ => ?_)))
  · obtain ⟨j, rfl⟩ : ∃ j, k = j + 1 := ⟨k - 1, by omega⟩
    rw [show (((j + 1 : Nat) : Int) - 1).toNat = j by omega]
    refine X.ints_at (by simp; omega) ?_
    have e1 : g (ls.map fun n : Nat => (n : Int)) j = (ls.getD j 0 : Nat) := by
      unfold g
      simp only [List.getD_eq_getElem?_getD, List.getElem?_map, List.getElem?_eq_getElem (show j < ls.length by omega)]; rfl
    rw [e1]
    have hn0 : ls.getD j 0 < 10 ^ 18 := by
      rw [List.getD_eq_getElem?_getD, List.getElem?_eq_getElem (show j < ls.length by omega)]; exact hl _ (List.getElem_mem _)
    have hd := dig_drop ls j (by omega)
    have hlen := digL_len (ls.drop (j + 1)) fun n h => hl n (List.mem_of_mem_drop h)
    rw [List.length_drop] at hlen
    generalize ls.getD j 0 = n0 at *
    have hlen2 := decL_len 18 n0 (by omega) hn0
    refine loop_ofx (σ := Nat × List UInt8) (fun s => [(0, .slice (some ⟨B, 0, none⟩) ls.length c), (3, .string (ba s.2)), (4, .int .i64 (((j + 1 : Nat) : Int) - 1)), (5, .int .i64 s.1)])
      (fun s w' => w' = w_ ∧ s.1 < 10 ^ 18 ∧ decL s.1 ++ s.2 = decL n0 ++ digL (ls.drop (j + 1))) (fun s => s.1) (n0, digL (ls.drop (j + 1))) [] rfl ⟨rfl, hn0, rfl⟩ ?_
    rintro ⟨m, o⟩ x _ ⟨rfl, hm, he⟩
    simp only at hm he
    have hlo := congrArg List.length he
    simp only [List.length_append] at hlo
    (repeat' first | (simp only [RA, MI, S.dst, Nat.reduceAdd, Nat.reduceMul, Nat.reduceEqDiff, ↓reduceIte, reduceCtorEq, ne_eq, Nat.reduceLT, Nat.reduceLeDiff, gt_iff_lt, ge_iff_le, Int.reduceToNat, Nat.reduceSub, Int.reduceEq, Int.reduceLT, Int.reduceLE, not_true_eq_false, c19, x19.down, btE, tup_10, List.take_length, ba_nil, ba_size, ba_list, ba_ext, ba_add, true_and, at_z, at_s, putc1, putc4, List.setIfInBounds_toArray, List.set_cons_zero, List.set_cons_succ, List.size_toArray, List.length_cons, List.length_nil, List.toList_toArray, td10, tm10, enc_dig, ba_32]) | ((with_reducible first | apply ld_r | apply ldN_a | apply ldN_r | apply st_r | apply stN_a); (exact X.rws)) | ((with_reducible first | apply bound_of | apply wr_i64 | apply wr_u8 | apply wr_u64 | apply wr_i32 | apply wr_i16 | apply wr_u32 | apply wr_u16); (exact X.om); (exact X.om)) | ((with_reducible first | apply ints_at | apply le_andI | apply le_andN | apply ne_andI); (exact X.om)) | ((with_reducible first | apply same_and | apply same_andW); (exact X.olz)) | (with_reducible refine ite_of (fun _ => ?_) (fun _ => ?_)))
    · refine ⟨j, ?_, ⟨by omega, trivial⟩, by omega⟩
      rw [decL_lt (by omega)] at he
      rw [hd, List.cons_append, ← he, show m % 10 = m by omega, show ((j + 1 : Nat) : Int) - 1 - 1 = (j : Int) - 1 by omega]; rfl
    · rw [decL_ge (by omega), List.append_assoc] at he
      exact ⟨(m / 10, _ :: o), ⟨[_], rfl⟩, ⟨by simp only; omega, he⟩, by simp only; omega⟩
  · obtain rfl : k = 0 := by omega
    exact ⟨rfl, trivial⟩
end Go.Proofs.YtgibicifflfpfaaDoor
