/-
  Runes, printed: walked. Conditions: none.
-/
import Derived.Test.YtgibicifflfpfaaDoorE2
import Derived.Test.YtgibicifflfpfaaDoorE19
import Derived.Test.YtgibicifflfpfaaDoorSH
set_option autoImplicit false
set_option linter.unusedSimpArgs false
set_option linter.unusedVariables false
namespace Go.Proofs.YtgibicifflfpfaaDoor
open X
set_option maxRecDepth 10000
set_option maxHeartbeats 1000000

/-- The library's tables, as they are laid. -/
def UT (w : World) : Prop := Lib.Utf8Tabs 1 2 w
theorem cell_fr {S : Nat → Prop} {w w' : World} {b o : Nat} {v : Value} (h : w.cell? ⟨b, o, none⟩ = some v) (f : Fr S w w') (hn : ¬ S b) : w'.cell? ⟨b, o, none⟩ = some v := by
  unfold World.cell? at h ⊢
  simp only at h ⊢
  have hb : b < w.heap.size := by
    rcases Nat.lt_or_ge b w.heap.size with h1 | h1
    · exact h1
    · rw [Array.getElem?_eq_none h1] at h; simp at h
  rw [f.block b hb hn]; exact h
theorem UT.fr {S : Nat → Prop} {w w' : World} (h : UT w) (f : Fr S w w') (h1 : ¬ S 1) (h2 : ¬ S 2) : UT w' :=
  ⟨fun c hc => cell_fr (h.1 c hc) f h1, fun i hi => ⟨cell_fr (h.2 i hi).1 f h2, cell_fr (h.2 i hi).2 f h2⟩⟩
theorem decodeGo_dn {l : List UInt8} (h : l ≠ []) : Lib.decodeGo (ba l) = dn l := by
  unfold Lib.decodeGo
  rw [ba_size, if_neg (fun h0 => h (List.eq_nil_of_length_eq_zero h0)), dec_dn, List.drop_zero]
theorem broken_any (w : World) (s : List UInt8) (i : Nat) (hi : i < s.length) (hU : UT w) : Calls Tryd.prog 30 [.string (ba s), .int .i64 i, .int .i32 (dn (s.drop i)).1].toArray w fun r w' => r = .returned (.bool (decide (brk (s.drop i)))) ∧ Fr no w w' := by
  refine enter30 (by simp) ?_
  have hne : s.drop i ≠ [] := fun h => by have := congrArg List.length h; simp at this; omega
  (repeat' first | (simp only [RA, MI, S.dst, Nat.reduceAdd, Nat.reduceMul, Nat.reduceEqDiff, ↓reduceIte, reduceCtorEq, ne_eq, Nat.reduceLT, Nat.reduceLeDiff, gt_iff_lt, ge_iff_le, Int.reduceToNat, Nat.reduceSub, Int.reduceEq, Int.reduceLT, Int.reduceLE, not_true_eq_false, c30, x30.down, btE, tup_10, List.take_length, ba_nil, ba_size, ba_list, ba_ext, ba_add, true_and, at_z, at_s, putc1, putc4, List.setIfInBounds_toArray, List.set_cons_zero, List.set_cons_succ, List.size_toArray, List.length_cons, List.length_nil, List.toList_toArray]) | ((with_reducible first | apply ld_r | apply ldN_a | apply ldN_r | apply st_r | apply stN_a); (exact X.rws)) | ((with_reducible first | apply bound_of | apply wr_i64 | apply wr_u8 | apply wr_u64 | apply wr_i32 | apply wr_i16 | apply wr_u32 | apply wr_u16); (exact X.om); (exact X.om)) | ((with_reducible first | apply ints_at | apply le_andI | apply le_andN | apply ne_andI); (exact X.om)) | ((with_reducible first | apply same_and | apply same_andW); (exact X.olz)) | (with_reducible refine ite_of (fun _ => ?_) (fun _ => ?_)))
  · rename_i h
    refine ⟨?_, Fr.refl _ _⟩
    rw [decide_eq_false (fun hb => h (by rw [hb.1]; rfl))]
  · rename_i h
    refine calls_mono (sh_DecodeRuneInString _ w hU) ?_
    rintro _ w2 ⟨rfl, hb⟩
    rw [decodeGo_dn hne]
    (repeat' first | (simp only [RA, MI, S.dst, Nat.reduceAdd, Nat.reduceMul, Nat.reduceEqDiff, ↓reduceIte, reduceCtorEq, ne_eq, Nat.reduceLT, Nat.reduceLeDiff, gt_iff_lt, ge_iff_le, Int.reduceToNat, Nat.reduceSub, Int.reduceEq, Int.reduceLT, Int.reduceLE, not_true_eq_false, c30, x30.down, btE, tup_10, List.take_length, ba_nil, ba_size, ba_list, ba_ext, ba_add, true_and, at_z, at_s, putc1, putc4, List.setIfInBounds_toArray, List.set_cons_zero, List.set_cons_succ, List.size_toArray, List.length_cons, List.length_nil, List.toList_toArray]) | ((with_reducible first | apply ld_r | apply ldN_a | apply ldN_r | apply st_r | apply stN_a); (exact X.rws)) | ((with_reducible first | apply bound_of | apply wr_i64 | apply wr_u8 | apply wr_u64 | apply wr_i32 | apply wr_i16 | apply wr_u32 | apply wr_u16); (exact X.om); (exact X.om)) | ((with_reducible first | apply ints_at | apply le_andI | apply le_andN | apply ne_andI); (exact X.om)) | ((with_reducible first | apply same_and | apply same_andW); (exact X.olz)) | (with_reducible refine ite_of (fun _ => ?_) (fun _ => ?_)))
    refine ⟨?_, fr_of hb⟩
    have e : decide (((dn (s.drop i)).2 : Int) = 1) = decide (brk (s.drop i)) := decide_eq_decide.2 (by unfold brk; omega)
    rw [e]
theorem hexK_len (m : Nat) : ∀ (k n : Nat), n < 16 ^ m → k ≤ m → (hexK k n).length ≤ m := by
  induction m with
  | zero =>
    intro k n h hk
    obtain rfl : k = 0 := by omega
    obtain rfl : n = 0 := by simpa using h
    rw [hexK_zero]; exact Nat.le_refl _
  | succ m ih =>
    intro k n h hk
    by_cases h0 : n = 0 ∧ k = 0
    · obtain ⟨rfl, rfl⟩ := h0; rw [hexK_zero]; simp
    · rw [hexK_pos h0, List.length_append]
      have := ih (k - 1) (n / 16) (by rw [Nat.pow_succ] at h; exact Nat.div_lt_of_lt_mul (by omega)) (by omega)
      simp; omega
theorem and15 (n : Nat) (hn : n < 2147483648) (K : Value → Prop) : arith .and .i32 (n : Int) 15 K = K (.int .i32 ((n % 16 : Nat) : Int)) := by
  have e : (BitVec.ofInt IntKind.i32.bits (n : Int) &&& BitVec.ofInt IntKind.i32.bits 15).toNat = n % 16 := by
    rw [BitVec.toNat_and]
    have h1 : (BitVec.ofInt IntKind.i32.bits (n : Int)).toNat = n := by
      rw [BitVec.ofInt_natCast, BitVec.toNat_ofNat]; exact Nat.mod_eq_of_lt (by simp [IntKind.bits]; omega)
    have h2 : (BitVec.ofInt IntKind.i32.bits 15).toNat = 2 ^ 4 - 1 := by decide
    rw [h1, h2, Nat.and_two_pow_sub_one_eq_mod]
  show K (.int .i32 (IntKind.i32.wrap ((BitVec.ofInt IntKind.i32.bits (n : Int) &&& BitVec.ofInt IntKind.i32.bits 15).toNat : Int))) = _
  rw [e]
  congr 2
  simp [IntKind.wrap, IntKind.signed, IntKind.bits]; omega
theorem sh4 (r : Nat) : (r : Int).fdiv (2 ^ min 4 IntKind.i32.bits) = ((r / 16 : Nat) : Int) := by
  rw [show (2 : Int) ^ min 4 IntKind.i32.bits = ((16 : Nat) : Int) from rfl, Int.fdiv_eq_ediv_of_nonneg _ (by omega), ← Int.natCast_ediv]
def digL16 : List UInt8 := [48, 49, 50, 51, 52, 53, 54, 55, 56, 57, 97, 98, 99, 100, 101, 102]
theorem ba_D : ({ data := #[48, 49, 50, 51, 52, 53, 54, 55, 56, 57, 97, 98, 99, 100, 101, 102] } : ByteArray) = ba digL16 := (rfl)
theorem digS {a : Nat} (h : a < 16) : (digL16.take (a + 1)).drop a = [hd a] := by
  have : ∀ a, a < 16 → (digL16.take (a + 1)).drop a = [hd a] := by decide
  exact this a h
theorem dig_len : digL16.length = 16 := rfl
theorem toNat1 (n : Nat) : ((n : Int) + 1).toNat = n + 1 := by omega
theorem hex_any (w : World) (n k : Nat) (hn : n < 268435456) (hk : k ≤ 7) : Calls Tryd.prog 31 [.int .i32 n, .int .i64 k].toArray w fun r w' => r = .returned (.string (ba (hexK k n))) ∧ w' = w := by
  refine enter31 (by simp) ?_
  (repeat' first | (simp only [RA, MI, S.dst, Nat.reduceAdd, Nat.reduceMul, Nat.reduceEqDiff, ↓reduceIte, reduceCtorEq, ne_eq, Nat.reduceLT, Nat.reduceLeDiff, gt_iff_lt, ge_iff_le, Int.reduceToNat, Nat.reduceSub, Int.reduceEq, Int.reduceLT, Int.reduceLE, not_true_eq_false, c31, x31.down, btE, tup_10, List.take_length, ba_nil, ba_size, ba_list, ba_ext, ba_add, true_and, at_z, at_s, putc1, putc4, List.setIfInBounds_toArray, List.set_cons_zero, List.set_cons_succ, List.size_toArray, List.length_cons, List.length_nil, List.toList_toArray, sh4, ba_D, dig_len, toNat1]) | ((with_reducible first | apply ld_r | apply ldN_a | apply ldN_r | apply st_r | apply stN_a); (exact X.rws)) | ((with_reducible first | apply bound_of | apply wr_i64 | apply wr_u8 | apply wr_u64 | apply wr_i32 | apply wr_i16 | apply wr_u32 | apply wr_u16); (exact X.om); (exact X.om)) | ((with_reducible first | apply ints_at | apply le_andI | apply le_andN | apply ne_andI); (exact X.om)) | ((with_reducible first | apply same_and | apply same_andW); (exact X.olz)) | (with_reducible refine ite_of (fun _ => ?_) (fun _ => ?_)))
  have hlen := hexK_len 7 k n (by omega) hk
  refine loop_ofx (σ := Nat × List UInt8) (fun s => [(0, .int .i32 s.1), (1, .int .i64 k), (5, .string (ba s.2))])
    (fun s w' => w' = w ∧ s.1 < 268435456 ∧ hexK (k - s.2.length) s.1 ++ s.2 = hexK k n) (fun s => s.1 + (k - s.2.length)) (n, []) [] rfl ⟨rfl, hn, by simp⟩ ?_
  rintro ⟨m, o⟩ x w1 ⟨hw1, hm, he⟩
  rw [hw1]; clear hw1 w1
  simp only at hm he
  have hlo := congrArg List.length he
  simp only [List.length_append] at hlo
  have fin : ¬ (m = 0 ∧ k - o.length = 0) → hexK (k - (hd (m % 16) :: o).length) (m / 16) ++ hd (m % 16) :: o = hexK k n := by
    intro h
    rw [hexK_pos h] at he
    rw [List.length_cons, show k - (o.length + 1) = k - o.length - 1 by omega, ← he]; simp
  (repeat' first | (simp only [RA, MI, S.dst, Nat.reduceAdd, Nat.reduceMul, Nat.reduceEqDiff, ↓reduceIte, reduceCtorEq, ne_eq, Nat.reduceLT, Nat.reduceLeDiff, gt_iff_lt, ge_iff_le, Int.reduceToNat, Nat.reduceSub, Int.reduceEq, Int.reduceLT, Int.reduceLE, not_true_eq_false, c31, x31.down, btE, tup_10, List.take_length, ba_nil, ba_size, ba_list, ba_ext, ba_add, true_and, at_z, at_s, putc1, putc4, List.setIfInBounds_toArray, List.set_cons_zero, List.set_cons_succ, List.size_toArray, List.length_cons, List.length_nil, List.toList_toArray, sh4, ba_D, dig_len, toNat1]) | ((with_reducible first | apply ld_r | apply ldN_a | apply ldN_r | apply st_r | apply stN_a); (exact X.rws)) | ((with_reducible first | apply bound_of | apply wr_i64 | apply wr_u8 | apply wr_u64 | apply wr_i32 | apply wr_i16 | apply wr_u32 | apply wr_u16); (exact X.om); (exact X.om)) | ((with_reducible first | apply ints_at | apply le_andI | apply le_andN | apply ne_andI); (exact X.om)) | ((with_reducible first | apply same_and | apply same_andW); (exact X.olz)) | (with_reducible refine ite_of (fun _ => ?_) (fun _ => ?_)))
  all_goals first
    | (refine ⟨?_, trivial⟩
       obtain rfl : m = 0 := by omega
       rw [show k - o.length = 0 by omega, hexK_zero, List.nil_append] at he
       rw [he])
    | (simp only [and15 m (by omega)]
       (repeat' first | (simp only [RA, MI, S.dst, Nat.reduceAdd, Nat.reduceMul, Nat.reduceEqDiff, ↓reduceIte, reduceCtorEq, ne_eq, Nat.reduceLT, Nat.reduceLeDiff, gt_iff_lt, ge_iff_le, Int.reduceToNat, Nat.reduceSub, Int.reduceEq, Int.reduceLT, Int.reduceLE, not_true_eq_false, c31, x31.down, btE, tup_10, List.take_length, ba_nil, ba_size, ba_list, ba_ext, ba_add, true_and, at_z, at_s, putc1, putc4, List.setIfInBounds_toArray, List.set_cons_zero, List.set_cons_succ, List.size_toArray, List.length_cons, List.length_nil, List.toList_toArray, sh4, ba_D, dig_len, toNat1]) | ((with_reducible first | apply ld_r | apply ldN_a | apply ldN_r | apply st_r | apply stN_a); (exact X.rws)) | ((with_reducible first | apply bound_of | apply wr_i64 | apply wr_u8 | apply wr_u64 | apply wr_i32 | apply wr_i16 | apply wr_u32 | apply wr_u16); (exact X.om); (exact X.om)) | ((with_reducible first | apply ints_at | apply le_andI | apply le_andN | apply ne_andI); (exact X.om)) | ((with_reducible first | apply same_and | apply same_andW); (exact X.olz)) | (with_reducible refine ite_of (fun _ => ?_) (fun _ => ?_)))
       rw [digS (by omega)]
       refine ⟨(m / 16, hd (m % 16) :: o), ⟨[], rfl⟩, ⟨by simp only; omega, fin (by omega)⟩, ?_⟩
       simp only [List.length_cons]; omega)
theorem ba_92 : ({ data := #[92] } : ByteArray) = ba [92] := (rfl)
theorem ba_u : ({ data := #[92, 117, 123] } : ByteArray) = ba [92, 117, 123] := (rfl)
theorem ba_125 : ({ data := #[125] } : ByteArray) = ba [125] := (rfl)
theorem gquoted_any (w : World) (r : Nat) (hr : r ≤ 1114111) : Calls Tryd.prog 32 [.int .i32 r].toArray w fun e w' => e = .returned (.string (ba (quoR r))) ∧ w' = w := by
  refine enter32 (by simp) ?_
  have enc : r ≤ 126 → Utf8.encode (r : Int) = ba [UInt8.ofNat r] := fun h => by rw [enc_small (by omega) (by omega), Int.toNat_natCast]
  have hex := hex_any w r 1 (by omega) (by omega)
  have hlen := hexK_len 7 1 r (by omega) (by omega)
  (repeat' first | (simp only [RA, MI, S.dst, Nat.reduceAdd, Nat.reduceMul, Nat.reduceEqDiff, ↓reduceIte, reduceCtorEq, ne_eq, Nat.reduceLT, Nat.reduceLeDiff, gt_iff_lt, ge_iff_le, Int.reduceToNat, Nat.reduceSub, Int.reduceEq, Int.reduceLT, Int.reduceLE, not_true_eq_false, c32, x32.down, btE, tup_10, List.take_length, ba_nil, ba_size, ba_list, ba_ext, ba_add, true_and, at_z, at_s, putc1, putc4, List.setIfInBounds_toArray, List.set_cons_zero, List.set_cons_succ, List.size_toArray, List.length_cons, List.length_nil, List.toList_toArray, ba_u, ba_125]) | ((with_reducible first | apply ld_r | apply ldN_a | apply ldN_r | apply st_r | apply stN_a); (exact X.rws)) | ((with_reducible first | apply bound_of | apply wr_i64 | apply wr_u8 | apply wr_u64 | apply wr_i32 | apply wr_i16 | apply wr_u32 | apply wr_u16); (exact X.om); (exact X.om)) | ((with_reducible first | apply ints_at | apply le_andI | apply le_andN | apply ne_andI); (exact X.om)) | ((with_reducible first | apply same_and | apply same_andW); (exact X.olz)) | (with_reducible refine ite_of (fun _ => ?_) (fun _ => ?_)))
  all_goals first
    | (rename_i h
       refine calls_mono hex ?_
       rintro _ w2 ⟨rfl, hw⟩
       rw [hw]; clear hw w2
       unfold quoR
       rw [if_neg (by omega), if_neg (by omega), if_neg (by omega), if_neg (by omega)]
       (repeat' first | (simp only [RA, MI, S.dst, Nat.reduceAdd, Nat.reduceMul, Nat.reduceEqDiff, ↓reduceIte, reduceCtorEq, ne_eq, Nat.reduceLT, Nat.reduceLeDiff, gt_iff_lt, ge_iff_le, Int.reduceToNat, Nat.reduceSub, Int.reduceEq, Int.reduceLT, Int.reduceLE, not_true_eq_false, c32, x32.down, btE, tup_10, List.take_length, ba_nil, ba_size, ba_list, ba_ext, ba_add, true_and, at_z, at_s, putc1, putc4, List.setIfInBounds_toArray, List.set_cons_zero, List.set_cons_succ, List.size_toArray, List.length_cons, List.length_nil, List.toList_toArray, ba_u, ba_125]) | ((with_reducible first | apply ld_r | apply ldN_a | apply ldN_r | apply st_r | apply stN_a); (exact X.rws)) | ((with_reducible first | apply bound_of | apply wr_i64 | apply wr_u8 | apply wr_u64 | apply wr_i32 | apply wr_i16 | apply wr_u32 | apply wr_u16); (exact X.om); (exact X.om)) | ((with_reducible first | apply ints_at | apply le_andI | apply le_andN | apply ne_andI); (exact X.om)) | ((with_reducible first | apply same_and | apply same_andW); (exact X.olz)) | (with_reducible refine ite_of (fun _ => ?_) (fun _ => ?_)))
       done)
    | (rw [enc (by omega)]
       unfold quoR
       first
         | (rw [if_pos (show r = 34 by omega), show r = 34 by omega])
         | (rw [if_neg (show ¬ r = 34 by omega), if_pos (show r = 92 by omega), show r = 92 by omega])
         | (rw [if_neg (show ¬ r = 34 by omega), if_neg (show ¬ r = 92 by omega), if_neg (show ¬ r = 10 by omega), if_pos (show 32 ≤ r ∧ r ≤ 126 by omega)])
       first
         | exact ⟨rfl, trivial⟩
         | (simp only [ba_92, ba_add, ba_size]; exact ⟨by decide, rfl, trivial⟩))
    | (unfold quoR
       rw [if_neg (show ¬ r = 34 by omega), if_neg (show ¬ r = 92 by omega), if_pos (show r = 10 by omega)]
       exact ⟨rfl, trivial⟩)
end Go.Proofs.YtgibicifflfpfaaDoor
