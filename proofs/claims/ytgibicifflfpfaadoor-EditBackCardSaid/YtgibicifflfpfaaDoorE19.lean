/-
  Runes, appended: walked. Conditions: none.
-/
import Derived.Test.YtgibicifflfpfaaDoorE18
set_option autoImplicit false
set_option linter.unusedSimpArgs false
set_option linter.unusedVariables false
namespace Go.Proofs.YtgibicifflfpfaaDoor
open X
set_option maxRecDepth 100000
set_option maxHeartbeats 1000000

theorem app_bytes {P : Program} {el n : Nat} {w : World} {v : Value} {out new : List UInt8} {b0 B : Nat} {C : Array Value} {K : Value → World → Prop} (hv : Vec w v 1 (bc out) b0) (hb0 : b0 ≤ w.heap.size) (hz : (zcells P el).size = 1)
    (hl : out.length + new.length ≤ 100000000000000) (hn : new.length = n) (hr : Row w B C) (hC : C = List.toArray (bc new))
    (hk : ∀ r w', Vec w' r 1 (bc (out ++ new)) b0 → Fr (blk v) w w' → (∀ k, blk r k → blk v k ∨ w.heap.size ≤ k) → K r w') : AppVC P el 1 1 w v (.slice (some ⟨B, 0, none⟩) n n) K := by
  subst hC
  refine vec_append (m := n) (new := bc new) hv hb0 hz ⟨out.length, by rw [bc_len, Nat.mul_one], by omega, by omega⟩ (by decide) (fun R h => h) (fun R h => ?_) (by rw [bc_len, Nat.mul_one, hn]) (fun x hx => ?_) (fun r w' h1 h2 h3 => hk r w' (by rw [bc_add]; exact h1) h2 h3)
  · rw [tk_some]
    refine ldN_row hr (by simp [bc_len, hn]) ?_
    have e : ((List.toArray (bc new)).extract 0 (0 + n * 1)).toList = bc new := by
      have : (bc new).length = n := by rw [bc_len, hn]
      simp [← this]
    rw [e]; exact h
  · rw [← bc_add] at hx; exact bc_one _ x hx
theorem ValidRune_any (w : World) (n : Int) : Calls Tryd.prog 57 [.int .i32 n].toArray w fun r w' => r = .returned (.bool (decide (isR n))) ∧ w' = w := by
  refine enter57 (by simp) ?_
  (repeat' first | (simp only [RA, MI, S.dst, Nat.reduceAdd, Nat.reduceMul, Nat.reduceEqDiff, ↓reduceIte, reduceCtorEq, ne_eq, Nat.reduceLT, Nat.reduceLeDiff, gt_iff_lt, ge_iff_le, Int.reduceToNat, Nat.reduceSub, Int.reduceEq, Int.reduceLT, Int.reduceLE, not_true_eq_false, c57, x57.down, btE, tup_10, List.take_length, ba_nil, ba_size, ba_list, ba_ext, ba_add, true_and, at_z, at_s, putc1, putc4, List.setIfInBounds_toArray, List.set_cons_zero, List.set_cons_succ, List.size_toArray, List.length_cons, List.length_nil, List.toList_toArray]) | ((with_reducible first | apply ld_r | apply ldN_a | apply ldN_r | apply st_r | apply stN_a); (exact X.rws)) | ((with_reducible first | apply bound_of | apply wr_i64 | apply wr_u8 | apply wr_u64 | apply wr_i32 | apply wr_i16 | apply wr_u32 | apply wr_u16); (exact X.om); (exact X.om)) | ((with_reducible first | apply ints_at | apply le_andI | apply le_andN | apply ne_andI); (exact X.om)) | ((with_reducible first | apply same_and | apply same_andW); (exact X.olz)) | (with_reducible refine ite_of (fun _ => ?_) (fun _ => ?_)))
  all_goals
    refine ⟨?_, trivial⟩
    first
      | (exfalso; omega)
      | rw [decide_eq_true (by unfold isR; omega)]
      | rw [decide_eq_false (by unfold isR; omega)]
      | trace_state
theorem wrU8 (n : Nat) (K : Value → Prop) : Wr .u8 (n : Int) K = K (.int .u8 ((n % 256 : Nat) : Int)) := by
  have : IntKind.u8.wrap (n : Int) = ((n % 256 : Nat) : Int) := by simp [IntKind.wrap, IntKind.bits, IntKind.signed]
  unfold Wr; rw [this]
theorem sh6 (r : Nat) : (r : Int).fdiv (2 ^ min 6 IntKind.i32.bits) = ((r / 64 : Nat) : Int) := by
  rw [show (2 : Int) ^ min 6 IntKind.i32.bits = ((64 : Nat) : Int) from rfl, Int.fdiv_eq_ediv_of_nonneg _ (by omega), ← Int.natCast_ediv]
theorem sh12 (r : Nat) : (r : Int).fdiv (2 ^ min 12 IntKind.i32.bits) = ((r / 4096 : Nat) : Int) := by
  rw [show (2 : Int) ^ min 12 IntKind.i32.bits = ((4096 : Nat) : Int) from rfl, Int.fdiv_eq_ediv_of_nonneg _ (by omega), ← Int.natCast_ediv]
theorem sh18 (r : Nat) : (r : Int).fdiv (2 ^ min 18 IntKind.i32.bits) = ((r / 262144 : Nat) : Int) := by
  rw [show (2 : Int) ^ min 18 IntKind.i32.bits = ((262144 : Nat) : Int) from rfl, Int.fdiv_eq_ediv_of_nonneg _ (by omega), ← Int.natCast_ediv]
theorem and63 (n : Nat) (K : Value → Prop) : arith .and .u8 ((n % 256 : Nat) : Int) 63 K = K (.int .u8 ((n % 64 : Nat) : Int)) := by
  have h : ∀ m, m < 256 → IntKind.u8.wrap ((BitVec.ofInt IntKind.u8.bits ((m : Nat) : Int) &&& BitVec.ofInt IntKind.u8.bits 63).toNat : Int) = ((m % 64 : Nat) : Int) := by decide
  have := h (n % 256) (by omega)
  rw [show n % 256 % 64 = n % 64 by omega] at this
  show K (.int .u8 (IntKind.u8.wrap ((BitVec.ofInt IntKind.u8.bits ((n % 256 : Nat) : Int) &&& BitVec.ofInt IntKind.u8.bits 63).toNat : Int))) = _
  rw [this]
theorem or128 (n : Nat) (K : Value → Prop) : arith .or .u8 128 ((n % 64 : Nat) : Int) K = K (.int .u8 ((128 + n % 64 : Nat) : Int)) := by
  have h : ∀ m, m < 64 → IntKind.u8.wrap ((BitVec.ofInt IntKind.u8.bits 128 ||| BitVec.ofInt IntKind.u8.bits ((m : Nat) : Int)).toNat : Int) = ((128 + m : Nat) : Int) := by decide
  show K (.int .u8 (IntKind.u8.wrap ((BitVec.ofInt IntKind.u8.bits 128 ||| BitVec.ofInt IntKind.u8.bits ((n % 64 : Nat) : Int)).toNat : Int))) = _
  rw [h (n % 64) (by omega)]
theorem or192 (m : Nat) (K : Value → Prop) (hm : m < 32) : arith .or .u8 192 ((m % 256 : Nat) : Int) K = K (.int .u8 ((192 + m : Nat) : Int)) := by
  have h : ∀ m, m < 32 → IntKind.u8.wrap ((BitVec.ofInt IntKind.u8.bits 192 ||| BitVec.ofInt IntKind.u8.bits ((m : Nat) : Int)).toNat : Int) = ((192 + m : Nat) : Int) := by decide
  rw [Nat.mod_eq_of_lt (by omega)]
  show K (.int .u8 (IntKind.u8.wrap ((BitVec.ofInt IntKind.u8.bits 192 ||| BitVec.ofInt IntKind.u8.bits ((m : Nat) : Int)).toNat : Int))) = _
  rw [h m hm]
theorem or224 (m : Nat) (K : Value → Prop) (hm : m < 16) : arith .or .u8 224 ((m % 256 : Nat) : Int) K = K (.int .u8 ((224 + m : Nat) : Int)) := by
  have h : ∀ m, m < 16 → IntKind.u8.wrap ((BitVec.ofInt IntKind.u8.bits 224 ||| BitVec.ofInt IntKind.u8.bits ((m : Nat) : Int)).toNat : Int) = ((224 + m : Nat) : Int) := by decide
  rw [Nat.mod_eq_of_lt (by omega)]
  show K (.int .u8 (IntKind.u8.wrap ((BitVec.ofInt IntKind.u8.bits 224 ||| BitVec.ofInt IntKind.u8.bits ((m : Nat) : Int)).toNat : Int))) = _
  rw [h m hm]
theorem or240 (m : Nat) (K : Value → Prop) (hm : m < 8) : arith .or .u8 240 ((m % 256 : Nat) : Int) K = K (.int .u8 ((240 + m : Nat) : Int)) := by
  have h : ∀ m, m < 8 → IntKind.u8.wrap ((BitVec.ofInt IntKind.u8.bits 240 ||| BitVec.ofInt IntKind.u8.bits ((m : Nat) : Int)).toNat : Int) = ((240 + m : Nat) : Int) := by decide
  rw [Nat.mod_eq_of_lt (by omega)]
  show K (.int .u8 (IntKind.u8.wrap ((BitVec.ofInt IntKind.u8.bits 240 ||| BitVec.ofInt IntKind.u8.bits ((m : Nat) : Int)).toNat : Int))) = _
  rw [h m hm]
theorem zU2 : zrep (zcells Tryd.prog 5) 2 = #[.int .u8 0, .int .u8 0] := by kernel_rfl
theorem zU3 : zrep (zcells Tryd.prog 5) 3 = #[.int .u8 0, .int .u8 0, .int .u8 0] := by kernel_rfl
theorem zU4 : zrep (zcells Tryd.prog 5) 4 = #[.int .u8 0, .int .u8 0, .int .u8 0, .int .u8 0] := by kernel_rfl
theorem appNon_any (w : World) (v : Value) (out : List UInt8) (b0 r : Nat) (hr : isR r) (h1 : 128 ≤ r) (hv : Vec w v 1 (bc out) b0) (hb0 : b0 ≤ w.heap.size) (hl : out.length ≤ 10000000000000) :
    Calls Tryd.prog 59 [v, .int .i32 r].toArray w fun e w' => ∃ v', e = .returned v' ∧ Vec w' v' 1 (bc (out ++ rb r)) b0 ∧ Fr (b0 ≤ ·) w w' := by
  refine enter59 (by simp) ?_
  have hr2 : r ≤ 1114111 := by unfold isR at hr; omega
  have hlr : (rb r).length ≤ 4 := by unfold rb; repeat' split
                                     all_goals simp
  have hz : (zcells Tryd.prog 5).size = 1 := by kernel_rfl
  have step : ∀ (C : Array Value) (n : Nat), C = List.toArray (bc (rb r)) → (rb r).length = n → AppVC Tryd.prog 5 1 1 (w.alloc (.cells C 5)) v (.slice (some ⟨w.heap.size, 0, none⟩) n n) fun x w' => ∃ v', Ending.returned x = Ending.returned v' ∧ Vec w' v' 1 (bc (out ++ rb r)) b0 ∧ Fr (b0 ≤ ·) w w' := by
    intro C n hC hn
    have hF : Fr X.no w (w.alloc (.cells C 5)) := (Fr.refl _ _).alloc _
    refine app_bytes (hv.fr hF fun _ _ h => h) (by rw [sz_alloc]; omega) hz (by omega) hn (Row.new _ _ _) hC ?_
    intro x w' h2 h3 h4
    exact ⟨x, rfl, h2, hF.mono (fun _ _ h => h.elim) |>.trans' h3 fun k _ hk => hv.blk_ge k hk⟩
  by_cases d1 : r ≤ 2047
  · have c1 : ((r : Int) ≤ 2047) = True := by simp; omega
    have c2 : ((r : Int) < 55296) = True := by simp; omega
    have c3 : ((57343 : Int) < r) = False := by simp; omega
    have c4 : ((r : Int) ≤ 65535) = True := by simp; omega
    have c5 : ((65535 : Int) < r) = False := by simp; omega
    have c6 : ((r : Int) ≤ 1114111) = True := by simp; omega
    have o1 := fun K => or192 (r / 64) K (by omega)
    (simp only [RA, MI, S.dst, Nat.reduceAdd, Nat.reduceMul, Nat.reduceEqDiff, ↓reduceIte, reduceCtorEq, ne_eq, Nat.reduceLT, Nat.reduceLeDiff, gt_iff_lt, ge_iff_le, Int.reduceToNat, Nat.reduceSub, Int.reduceEq, Int.reduceLT, Int.reduceLE, not_true_eq_false, c59, x59.down, btE, tup_10, List.take_length, ba_nil, ba_size, ba_list, ba_ext, ba_add, true_and, at_z, at_s, putc1, putc4, List.setIfInBounds_toArray, List.set_cons_zero, List.set_cons_succ, List.size_toArray, List.length_cons, List.length_nil, List.toList_toArray, wrU8, sh6, sh12, sh18, and63, or128, zU1, zU2, zU3, zU4, c1, c2, c3, c4, c5, c6, o1])
    refine wr_u32 (by omega) (by omega) ?_
    (simp only [RA, MI, S.dst, Nat.reduceAdd, Nat.reduceMul, Nat.reduceEqDiff, ↓reduceIte, reduceCtorEq, ne_eq, Nat.reduceLT, Nat.reduceLeDiff, gt_iff_lt, ge_iff_le, Int.reduceToNat, Nat.reduceSub, Int.reduceEq, Int.reduceLT, Int.reduceLE, not_true_eq_false, c59, x59.down, btE, tup_10, List.take_length, ba_nil, ba_size, ba_list, ba_ext, ba_add, true_and, at_z, at_s, putc1, putc4, List.setIfInBounds_toArray, List.set_cons_zero, List.set_cons_succ, List.size_toArray, List.length_cons, List.length_nil, List.toList_toArray, wrU8, sh6, sh12, sh18, and63, or128, zU1, zU2, zU3, zU4, c1, c2, c3, c4, c5, c6, o1])
    refine step _ _ ?_ ?_
    all_goals rw [rb, if_neg (by omega), if_pos (by omega)]
    · simp only [bc, List.map_cons, List.map_nil]
      rw [ofNat_small (by omega), ofNat_small (by omega)]
    · rfl
  by_cases d2 : r ≤ 65535
  · have c1 : ((r : Int) ≤ 2047) = False := by simp; omega
    have c4 : ((r : Int) ≤ 65535) = True := by simp; omega
    have c5 : ((65535 : Int) < r) = False := by simp; omega
    have c6 : ((r : Int) ≤ 1114111) = True := by simp; omega
    have o1 := fun K => or224 (r / 4096) K (by omega)
    have fin : (#[Value.int .u8 ((224 + r / 4096 : Nat) : Int), .int .u8 ((128 + r / 64 % 64 : Nat) : Int), .int .u8 ((128 + r % 64 : Nat) : Int)] : Array Value) = List.toArray (bc (rb r)) ∧ (rb r).length = 3 := by
      rw [rb, if_neg (by omega), if_neg (by omega), if_pos (by omega)]
      simp only [bc, List.map_cons, List.map_nil]
      rw [ofNat_small (by omega), ofNat_small (by omega), ofNat_small (by omega)]
      exact ⟨rfl, rfl⟩
    by_cases d3 : r < 55296
    · have c2 : ((r : Int) < 55296) = True := by simp; omega
      have c3 : ((57343 : Int) < r) = False := by simp; omega
      (simp only [RA, MI, S.dst, Nat.reduceAdd, Nat.reduceMul, Nat.reduceEqDiff, ↓reduceIte, reduceCtorEq, ne_eq, Nat.reduceLT, Nat.reduceLeDiff, gt_iff_lt, ge_iff_le, Int.reduceToNat, Nat.reduceSub, Int.reduceEq, Int.reduceLT, Int.reduceLE, not_true_eq_false, c59, x59.down, btE, tup_10, List.take_length, ba_nil, ba_size, ba_list, ba_ext, ba_add, true_and, at_z, at_s, putc1, putc4, List.setIfInBounds_toArray, List.set_cons_zero, List.set_cons_succ, List.size_toArray, List.length_cons, List.length_nil, List.toList_toArray, wrU8, sh6, sh12, sh18, and63, or128, zU1, zU2, zU3, zU4, c1, c2, c3, c4, c5, c6, o1])
      refine wr_u32 (by omega) (by omega) ?_
      (simp only [RA, MI, S.dst, Nat.reduceAdd, Nat.reduceMul, Nat.reduceEqDiff, ↓reduceIte, reduceCtorEq, ne_eq, Nat.reduceLT, Nat.reduceLeDiff, gt_iff_lt, ge_iff_le, Int.reduceToNat, Nat.reduceSub, Int.reduceEq, Int.reduceLT, Int.reduceLE, not_true_eq_false, c59, x59.down, btE, tup_10, List.take_length, ba_nil, ba_size, ba_list, ba_ext, ba_add, true_and, at_z, at_s, putc1, putc4, List.setIfInBounds_toArray, List.set_cons_zero, List.set_cons_succ, List.size_toArray, List.length_cons, List.length_nil, List.toList_toArray, wrU8, sh6, sh12, sh18, and63, or128, zU1, zU2, zU3, zU4, c1, c2, c3, c4, c5, c6, o1])
      exact step _ _ fin.1 fin.2
    · have c2 : ((r : Int) < 55296) = False := by simp; omega
      have c3 : ((57343 : Int) < r) = True := by simp; unfold isR at hr; omega
      (simp only [RA, MI, S.dst, Nat.reduceAdd, Nat.reduceMul, Nat.reduceEqDiff, ↓reduceIte, reduceCtorEq, ne_eq, Nat.reduceLT, Nat.reduceLeDiff, gt_iff_lt, ge_iff_le, Int.reduceToNat, Nat.reduceSub, Int.reduceEq, Int.reduceLT, Int.reduceLE, not_true_eq_false, c59, x59.down, btE, tup_10, List.take_length, ba_nil, ba_size, ba_list, ba_ext, ba_add, true_and, at_z, at_s, putc1, putc4, List.setIfInBounds_toArray, List.set_cons_zero, List.set_cons_succ, List.size_toArray, List.length_cons, List.length_nil, List.toList_toArray, wrU8, sh6, sh12, sh18, and63, or128, zU1, zU2, zU3, zU4, c1, c2, c3, c4, c5, c6, o1])
      refine wr_u32 (by omega) (by omega) ?_
      (simp only [RA, MI, S.dst, Nat.reduceAdd, Nat.reduceMul, Nat.reduceEqDiff, ↓reduceIte, reduceCtorEq, ne_eq, Nat.reduceLT, Nat.reduceLeDiff, gt_iff_lt, ge_iff_le, Int.reduceToNat, Nat.reduceSub, Int.reduceEq, Int.reduceLT, Int.reduceLE, not_true_eq_false, c59, x59.down, btE, tup_10, List.take_length, ba_nil, ba_size, ba_list, ba_ext, ba_add, true_and, at_z, at_s, putc1, putc4, List.setIfInBounds_toArray, List.set_cons_zero, List.set_cons_succ, List.size_toArray, List.length_cons, List.length_nil, List.toList_toArray, wrU8, sh6, sh12, sh18, and63, or128, zU1, zU2, zU3, zU4, c1, c2, c3, c4, c5, c6, o1])
      exact step _ _ fin.1 fin.2
  · have c1 : ((r : Int) ≤ 2047) = False := by simp; omega
    have c2 : ((r : Int) < 55296) = False := by simp; omega
    have c3 : ((57343 : Int) < r) = True := by simp; omega
    have c4 : ((r : Int) ≤ 65535) = False := by simp; omega
    have c5 : ((65535 : Int) < r) = True := by simp; omega
    have c6 : ((r : Int) ≤ 1114111) = True := by simp; omega
    have o1 := fun K => or240 (r / 262144) K (by omega)
    (simp only [RA, MI, S.dst, Nat.reduceAdd, Nat.reduceMul, Nat.reduceEqDiff, ↓reduceIte, reduceCtorEq, ne_eq, Nat.reduceLT, Nat.reduceLeDiff, gt_iff_lt, ge_iff_le, Int.reduceToNat, Nat.reduceSub, Int.reduceEq, Int.reduceLT, Int.reduceLE, not_true_eq_false, c59, x59.down, btE, tup_10, List.take_length, ba_nil, ba_size, ba_list, ba_ext, ba_add, true_and, at_z, at_s, putc1, putc4, List.setIfInBounds_toArray, List.set_cons_zero, List.set_cons_succ, List.size_toArray, List.length_cons, List.length_nil, List.toList_toArray, wrU8, sh6, sh12, sh18, and63, or128, zU1, zU2, zU3, zU4, c1, c2, c3, c4, c5, c6, o1])
    refine wr_u32 (by omega) (by omega) ?_
    (simp only [RA, MI, S.dst, Nat.reduceAdd, Nat.reduceMul, Nat.reduceEqDiff, ↓reduceIte, reduceCtorEq, ne_eq, Nat.reduceLT, Nat.reduceLeDiff, gt_iff_lt, ge_iff_le, Int.reduceToNat, Nat.reduceSub, Int.reduceEq, Int.reduceLT, Int.reduceLE, not_true_eq_false, c59, x59.down, btE, tup_10, List.take_length, ba_nil, ba_size, ba_list, ba_ext, ba_add, true_and, at_z, at_s, putc1, putc4, List.setIfInBounds_toArray, List.set_cons_zero, List.set_cons_succ, List.size_toArray, List.length_cons, List.length_nil, List.toList_toArray, wrU8, sh6, sh12, sh18, and63, or128, zU1, zU2, zU3, zU4, c1, c2, c3, c4, c5, c6, o1])
    refine step _ _ ?_ ?_
    all_goals rw [rb, if_neg (by omega), if_neg (by omega), if_neg (by omega)]
    · simp only [bc, List.map_cons, List.map_nil]
      rw [ofNat_small (by omega), ofNat_small (by omega), ofNat_small (by omega), ofNat_small (by omega)]
    · rfl
theorem AppendRune_any (w : World) (v : Value) (out : List UInt8) (b0 r : Nat) (hr : isR r) (hv : Vec w v 1 (bc out) b0) (hb0 : b0 ≤ w.heap.size) (hl : out.length ≤ 10000000000000) :
    Calls Tryd.prog 58 [v, .int .i32 r].toArray w fun e w' => ∃ v', e = .returned v' ∧ Vec w' v' 1 (bc (out ++ rb r)) b0 ∧ Fr (b0 ≤ ·) w w' := by
  refine enter58 (by simp) ?_
  have hr2 : r ≤ 1114111 := by unfold isR at hr; omega
  have hz : (zcells Tryd.prog 5).size = 1 := by kernel_rfl
  by_cases d1 : r ≤ 127
  · have c1 : ((r : Int) ≤ 127) = True := by simp; omega
    (simp only [RA, MI, S.dst, Nat.reduceAdd, Nat.reduceMul, Nat.reduceEqDiff, ↓reduceIte, reduceCtorEq, ne_eq, Nat.reduceLT, Nat.reduceLeDiff, gt_iff_lt, ge_iff_le, Int.reduceToNat, Nat.reduceSub, Int.reduceEq, Int.reduceLT, Int.reduceLE, not_true_eq_false, c58, x58.down, btE, tup_10, List.take_length, ba_nil, ba_size, ba_list, ba_ext, ba_add, true_and, at_z, at_s, putc1, putc4, List.setIfInBounds_toArray, List.set_cons_zero, List.set_cons_succ, List.size_toArray, List.length_cons, List.length_nil, List.toList_toArray, wrU8, zU1, c1])
    refine wr_u32 (by omega) (by omega) ?_
    (simp only [RA, MI, S.dst, Nat.reduceAdd, Nat.reduceMul, Nat.reduceEqDiff, ↓reduceIte, reduceCtorEq, ne_eq, Nat.reduceLT, Nat.reduceLeDiff, gt_iff_lt, ge_iff_le, Int.reduceToNat, Nat.reduceSub, Int.reduceEq, Int.reduceLT, Int.reduceLE, not_true_eq_false, c58, x58.down, btE, tup_10, List.take_length, ba_nil, ba_size, ba_list, ba_ext, ba_add, true_and, at_z, at_s, putc1, putc4, List.setIfInBounds_toArray, List.set_cons_zero, List.set_cons_succ, List.size_toArray, List.length_cons, List.length_nil, List.toList_toArray, wrU8, zU1, c1])
    have hF : Fr X.no w (w.alloc (.cells #[.int .u8 ((r % 256 : Nat) : Int)] 5)) := (Fr.refl _ _).alloc _
    refine app_bytes (new := rb r) (hv.fr hF fun _ _ h => h) (by rw [sz_alloc]; omega) hz ?_ ?_ (Row.new _ _ _) ?_ ?_
    · rw [rb, if_pos (by omega)]; simp; omega
    · rw [rb, if_pos (by omega)]; rfl
    · rw [rb, if_pos (by omega)]
      simp only [bc, List.map_cons, List.map_nil]
      rw [ofNat_small (by omega), Nat.mod_eq_of_lt (by omega)]
    intro x w' h2 h3 h4
    exact ⟨x, rfl, h2, hF.mono (fun _ _ h => h.elim) |>.trans' h3 fun k _ hk => hv.blk_ge k hk⟩
  · have c1 : ((r : Int) ≤ 127) = False := by simp; omega
    (simp only [RA, MI, S.dst, Nat.reduceAdd, Nat.reduceMul, Nat.reduceEqDiff, ↓reduceIte, reduceCtorEq, ne_eq, Nat.reduceLT, Nat.reduceLeDiff, gt_iff_lt, ge_iff_le, Int.reduceToNat, Nat.reduceSub, Int.reduceEq, Int.reduceLT, Int.reduceLE, not_true_eq_false, c58, x58.down, btE, tup_10, List.take_length, ba_nil, ba_size, ba_list, ba_ext, ba_add, true_and, at_z, at_s, putc1, putc4, List.setIfInBounds_toArray, List.set_cons_zero, List.set_cons_succ, List.size_toArray, List.length_cons, List.length_nil, List.toList_toArray, wrU8, zU1, c1])
    refine wr_u32 (by omega) (by omega) ?_
    (simp only [RA, MI, S.dst, Nat.reduceAdd, Nat.reduceMul, Nat.reduceEqDiff, ↓reduceIte, reduceCtorEq, ne_eq, Nat.reduceLT, Nat.reduceLeDiff, gt_iff_lt, ge_iff_le, Int.reduceToNat, Nat.reduceSub, Int.reduceEq, Int.reduceLT, Int.reduceLE, not_true_eq_false, c58, x58.down, btE, tup_10, List.take_length, ba_nil, ba_size, ba_list, ba_ext, ba_add, true_and, at_z, at_s, putc1, putc4, List.setIfInBounds_toArray, List.set_cons_zero, List.set_cons_succ, List.size_toArray, List.length_cons, List.length_nil, List.toList_toArray, wrU8, zU1, c1])
    refine calls_mono (appNon_any w v out b0 r hr (by omega) hv hb0 hl) ?_
    rintro _ w' ⟨v', rfl, h2, h3⟩
    (simp only [RA, MI, S.dst, Nat.reduceAdd, Nat.reduceMul, Nat.reduceEqDiff, ↓reduceIte, reduceCtorEq, ne_eq, Nat.reduceLT, Nat.reduceLeDiff, gt_iff_lt, ge_iff_le, Int.reduceToNat, Nat.reduceSub, Int.reduceEq, Int.reduceLT, Int.reduceLE, not_true_eq_false, c58, x58.down, btE, tup_10, List.take_length, ba_nil, ba_size, ba_list, ba_ext, ba_add, true_and, at_z, at_s, putc1, putc4, List.setIfInBounds_toArray, List.set_cons_zero, List.set_cons_succ, List.size_toArray, List.length_cons, List.length_nil, List.toList_toArray, wrU8, zU1, c1])
    exact ⟨v', rfl, h2, h3⟩
end Go.Proofs.YtgibicifflfpfaaDoor
