/-
  cursor.Put, and the writer, walked. Conditions: none.
-/
import Derived.Test.YtdggcoaabohlmaaDoorC4
set_option autoImplicit false
set_option linter.unusedSimpArgs false
set_option linter.unusedVariables false
namespace Go.Proofs.YtdggcoaabohlmaaDoor
open X

theorem u8s_bc : ∀ l : List UInt8, u8s (bc l) = some l
  | [] => rfl
  | b :: l => by
    have := u8s_bc l
    simp only [bc] at this
    simp only [bc, List.map_cons, u8s, this, Option.map_some, Int.toNat_natCast]
    congr 2
    exact UInt8.ofNat_toNat
theorem bytes_bc {l : List UInt8} {K : ByteArray → Prop} : Bytes1 (bc l) K = K (ba l) := by unfold Bytes1; rw [u8s_bc]; rfl
theorem bc_set (l : List UInt8) (j : Nat) (x : UInt8) : (List.toArray (bc l)).setIfInBounds j (.int .u8 x.toNat) = List.toArray (bc (l.set j x)) := by
  simp [bc, List.map_set]
theorem zU : zcells Tryd.prog 5 = #[.int .u8 0] := by kernel_rfl
theorem zrepU (k : Nat) : zrep #[.int .u8 0] k = List.toArray (bc (List.replicate k 0)) := by
  apply Array.ext'
  simp only [zrep, bc]
  apply List.ext_getElem?
  intro i
  simp only [Array.toList_map, Array.toList_range, List.getElem?_map, List.map_replicate, List.getElem?_replicate]
  rcases Nat.lt_or_ge i k with h | h
  · rw [List.getElem?_range h, if_pos h]; simp [Nat.mod_one]
  · rw [List.getElem?_eq_none (by simpa using h), if_neg (by omega)]; rfl
theorem byte_of (n : Nat) (i : Nat) : IntKind.u8.wrap ((n : Int).fdiv (2 ^ (8 * i))) = ((UInt8.ofNat (n / 256 ^ i)).toNat : Int) := by
  have h1 : (2 : Int) ^ (8 * i) = ((256 ^ i : Nat) : Int) := by rw [Int.pow_mul, Int.natCast_pow]; congr 1
  have h2 : (UInt8.ofNat (n / 256 ^ i)).toNat = n / 256 ^ i % 256 := UInt8.toNat_ofNat'
  rw [h1, Int.fdiv_eq_ediv_of_nonneg _ (Int.natCast_nonneg _), ← Int.natCast_ediv, h2]
  have h3 : ∀ m : Nat, IntKind.u8.wrap (m : Int) = ((m % 256 : Nat) : Int) := fun m => by
    simp [IntKind.wrap, IntKind.signed, IntKind.bits]
  rw [h3]
theorem put_set (n k i : Nat) (h : i < k) : (List.replicate (k - i) 0 ++ be n i).set (k - 1 - i) (UInt8.ofNat (n / 256 ^ i)) = List.replicate (k - (i + 1)) 0 ++ be n (i + 1) := by
  obtain ⟨m, hm⟩ : ∃ m, k - i = m + 1 := ⟨k - i - 1, by omega⟩
  rw [be_front, hm, show k - 1 - i = m by omega, show k - (i + 1) = m by omega, List.replicate_succ', List.append_assoc, List.set_append_right _ _ (by simp)]
  simp

theorem shr_pos {n : Int} {k : Nat} (hk : 1 ≤ k ∧ k ≤ 4) (hn : 0 ≤ n) : 0 < n.fdiv (2 ^ min (8 * (k : Int)).toNat IntKind.i64.bits) ↔ 256 ^ k ≤ n := by
  have h : (k = 1 ∨ k = 2) ∨ k = 3 ∨ k = 4 := by omega
  have h2 : ∀ c : Int, 0 < c → (0 < n.fdiv c ↔ c ≤ n) := fun c hc => by
    rw [Int.fdiv_eq_ediv_of_nonneg _ (by omega)]
    constructor
    · intro h
      rcases Int.lt_or_le n c with h1 | h1
      · rw [Int.ediv_eq_zero_of_lt hn h1] at h; omega
      · exact h1
    · intro h
      have := Int.le_ediv_of_mul_le hc (show 1 * c ≤ n by omega)
      omega
  rcases h with (rfl | rfl) | rfl | rfl
  · exact h2 (2 ^ 8) (by decide)
  · exact h2 (2 ^ 16) (by decide)
  · exact h2 (2 ^ 24) (by decide)
  · exact h2 (2 ^ 32) (by decide)
theorem wr_of {k : IntKind} {n : Int} {K : Value → Prop} (h : K (.int k (k.wrap n))) : Wr k n K := h
/-- Has a number room in k bytes? -/
def fits (n : Int) (k : Nat) : Prop := 0 ≤ n ∧ n < 256 ^ k
instance (n : Int) (k : Nat) : Decidable (fits n k) := inferInstanceAs (Decidable (_ ∧ _))
theorem Put_any (w : World) (n : Int) (k : Nat) (hk : 1 ≤ k ∧ k ≤ 4) : Calls Tryd.prog 24 [.int .i64 n, .int .i64 k].toArray w fun e w' => Fr no w w' ∧
    e = .returned (.tuple (if fits n k then #[.string (ba (be n.toNat k)), .int .i64 0] else #[.string (ba []), .int .i64 11])) := by
  refine enter24 (by simp) ?_
  (repeat' first | (simp only [RA, MI, S.dst, Nat.reduceAdd, Nat.reduceMul, Nat.reduceEqDiff, ↓reduceIte, reduceCtorEq, ne_eq, Nat.reduceLT, Nat.reduceLeDiff, gt_iff_lt, ge_iff_le, Int.reduceToNat, Nat.reduceSub, Int.reduceEq, Int.reduceLT, Int.reduceLE, not_true_eq_false, c24, x24, ba_nil, ba_size, ba_list, ba_ext, true_and, zU, zrepU, Nat.mul_one]) | ((with_reducible first | apply ld_r | apply ldN_a | apply ldN_r | apply st_r | apply stN_a); (focus ((repeat' first | (with_reducible first | assumption | apply Own.set | apply Own.new | apply Own.newD | apply Own.drew | apply Row.drew | apply OwnT.drew | apply Row.set | apply Row.new | apply Row.newD | apply And.intro | apply Ones.nil | apply Ones.cons | apply one_i | apply one_s | apply one_b | apply one_p | apply one_l) | ((with_reducible first | apply Own.newE | apply Row.newE | apply OwnT.newE); (focus (first | omega | (focus (simp only [LN] at *; done)) | (focus (simp only [LN] at *; omega))))) | ((with_reducible first | apply Own.setE | apply Row.setE | apply OwnT.setE); (focus (first | omega | (focus (simp only [LN] at *; done)) | (focus (simp only [LN] at *; omega))))) | (with_reducible first | apply Own.alloc | apply Row.alloc | apply OwnT.alloc | apply Own.ne | apply Row.ne | apply OwnT.ne | apply Own.row) | (first | omega | (focus (simp only [LN] at *; done)) | (focus (simp only [LN] at *; omega))) | rfl); done))) | ((with_reducible first | apply bound_of | apply wr_i64 | apply wr_u8 | apply wr_u64); (first | omega | (focus (simp only [LN] at *; done)) | (focus (simp only [LN] at *; omega))); (first | omega | (focus (simp only [LN] at *; done)) | (focus (simp only [LN] at *; omega)))) | ((with_reducible first | apply ints_at | apply le_andI | apply le_andN | apply ne_andI); (first | omega | (focus (simp only [LN] at *; done)) | (focus (simp only [LN] at *; omega)))) | ((with_reducible first | apply same_and | apply same_andW); (focus ((repeat' first | (with_reducible first | assumption | apply And.intro | apply SameB.drew | apply SameB.drew' | apply SameB.alloc | apply SameB.setRow | exact SameB.refl _ _) | (intro _; (first | omega | (focus (simp only [LN] at *; done)) | (focus (simp only [LN] at *; omega)))) | (first | omega | (focus (simp only [LN] at *; done)) | (focus (simp only [LN] at *; omega)))); done))) | (with_reducible refine ite_of (fun _ => ?_) (fun _ => ?_)))
  refine calls_mono (sized_any w k) ?_
  rintro _ w ⟨rfl, rfl⟩
  have hsz : (1 : Int) ≤ k ∧ (k : Int) ≤ 4 := by omega
  simp only [hsz, and_self, decide_true]
  (repeat' first | (simp only [RA, MI, S.dst, Nat.reduceAdd, Nat.reduceMul, Nat.reduceEqDiff, ↓reduceIte, reduceCtorEq, ne_eq, Nat.reduceLT, Nat.reduceLeDiff, gt_iff_lt, ge_iff_le, Int.reduceToNat, Nat.reduceSub, Int.reduceEq, Int.reduceLT, Int.reduceLE, not_true_eq_false, c24, x24, ba_nil, ba_size, ba_list, ba_ext, true_and, zU, zrepU, Nat.mul_one]) | ((with_reducible first | apply ld_r | apply ldN_a | apply ldN_r | apply st_r | apply stN_a); (focus ((repeat' first | (with_reducible first | assumption | apply Own.set | apply Own.new | apply Own.newD | apply Own.drew | apply Row.drew | apply OwnT.drew | apply Row.set | apply Row.new | apply Row.newD | apply And.intro | apply Ones.nil | apply Ones.cons | apply one_i | apply one_s | apply one_b | apply one_p | apply one_l) | ((with_reducible first | apply Own.newE | apply Row.newE | apply OwnT.newE); (focus (first | omega | (focus (simp only [LN] at *; done)) | (focus (simp only [LN] at *; omega))))) | ((with_reducible first | apply Own.setE | apply Row.setE | apply OwnT.setE); (focus (first | omega | (focus (simp only [LN] at *; done)) | (focus (simp only [LN] at *; omega))))) | (with_reducible first | apply Own.alloc | apply Row.alloc | apply OwnT.alloc | apply Own.ne | apply Row.ne | apply OwnT.ne | apply Own.row) | (first | omega | (focus (simp only [LN] at *; done)) | (focus (simp only [LN] at *; omega))) | rfl); done))) | ((with_reducible first | apply bound_of | apply wr_i64 | apply wr_u8 | apply wr_u64); (first | omega | (focus (simp only [LN] at *; done)) | (focus (simp only [LN] at *; omega))); (first | omega | (focus (simp only [LN] at *; done)) | (focus (simp only [LN] at *; omega)))) | ((with_reducible first | apply ints_at | apply le_andI | apply le_andN | apply ne_andI); (first | omega | (focus (simp only [LN] at *; done)) | (focus (simp only [LN] at *; omega)))) | ((with_reducible first | apply same_and | apply same_andW); (focus ((repeat' first | (with_reducible first | assumption | apply And.intro | apply SameB.drew | apply SameB.drew' | apply SameB.alloc | apply SameB.setRow | exact SameB.refl _ _) | (intro _; (first | omega | (focus (simp only [LN] at *; done)) | (focus (simp only [LN] at *; omega)))) | (first | omega | (focus (simp only [LN] at *; done)) | (focus (simp only [LN] at *; omega)))); done))) | (with_reducible refine ite_of (fun _ => ?_) (fun _ => ?_)))
  · rename_i h1 h2
    refine ⟨Fr.refl _ _, ?_⟩
    have h3 := (shr_pos hk (by omega)).1 h2
    rw [if_neg (fun h => absurd h.2 (by omega))]
  · rename_i h1 h2
    have hf : fits n k := by
      refine ⟨by omega, ?_⟩
      have := mt (shr_pos hk (show 0 ≤ n by omega)).2 h2
      omega
    rw [if_pos hf]
    obtain ⟨m, rfl⟩ : ∃ m : Nat, n = m := ⟨n.toNat, by omega⟩
    rw [Int.toNat_natCast]
    have hlt : w.heap.size < (w.alloc (Obj.cells (List.toArray (bc (List.replicate k 0))) 5)).heap.size := by rw [World.size_alloc]; omega
    refine loop_of (σ := Nat) (fun i => [(0, .int .i64 m), (1, .int .i64 k), (6, .slice (some ⟨w.heap.size, 0, none⟩) k k), (24, .int .i64 k), (25, .int .i64 i)])
      (fun i w' => i ≤ k ∧ Own w' w.heap.size (List.toArray (bc (List.replicate (k - i) 0 ++ be m i))) ∧ Fr no w w') (fun i => k - i) 0 rfl ⟨by omega, ?_, by (focus ((repeat' first | (with_reducible first | assumption | apply Fr.drew | apply Fr.alloc | apply Fr.setRow | exact Fr.refl _ _) | (intro _; rfl) | (intro hb; first | (simp only [X.no] at *; omega) | (simp only [X.no, LN] at *; omega))); done))⟩ ?_
    · simp only [be, List.append_nil, Nat.sub_zero]; exact Own.new _ _ _
    rintro i w' ⟨hi, ho, hfr⟩
    (repeat' first | (simp only [RA, MI, S.dst, Nat.reduceAdd, Nat.reduceMul, Nat.reduceEqDiff, ↓reduceIte, reduceCtorEq, ne_eq, Nat.reduceLT, Nat.reduceLeDiff, gt_iff_lt, ge_iff_le, Int.reduceToNat, Nat.reduceSub, Int.reduceEq, Int.reduceLT, Int.reduceLE, not_true_eq_false, c24, x24, ba_nil, ba_size, ba_list, ba_ext, true_and, zU, zrepU, Nat.mul_one]) | ((with_reducible first | apply ld_r | apply ldN_a | apply ldN_r | apply st_r | apply stN_a); (focus ((repeat' first | (with_reducible first | assumption | apply Own.set | apply Own.new | apply Own.newD | apply Own.drew | apply Row.drew | apply OwnT.drew | apply Row.set | apply Row.new | apply Row.newD | apply And.intro | apply Ones.nil | apply Ones.cons | apply one_i | apply one_s | apply one_b | apply one_p | apply one_l) | ((with_reducible first | apply Own.newE | apply Row.newE | apply OwnT.newE); (focus (first | omega | (focus (simp only [LN] at *; done)) | (focus (simp only [LN] at *; omega))))) | ((with_reducible first | apply Own.setE | apply Row.setE | apply OwnT.setE); (focus (first | omega | (focus (simp only [LN] at *; done)) | (focus (simp only [LN] at *; omega))))) | (with_reducible first | apply Own.alloc | apply Row.alloc | apply OwnT.alloc | apply Own.ne | apply Row.ne | apply OwnT.ne | apply Own.row) | (first | omega | (focus (simp only [LN] at *; done)) | (focus (simp only [LN] at *; omega))) | rfl); done))) | ((with_reducible first | apply bound_of | apply wr_i64 | apply wr_u8 | apply wr_u64); (first | omega | (focus (simp only [LN] at *; done)) | (focus (simp only [LN] at *; omega))); (first | omega | (focus (simp only [LN] at *; done)) | (focus (simp only [LN] at *; omega)))) | ((with_reducible first | apply ints_at | apply le_andI | apply le_andN | apply ne_andI); (first | omega | (focus (simp only [LN] at *; done)) | (focus (simp only [LN] at *; omega)))) | ((with_reducible first | apply same_and | apply same_andW); (focus ((repeat' first | (with_reducible first | assumption | apply And.intro | apply SameB.drew | apply SameB.drew' | apply SameB.alloc | apply SameB.setRow | exact SameB.refl _ _) | (intro _; (first | omega | (focus (simp only [LN] at *; done)) | (focus (simp only [LN] at *; omega)))) | (first | omega | (focus (simp only [LN] at *; done)) | (focus (simp only [LN] at *; omega)))); done))) | (with_reducible refine ite_of (fun _ => ?_) (fun _ => ?_)))
    · have e : min (8 * (i : Int)).toNat IntKind.i64.bits = 8 * i := by have : IntKind.i64.bits = 64 := rfl; omega
      refine wr_of ?_
      rw [e, byte_of]
      (repeat' first | (simp only [RA, MI, S.dst, Nat.reduceAdd, Nat.reduceMul, Nat.reduceEqDiff, ↓reduceIte, reduceCtorEq, ne_eq, Nat.reduceLT, Nat.reduceLeDiff, gt_iff_lt, ge_iff_le, Int.reduceToNat, Nat.reduceSub, Int.reduceEq, Int.reduceLT, Int.reduceLE, not_true_eq_false, c24, x24, ba_nil, ba_size, ba_list, ba_ext, true_and, zU, zrepU, Nat.mul_one]) | ((with_reducible first | apply ld_r | apply ldN_a | apply ldN_r | apply st_r | apply stN_a); (focus ((repeat' first | (with_reducible first | assumption | apply Own.set | apply Own.new | apply Own.newD | apply Own.drew | apply Row.drew | apply OwnT.drew | apply Row.set | apply Row.new | apply Row.newD | apply And.intro | apply Ones.nil | apply Ones.cons | apply one_i | apply one_s | apply one_b | apply one_p | apply one_l) | ((with_reducible first | apply Own.newE | apply Row.newE | apply OwnT.newE); (focus (first | omega | (focus (simp only [LN] at *; done)) | (focus (simp only [LN] at *; omega))))) | ((with_reducible first | apply Own.setE | apply Row.setE | apply OwnT.setE); (focus (first | omega | (focus (simp only [LN] at *; done)) | (focus (simp only [LN] at *; omega))))) | (with_reducible first | apply Own.alloc | apply Row.alloc | apply OwnT.alloc | apply Own.ne | apply Row.ne | apply OwnT.ne | apply Own.row) | (first | omega | (focus (simp only [LN] at *; done)) | (focus (simp only [LN] at *; omega))) | rfl); done))) | ((with_reducible first | apply bound_of | apply wr_i64 | apply wr_u8 | apply wr_u64); (first | omega | (focus (simp only [LN] at *; done)) | (focus (simp only [LN] at *; omega))); (first | omega | (focus (simp only [LN] at *; done)) | (focus (simp only [LN] at *; omega)))) | ((with_reducible first | apply ints_at | apply le_andI | apply le_andN | apply ne_andI); (first | omega | (focus (simp only [LN] at *; done)) | (focus (simp only [LN] at *; omega)))) | ((with_reducible first | apply same_and | apply same_andW); (focus ((repeat' first | (with_reducible first | assumption | apply And.intro | apply SameB.drew | apply SameB.drew' | apply SameB.alloc | apply SameB.setRow | exact SameB.refl _ _) | (intro _; (first | omega | (focus (simp only [LN] at *; done)) | (focus (simp only [LN] at *; omega)))) | (first | omega | (focus (simp only [LN] at *; done)) | (focus (simp only [LN] at *; omega)))); done))) | (with_reducible refine ite_of (fun _ => ?_) (fun _ => ?_)))
      rw [show ((k : Int) - 1 - i).toNat = k - 1 - i by omega]
      refine st_row ho (by simp [bc_len, be_len]; omega) rfl ?_
      rw [bc_set, put_set m k i (by omega)]
      (repeat' first | (simp only [RA, MI, S.dst, Nat.reduceAdd, Nat.reduceMul, Nat.reduceEqDiff, ↓reduceIte, reduceCtorEq, ne_eq, Nat.reduceLT, Nat.reduceLeDiff, gt_iff_lt, ge_iff_le, Int.reduceToNat, Nat.reduceSub, Int.reduceEq, Int.reduceLT, Int.reduceLE, not_true_eq_false, c24, x24, ba_nil, ba_size, ba_list, ba_ext, true_and, zU, zrepU, Nat.mul_one]) | ((with_reducible first | apply ld_r | apply ldN_a | apply ldN_r | apply st_r | apply stN_a); (focus ((repeat' first | (with_reducible first | assumption | apply Own.set | apply Own.new | apply Own.newD | apply Own.drew | apply Row.drew | apply OwnT.drew | apply Row.set | apply Row.new | apply Row.newD | apply And.intro | apply Ones.nil | apply Ones.cons | apply one_i | apply one_s | apply one_b | apply one_p | apply one_l) | ((with_reducible first | apply Own.newE | apply Row.newE | apply OwnT.newE); (focus (first | omega | (focus (simp only [LN] at *; done)) | (focus (simp only [LN] at *; omega))))) | ((with_reducible first | apply Own.setE | apply Row.setE | apply OwnT.setE); (focus (first | omega | (focus (simp only [LN] at *; done)) | (focus (simp only [LN] at *; omega))))) | (with_reducible first | apply Own.alloc | apply Row.alloc | apply OwnT.alloc | apply Own.ne | apply Row.ne | apply OwnT.ne | apply Own.row) | (first | omega | (focus (simp only [LN] at *; done)) | (focus (simp only [LN] at *; omega))) | rfl); done))) | ((with_reducible first | apply bound_of | apply wr_i64 | apply wr_u8 | apply wr_u64); (first | omega | (focus (simp only [LN] at *; done)) | (focus (simp only [LN] at *; omega))); (first | omega | (focus (simp only [LN] at *; done)) | (focus (simp only [LN] at *; omega)))) | ((with_reducible first | apply ints_at | apply le_andI | apply le_andN | apply ne_andI); (first | omega | (focus (simp only [LN] at *; done)) | (focus (simp only [LN] at *; omega)))) | ((with_reducible first | apply same_and | apply same_andW); (focus ((repeat' first | (with_reducible first | assumption | apply And.intro | apply SameB.drew | apply SameB.drew' | apply SameB.alloc | apply SameB.setRow | exact SameB.refl _ _) | (intro _; (first | omega | (focus (simp only [LN] at *; done)) | (focus (simp only [LN] at *; omega)))) | (first | omega | (focus (simp only [LN] at *; done)) | (focus (simp only [LN] at *; omega)))); done))) | (with_reducible refine ite_of (fun _ => ?_) (fun _ => ?_)))
      refine ⟨i + 1, by (first | rfl | (simp only [List.cons.injEq, Prod.mk.injEq, Value.int.injEq, Value.bool.injEq, true_and, and_true, List.cons_append, List.nil_append]; done) | (simp only [List.cons.injEq, Prod.mk.injEq, Value.int.injEq, Value.bool.injEq, true_and, and_true, List.cons_append, List.nil_append]; omega)), ⟨by omega, by (focus ((repeat' first | (with_reducible first | assumption | apply Own.set | apply Own.new | apply Own.newD | apply Own.drew | apply Row.drew | apply OwnT.drew | apply Row.set | apply Row.new | apply Row.newD | apply And.intro | apply Ones.nil | apply Ones.cons | apply one_i | apply one_s | apply one_b | apply one_p | apply one_l) | ((with_reducible first | apply Own.newE | apply Row.newE | apply OwnT.newE); (focus (first | omega | (focus (simp only [LN] at *; done)) | (focus (simp only [LN] at *; omega))))) | ((with_reducible first | apply Own.setE | apply Row.setE | apply OwnT.setE); (focus (first | omega | (focus (simp only [LN] at *; done)) | (focus (simp only [LN] at *; omega))))) | (with_reducible first | apply Own.alloc | apply Row.alloc | apply OwnT.alloc | apply Own.ne | apply Row.ne | apply OwnT.ne | apply Own.row) | (first | omega | (focus (simp only [LN] at *; done)) | (focus (simp only [LN] at *; omega))) | rfl); done)), by (focus ((repeat' first | (with_reducible first | assumption | apply Fr.drew | apply Fr.alloc | apply Fr.setRow | exact Fr.refl _ _) | (intro _; rfl) | (intro hb; first | (simp only [X.no] at *; omega) | (simp only [X.no, LN] at *; omega))); done))⟩, by omega⟩
    · obtain rfl : i = k := by omega
      rw [Nat.sub_self, List.replicate_zero, List.nil_append] at ho
      refine ldN_all ho.row (by simp [bc_len, be_len]) ?_
      rw [bytes_bc]
      exact ⟨hfr, rfl⟩
  · refine ⟨Fr.refl _ _, ?_⟩
    rw [if_neg (fun h => by have := h.1; omega)]
end Go.Proofs.YtdggcoaabohlmaaDoor
