/-
  The reader of edits: where it gives up, and numbers: walked. Conditions: none.
-/
import Derived.Test.YtgibicifflfpfaaDoorE15
set_option autoImplicit false
set_option linter.unusedSimpArgs false
set_option linter.unusedVariables false
namespace Go.Proofs.YtgibicifflfpfaaDoor
open X
set_option maxRecDepth 10000
set_option maxHeartbeats 1000000

theorem turnW_inj : ∀ i, i < 8 → ∀ k, k < 8 → (turnW.getD i [] = turnW.getD k [] ↔ i = k) := by decide
theorem turnW_asc : ∀ k, k < 8 → Asc (turnW.getD k []) ∧ (turnW.getD k []).length < 10 := by
  intro k hk
  match k, hk with
  | 0, _ | 1, _ | 2, _ | 3, _ | 4, _ | 5, _ | 6, _ | 7, _ => exact ⟨by simp [turnW, Asc], by decide⟩
theorem Kind_any (w : World) (k : Nat) (hk : k < 8) (hT : TN w) : Calls Tryd.prog 34 [.string (ba (turnW.getD k []))].toArray w fun r w' => r = .returned (.tuple #[.int .i64 k, .bool true]) ∧ Fr no w w' := by
  refine enter34 (by simp) ?_
  (repeat' first | (simp only [RA, MI, S.dst, Nat.reduceAdd, Nat.reduceMul, Nat.reduceEqDiff, ↓reduceIte, reduceCtorEq, ne_eq, Nat.reduceLT, Nat.reduceLeDiff, gt_iff_lt, ge_iff_le, Int.reduceToNat, Nat.reduceSub, Int.reduceEq, Int.reduceLT, Int.reduceLE, not_true_eq_false, c34, x34.down, btE, tup_10, List.take_length, ba_nil, ba_size, ba_list, ba_ext, ba_add, true_and, at_z, at_s, putc1, putc4, List.setIfInBounds_toArray, List.set_cons_zero, List.set_cons_succ, List.size_toArray, List.length_cons, List.length_nil, List.toList_toArray]) | ((with_reducible first | apply ld_r | apply ldN_a | apply ldN_r | apply st_r | apply stN_a); (exact X.rws)) | ((with_reducible first | apply bound_of | apply wr_i64 | apply wr_u8 | apply wr_u64 | apply wr_i32 | apply wr_i16 | apply wr_u32 | apply wr_u16); (exact X.om); (exact X.om)) | ((with_reducible first | apply ints_at | apply le_andI | apply le_andN | apply ne_andI); (exact X.om)) | ((with_reducible first | apply same_and | apply same_andW); (exact X.olz)) | (with_reducible refine ite_of (fun _ => ?_) (fun _ => ?_)))
  have hT' := hT
  unfold TN at hT'
  refine ldN_all hT' rfl ?_
  refine loop_ofx (σ := Nat) (fun i => [(0, .string (ba (turnW.getD k []))), (6, .agg namesC), (7, .int .i64 i)])
    (fun i w' => i ≤ k ∧ Fr no w w') (fun i => 8 - i) 0 [] rfl ⟨Nat.zero_le _, Fr.refl _ _⟩ ?_
  rintro i x w1 ⟨hi, hF⟩
  (repeat' first | (simp only [RA, MI, S.dst, Nat.reduceAdd, Nat.reduceMul, Nat.reduceEqDiff, ↓reduceIte, reduceCtorEq, ne_eq, Nat.reduceLT, Nat.reduceLeDiff, gt_iff_lt, ge_iff_le, Int.reduceToNat, Nat.reduceSub, Int.reduceEq, Int.reduceLT, Int.reduceLE, not_true_eq_false, c34, x34.down, btE, tup_10, List.take_length, ba_nil, ba_size, ba_list, ba_ext, ba_add, true_and, at_z, at_s, putc1, putc4, List.setIfInBounds_toArray, List.set_cons_zero, List.set_cons_succ, List.size_toArray, List.length_cons, List.length_nil, List.toList_toArray]) | ((with_reducible first | apply ld_r | apply ldN_a | apply ldN_r | apply st_r | apply stN_a); (exact X.rws)) | ((with_reducible first | apply bound_of | apply wr_i64 | apply wr_u8 | apply wr_u64 | apply wr_i32 | apply wr_i16 | apply wr_u32 | apply wr_u16); (exact X.om); (exact X.om)) | ((with_reducible first | apply ints_at | apply le_andI | apply le_andN | apply ne_andI); (exact X.om)) | ((with_reducible first | apply same_and | apply same_andW); (exact X.olz)) | (with_reducible refine ite_of (fun _ => ?_) (fun _ => ?_)))
  rotate_left
  · exfalso; omega
  refine names_at (by omega) ?_
  (repeat' first | (simp only [RA, MI, S.dst, Nat.reduceAdd, Nat.reduceMul, Nat.reduceEqDiff, ↓reduceIte, reduceCtorEq, ne_eq, Nat.reduceLT, Nat.reduceLeDiff, gt_iff_lt, ge_iff_le, Int.reduceToNat, Nat.reduceSub, Int.reduceEq, Int.reduceLT, Int.reduceLE, not_true_eq_false, c34, x34.down, btE, tup_10, List.take_length, ba_nil, ba_size, ba_list, ba_ext, ba_add, true_and, at_z, at_s, putc1, putc4, List.setIfInBounds_toArray, List.set_cons_zero, List.set_cons_succ, List.size_toArray, List.length_cons, List.length_nil, List.toList_toArray]) | ((with_reducible first | apply ld_r | apply ldN_a | apply ldN_r | apply st_r | apply stN_a); (exact X.rws)) | ((with_reducible first | apply bound_of | apply wr_i64 | apply wr_u8 | apply wr_u64 | apply wr_i32 | apply wr_i16 | apply wr_u32 | apply wr_u16); (exact X.om); (exact X.om)) | ((with_reducible first | apply ints_at | apply le_andI | apply le_andN | apply ne_andI); (exact X.om)) | ((with_reducible first | apply same_and | apply same_andW); (exact X.olz)) | (with_reducible refine ite_of (fun _ => ?_) (fun _ => ?_)))
  have h1 := turnW_asc i (by omega)
  have h2 := turnW_asc k (by omega)
  refine calls_mono (same_any w1 _ _ h1.1 (by omega) (by omega)) ?_
  rintro _ w2 ⟨rfl, hf2⟩
  simp only [turnW_inj i (by omega) k hk]
  (repeat' first | (simp only [RA, MI, S.dst, Nat.reduceAdd, Nat.reduceMul, Nat.reduceEqDiff, ↓reduceIte, reduceCtorEq, ne_eq, Nat.reduceLT, Nat.reduceLeDiff, gt_iff_lt, ge_iff_le, Int.reduceToNat, Nat.reduceSub, Int.reduceEq, Int.reduceLT, Int.reduceLE, not_true_eq_false, c34, x34.down, btE, tup_10, List.take_length, ba_nil, ba_size, ba_list, ba_ext, ba_add, true_and, at_z, at_s, putc1, putc4, List.setIfInBounds_toArray, List.set_cons_zero, List.set_cons_succ, List.size_toArray, List.length_cons, List.length_nil, List.toList_toArray]) | ((with_reducible first | apply ld_r | apply ldN_a | apply ldN_r | apply st_r | apply stN_a); (exact X.rws)) | ((with_reducible first | apply bound_of | apply wr_i64 | apply wr_u8 | apply wr_u64 | apply wr_i32 | apply wr_i16 | apply wr_u32 | apply wr_u16); (exact X.om); (exact X.om)) | ((with_reducible first | apply ints_at | apply le_andI | apply le_andN | apply ne_andI); (exact X.om)) | ((with_reducible first | apply same_and | apply same_andW); (exact X.olz)) | (with_reducible refine ite_of (fun _ => ?_) (fun _ => ?_)))
  · rename_i h
    subst h
    exact ⟨rfl, hF.and hf2⟩
  · refine ⟨i + 1, ⟨[], by (exact X.envz)⟩, ⟨by omega, hF.and hf2⟩, by omega⟩
/-- The reader of a text. -/
def RD (w : World) (b : Nat) (s : List UInt8) (i : Nat) : Prop := Own w b #[.string (ba s), .int .i64 i]
theorem RD.fr {S : Nat → Prop} {w w' : World} {b i : Nat} {s : List UInt8} (h : RD w b s i) (f : Fr S w w') (hn : ¬ S b) : RD w' b s i := Own.fr h f hn
def refV (x : Nat × Int) : Value := .iface 65 (.agg #[.int .i64 x.1, .int .i64 x.2])
def panE (x : Nat × Int) : Ending := .panicked [{ v := refV x, recovered := false }]
/-- It gives up, or answers. -/
def Thr {α : Type} (x : Except (Nat × Int) α) (en : Ending) (K : α → Prop) : Prop := match x with | .error p => en = panE p | .ok a => K a
theorem zRef : zcells Tryd.prog 65 = #[.int .i64 0, .int .i64 0] := by kernel_rfl
theorem fail_any (w : World) (b : Nat) (s : List UInt8) (at_ i : Nat) (h : RD w b s at_) : Calls Tryd.prog 38 [.pointer (some ⟨b, 0, none⟩), .int .i64 i].toArray w fun r w' => r = panE (errAt s i) ∧ Fr no w w' := by
  refine enter38 (by simp) ?_
  unfold RD at h
  (repeat' first | (simp only [RA, MI, S.dst, Nat.reduceAdd, Nat.reduceMul, Nat.reduceEqDiff, ↓reduceIte, reduceCtorEq, ne_eq, Nat.reduceLT, Nat.reduceLeDiff, gt_iff_lt, ge_iff_le, Int.reduceToNat, Nat.reduceSub, Int.reduceEq, Int.reduceLT, Int.reduceLE, not_true_eq_false, c38, x38.down, btE, tup_10, List.take_length, ba_nil, ba_size, ba_list, ba_ext, ba_add, true_and, at_z, at_s, putc1, putc4, List.setIfInBounds_toArray, List.set_cons_zero, List.set_cons_succ, List.size_toArray, List.length_cons, List.length_nil, List.toList_toArray, zRef]) | ((with_reducible first | apply ld_r | apply ldN_a | apply ldN_r | apply st_r | apply stN_a); (exact X.rws)) | ((with_reducible first | apply bound_of | apply wr_i64 | apply wr_u8 | apply wr_u64 | apply wr_i32 | apply wr_i16 | apply wr_u32 | apply wr_u16); (exact X.om); (exact X.om)) | ((with_reducible first | apply ints_at | apply le_andI | apply le_andN | apply ne_andI); (exact X.om)) | ((with_reducible first | apply same_and | apply same_andW); (exact X.olz)) | (with_reducible refine ite_of (fun _ => ?_) (fun _ => ?_)))
  · refine ⟨?_, Fr.refl _ _⟩
    unfold panE refV errAt
    rw [if_pos (by omega)]
  · refine ⟨?_, Fr.refl _ _⟩
    unfold panE refV errAt
    rw [if_neg (by omega)]
theorem numL_go {l : List UInt8} {k n : Nat} (h : 48 ≤ bt l 0 ∧ bt l 0 ≤ 57) (hk : k = 0 ∨ 0 < n) : numL l k n = numL (l.drop 1) (k + 1) (min (10 * n + (bt l 0 - 48)) 2147483648) := by
  cases l with
  | nil => exact absurd h.1 (by decide)
  | cons b l => rw [numL, if_pos ⟨h, hk⟩]; rfl
theorem numL_no {l : List UInt8} {k n : Nat} (h : ¬ ((48 ≤ bt l 0 ∧ bt l 0 ≤ 57) ∧ (k = 0 ∨ 0 < n))) : numL l k n = (n, k) := by
  cases l with
  | nil => rfl
  | cons b l => rw [numL]; exact if_neg h
theorem number_any (w : World) (b : Nat) (s : List UInt8) (i limit : Nat) (h : RD w b s i) (hi : i ≤ s.length) (hs : s.length < 1000000000000) (hl : limit ≤ 2147483647) : Calls Tryd.prog 36 [.pointer (some ⟨b, 0, none⟩), .int .i64 limit].toArray w fun r w' =>
    Fr (· = b) w w' ∧ Thr (numP s i limit) r fun x => r = .returned (.int .i64 x.1) ∧ RD w' b s x.2 := by
  refine enter36 (by simp) ?_
  unfold RD at h
  (repeat' first | (simp only [RA, MI, S.dst, Nat.reduceAdd, Nat.reduceMul, Nat.reduceEqDiff, ↓reduceIte, reduceCtorEq, ne_eq, Nat.reduceLT, Nat.reduceLeDiff, gt_iff_lt, ge_iff_le, Int.reduceToNat, Nat.reduceSub, Int.reduceEq, Int.reduceLT, Int.reduceLE, not_true_eq_false, c36, x36.down, btE, tup_10, List.take_length, ba_nil, ba_size, ba_list, ba_ext, ba_add, true_and, at_z, at_s, putc1, putc4, List.setIfInBounds_toArray, List.set_cons_zero, List.set_cons_succ, List.size_toArray, List.length_cons, List.length_nil, List.toList_toArray, zRef]) | ((with_reducible first | apply ld_r | apply ldN_a | apply ldN_r | apply st_r | apply stN_a); (exact X.rws)) | ((with_reducible first | apply bound_of | apply wr_i64 | apply wr_u8 | apply wr_u64 | apply wr_i32 | apply wr_i16 | apply wr_u32 | apply wr_u16); (exact X.om); (exact X.om)) | ((with_reducible first | apply ints_at | apply le_andI | apply le_andN | apply ne_andI); (exact X.om)) | ((with_reducible first | apply same_and | apply same_andW); (exact X.olz)) | (with_reducible refine ite_of (fun _ => ?_) (fun _ => ?_)))
  refine loop_ofx (σ := Nat × Nat) (fun j => [(0, .pointer (some ⟨b, 0, none⟩)), (1, .int .i64 limit), (5, .int .i64 i), (6, .int .i64 j.2), (19, .pointer (some ⟨w.heap.size, 0, none⟩))])
    (fun j w' => j.1 ≤ (s.drop i).length ∧ w'.heap[w.heap.size]? = some (.stringIter (ba (s.drop i)) j.1) ∧ Fr (· = b) w w' ∧ Own w' b #[.string (ba s), .int .i64 (i + j.1 : Nat)] ∧ j.2 ≤ 2147483648 ∧
      numL (s.drop i) 0 0 = numL ((s.drop i).drop j.1) j.1 j.2) (fun j => (s.drop i).length - j.1) (0, 0) [] rfl ⟨Nat.zero_le _, heap_alloc_new w _, by (exact X.frz), by (exact X.rws), by simp only; omega, rfl⟩ ?_
  rintro ⟨j, n⟩ x w1 ⟨hj, hit, hF, ho, hn, he⟩
  simp only at hj hit ho hn he
  (repeat' first | (simp only [RA, MI, S.dst, Nat.reduceAdd, Nat.reduceMul, Nat.reduceEqDiff, ↓reduceIte, reduceCtorEq, ne_eq, Nat.reduceLT, Nat.reduceLeDiff, gt_iff_lt, ge_iff_le, Int.reduceToNat, Nat.reduceSub, Int.reduceEq, Int.reduceLT, Int.reduceLE, not_true_eq_false, c36, x36.down, btE, tup_10, List.take_length, ba_nil, ba_size, ba_list, ba_ext, ba_add, true_and, at_z, at_s, putc1, putc4, List.setIfInBounds_toArray, List.set_cons_zero, List.set_cons_succ, List.size_toArray, List.length_cons, List.length_nil, List.toList_toArray, zRef]) | ((with_reducible first | apply ld_r | apply ldN_a | apply ldN_r | apply st_r | apply stN_a); (exact X.rws)) | ((with_reducible first | apply bound_of | apply wr_i64 | apply wr_u8 | apply wr_u64 | apply wr_i32 | apply wr_i16 | apply wr_u32 | apply wr_u16); (exact X.om); (exact X.om)) | ((with_reducible first | apply ints_at | apply le_andI | apply le_andN | apply ne_andI); (exact X.om)) | ((with_reducible first | apply same_and | apply same_andW); (exact X.olz)) | (with_reducible refine ite_of (fun _ => ?_) (fun _ => ?_)))
  have hlen : (s.drop i).length = s.length - i := List.length_drop
  refine nxt_of hit (fun hp => ?_) (fun hp => ?_)
  · rw [ba_size] at hp
    rw [dec_dn]
    have hit2 := iterAt_same (s := ba (s.drop i)) (p := j + (dn ((s.drop i).drop j)).2) hit
    have hF2 := hF.iterAt w.heap.size (ba (s.drop i)) (j + (dn ((s.drop i).drop j)).2) fun h => absurd h (by omega)
    have hlt := h.lt
    have ho2 := ho.iterAt w.heap.size (ba (s.drop i)) (j + (dn ((s.drop i).drop j)).2) (by omega)
    have hbig := dn_big (l := (s.drop i).drop j)
    have hsm := dn_asc (l := (s.drop i).drop j)
    have hsm1 : bt ((s.drop i).drop j) 0 < 128 → (dn ((s.drop i).drop j)).1 = bt ((s.drop i).drop j) 0 := fun h => by rw [hsm h]
    have hle := dn_le ((s.drop i).drop j)
    by_cases hd : (48 ≤ bt ((s.drop i).drop j) 0 ∧ bt ((s.drop i).drop j) 0 ≤ 57) ∧ (j = 0 ∨ 0 < n)
    · have hsm2 := hsm (by omega)
      clear hsm hbig hle hsm1
      rw [hsm2] at hit2 hF2 ho2 ⊢
      clear hsm2
      rw [numL_go hd.1 hd.2, List.drop_drop] at he
      simp only at hit2 hF2 ho2 ⊢
      generalize w1.iterAt _ _ _ = w2 at *
      generalize hc : bt ((s.drop i).drop j) 0 = c at *
      (repeat' first | (simp only [RA, MI, S.dst, Nat.reduceAdd, Nat.reduceMul, Nat.reduceEqDiff, ↓reduceIte, reduceCtorEq, ne_eq, Nat.reduceLT, Nat.reduceLeDiff, gt_iff_lt, ge_iff_le, Int.reduceToNat, Nat.reduceSub, Int.reduceEq, Int.reduceLT, Int.reduceLE, not_true_eq_false, c36, x36.down, btE, tup_10, List.take_length, ba_nil, ba_size, ba_list, ba_ext, ba_add, true_and, at_z, at_s, putc1, putc4, List.setIfInBounds_toArray, List.set_cons_zero, List.set_cons_succ, List.size_toArray, List.length_cons, List.length_nil, List.toList_toArray, zRef]) | ((with_reducible first | apply ld_r | apply ldN_a | apply ldN_r | apply st_r | apply stN_a); (exact X.rws)) | ((with_reducible first | apply bound_of | apply wr_i64 | apply wr_u8 | apply wr_u64 | apply wr_i32 | apply wr_i16 | apply wr_u32 | apply wr_u16); (exact X.om); (exact X.om)) | ((with_reducible first | apply ints_at | apply le_andI | apply le_andN | apply ne_andI); (exact X.om)) | ((with_reducible first | apply same_and | apply same_andW); (exact X.olz)) | (with_reducible refine ite_of (fun _ => ?_) (fun _ => ?_)))
      all_goals try (exfalso; omega)
      all_goals
        have e6 : (if 2147483648 < 10 * (n : Int) + ((c : Int) - 48) then 2147483648 else 10 * (n : Int) + ((c : Int) - 48)) = ((min (10 * n + (c - 48)) 2147483648 : Nat) : Int) := by split <;> omega
        have e7 : ((i + j : Nat) : Int) + 1 = ((i + (j + 1) : Nat) : Int) := by omega
        refine ⟨(j + 1, min (10 * n + (c - 48)) 2147483648), ⟨[], by rw [e6]⟩, ⟨by simp only; omega, ?_, hF2.setRow _ _ fun _ => rfl, ?_, by simp only; omega, he⟩, by simp only; omega⟩
        · rw [setRow_other w2 b _ _ (by omega)]; exact hit2
        · rw [e7]; exact ho2.set _
    · have key := he.trans (numL_no hd)
      generalize w1.iterAt _ _ _ = w2 at *
      (repeat' first | (simp only [RA, MI, S.dst, Nat.reduceAdd, Nat.reduceMul, Nat.reduceEqDiff, ↓reduceIte, reduceCtorEq, ne_eq, Nat.reduceLT, Nat.reduceLeDiff, gt_iff_lt, ge_iff_le, Int.reduceToNat, Nat.reduceSub, Int.reduceEq, Int.reduceLT, Int.reduceLE, not_true_eq_false, c36, x36.down, btE, tup_10, List.take_length, ba_nil, ba_size, ba_list, ba_ext, ba_add, true_and, at_z, at_s, putc1, putc4, List.setIfInBounds_toArray, List.set_cons_zero, List.set_cons_succ, List.size_toArray, List.length_cons, List.length_nil, List.toList_toArray, zRef]) | ((with_reducible first | apply ld_r | apply ldN_a | apply ldN_r | apply st_r | apply stN_a); (exact X.rws)) | ((with_reducible first | apply bound_of | apply wr_i64 | apply wr_u8 | apply wr_u64 | apply wr_i32 | apply wr_i16 | apply wr_u32 | apply wr_u16); (exact X.om); (exact X.om)) | ((with_reducible first | apply ints_at | apply le_andI | apply le_andN | apply ne_andI); (exact X.om)) | ((with_reducible first | apply same_and | apply same_andW); (exact X.olz)) | (with_reducible refine ite_of (fun _ => ?_) (fun _ => ?_)))
      all_goals first
        | (exfalso; omega)
        | (refine calls_mono (fail_any _ b s (i + j) i ho2) ?_
           rintro _ w3 ⟨rfl, hf⟩
           unfold panE
           simp only [call_pan, p_block_pan, p_then_pan, p_end_pan]
           refine ⟨hF2.and hf, ?_⟩
           rw [numP, key, if_pos (by simp only; omega)]
           rfl)
        | (refine ⟨hF2, ?_⟩
           rw [numP, key, if_neg (by simp only; omega), if_pos (by simp only; omega)]
           rfl)
        | (refine ⟨hF2, ?_⟩
           rw [numP, key, if_neg (by simp only; omega), if_neg (by simp only; omega)]
           exact ⟨rfl, ho2⟩)
  · rw [ba_size] at hp
    have key := he.trans (numL_no (by rw [bt_drop, Nat.add_zero, bt_out hp]; omega))
    (repeat' first | (simp only [RA, MI, S.dst, Nat.reduceAdd, Nat.reduceMul, Nat.reduceEqDiff, ↓reduceIte, reduceCtorEq, ne_eq, Nat.reduceLT, Nat.reduceLeDiff, gt_iff_lt, ge_iff_le, Int.reduceToNat, Nat.reduceSub, Int.reduceEq, Int.reduceLT, Int.reduceLE, not_true_eq_false, c36, x36.down, btE, tup_10, List.take_length, ba_nil, ba_size, ba_list, ba_ext, ba_add, true_and, at_z, at_s, putc1, putc4, List.setIfInBounds_toArray, List.set_cons_zero, List.set_cons_succ, List.size_toArray, List.length_cons, List.length_nil, List.toList_toArray, zRef]) | ((with_reducible first | apply ld_r | apply ldN_a | apply ldN_r | apply st_r | apply stN_a); (exact X.rws)) | ((with_reducible first | apply bound_of | apply wr_i64 | apply wr_u8 | apply wr_u64 | apply wr_i32 | apply wr_i16 | apply wr_u32 | apply wr_u16); (exact X.om); (exact X.om)) | ((with_reducible first | apply ints_at | apply le_andI | apply le_andN | apply ne_andI); (exact X.om)) | ((with_reducible first | apply same_and | apply same_andW); (exact X.olz)) | (with_reducible refine ite_of (fun _ => ?_) (fun _ => ?_)))
    all_goals first
      | (exfalso; omega)
      | (refine calls_mono (fail_any _ b s (i + j) i ho) ?_
         rintro _ w3 ⟨rfl, hf⟩
         unfold panE
         simp only [call_pan, p_block_pan, p_then_pan, p_end_pan]
         refine ⟨hF.and hf, ?_⟩
         rw [numP, key, if_pos (by simp only; omega)]
         rfl)
      | (refine ⟨hF, ?_⟩
         rw [numP, key, if_neg (by simp only; omega), if_pos (by simp only; omega)]
         rfl)
      | (refine ⟨hF, ?_⟩
         rw [numP, key, if_neg (by simp only; omega), if_neg (by simp only; omega)]
         exact ⟨rfl, ho⟩)
end Go.Proofs.YtgibicifflfpfaaDoor
