/-
  The document's example, in the program.
-/
import Derived.Test.YtomckpllbihikaaW1
import Derived.Test.YtomckpllbihikaaB1r
set_option autoImplicit false
set_option linter.unusedSimpArgs false
set_option linter.unusedVariables false
namespace Go.Proofs.Ytomckpllbihikaa
open X
theorem z22 : zcells Try.prog 22 = ints .i64 (List.replicate 256 0) := by kernel_rfl
theorem set0 : ((List.replicate 256 (0 : Int)).set 7 1).set 9 2 = f0 := rfl
theorem f0_len : f0.length = 256 := by simp [f0, -List.reduceReplicate]

theorem stN_full {k : IntKind} {w : World} {b : Nat} {l m : List Int} {K : World → Prop} (ho : Own w b (ints k l)) (h : m.length = l.length) (hk : K (w.setRow b (ints k m))) : StN w ⟨b, 0, none⟩ (ints k m).toList K :=
  stN_ints ho (by omega) (by rw [h, List.drop_length, List.append_nil]; exact hk)

theorem str_eql (a b : ByteArray) (K : Value → Prop) : strop .eql a b K = K (.bool (a.toList == b.toList)) := (rfl)
theorem str_neq (a b : ByteArray) (K : Value → Prop) : strop .neq a b K = K (.bool (!(a.toList == b.toList))) := (rfl)
theorem s0_eq : (s0.toList == ByteArray.toList ⟨#[9, 7]⟩) = true := beq_self_eq_true _

set_option maxRecDepth 10000 in
theorem awake_any (w : World) : Calls Try.prog 10 [].toArray w fun e w' => e = .returned (.bool true) ∧ Fr no w w' := by
  refine enter10 (by simp) ?_
  (repeat' first | (simp only [RA, MI, S.dst, Nat.reduceAdd, Nat.reduceMul, Nat.reduceEqDiff, ↓reduceIte, reduceCtorEq, ne_eq, Nat.reduceLT, Nat.reduceLeDiff, gt_iff_lt, ge_iff_le, Int.reduceToNat, Nat.reduceSub, c10, x10, ints_ext, ints_set, true_and, ints_size, z22, z23, str_eql, str_neq, s0_eq, decide_true]) | ((with_reducible first | apply bound_of | apply wr_i64 | apply wr_u8 | apply wr_u64); (first | omega | (simp only [LN] at *; omega)); (first | omega | (simp only [LN] at *; omega))) | ((with_reducible apply ld_row); (focus ((repeat' first | (with_reducible first | assumption | apply Own.set | apply Own.new | apply Own.newD | apply Own.drew | apply Row.drew | apply Row.set | apply Row.new | apply Row.newD | apply Own.alloc | apply Row.alloc | apply Own.ne | apply Row.ne | apply Own.row) | (first | omega | (simp only [LN] at *; omega))); done))) | ((with_reducible apply ldN_row); (focus ((repeat' first | (with_reducible first | assumption | apply Own.set | apply Own.new | apply Own.newD | apply Own.drew | apply Row.drew | apply Row.set | apply Row.new | apply Row.newD | apply Own.alloc | apply Row.alloc | apply Own.ne | apply Row.ne | apply Own.row) | (first | omega | (simp only [LN] at *; omega))); done)); (first | omega | (simp only [LN] at *; omega))) | ((with_reducible apply st_row); (focus ((repeat' first | (with_reducible first | assumption | apply Own.set | apply Own.new | apply Own.newD | apply Own.drew | apply Row.drew | apply Row.set | apply Row.new | apply Row.newD | apply Own.alloc | apply Row.alloc | apply Own.ne | apply Row.ne | apply Own.row) | (first | omega | (simp only [LN] at *; omega))); done)); (first | omega | (simp only [LN] at *; omega)); rfl) | ((with_reducible first | apply ints_at | apply le_andI | apply le_andN | apply ne_andI); (first | omega | (simp only [LN] at *; omega))) | (with_reducible refine ite_of (fun _ => ?_) (fun _ => ?_)))
  have e1 : List.take 256 (((List.replicate 256 (0 : Int)).set 7 1).set 9 2) = f0 := by rw [set0, List.take_of_length_le (by rw [f0_len]; omega)]
  rw [e1]
  have hf : Fr no w (((w.alloc (Obj.cells (ints .i64 (List.replicate 256 0)) 22)).setRow w.heap.size (ints .i64 ((List.replicate 256 0).set 7 1))).setRow w.heap.size (ints .i64 (((List.replicate 256 0).set 7 1).set 9 2))) := by (focus ((repeat' first | (with_reducible first | assumption | apply Fr.drew | apply Fr.alloc | apply Fr.setRow | exact Fr.refl _ _) | (intro _; rfl) | (intro hb; simp only [X.no] at *; omega)); done))
  generalize (((w.alloc (Obj.cells (ints .i64 (List.replicate 256 0)) 22)).setRow w.heap.size (ints .i64 ((List.replicate 256 0).set 7 1))).setRow w.heap.size (ints .i64 (((List.replicate 256 0).set 7 1).set 9 2))) = w1 at *
  refine calls_mono (Table_any w1 f0 f0_len) ?_
  rintro e w2 ⟨hf2, h⟩
  rw [bad0, if_neg (by decide), ord0, if_neg (by decide)] at h
  obtain ⟨Z, hp, hr, rfl⟩ := h
  rw [sort0 (ord0 ▸ hp) hr, tab0]
  have hf3 := hf.and hf2
  clear e1 hf hf2 hp hr
  have hcl : c0.length = 16 := by simp [c0, -List.reduceReplicate]
  have hc16 : ∀ i, 0 ≤ g c0 i ∧ g c0 i ≤ 255 := by
    intro i
    rcases Nat.lt_or_ge i 16 with h | h
    · match i with
      | 0 => decide
      | 1 => decide
      | i + 2 =>
        have : g c0 (i + 2) = g (List.replicate 14 0) i := rfl
        rw [this, g_rep _ _ _ (by omega)]; decide
    · rw [g_far (by rw [hcl]; exact h)]; decide
  obtain ⟨m, hm, m1, m2⟩ := new0'
  obtain ⟨c, hc⟩ : ∃ c, c0 = c := ⟨_, rfl⟩
  rw [hc] at hm hcl hc16 ⊢
  (repeat' first | (simp only [RA, MI, S.dst, Nat.reduceAdd, Nat.reduceMul, Nat.reduceEqDiff, ↓reduceIte, reduceCtorEq, ne_eq, Nat.reduceLT, Nat.reduceLeDiff, gt_iff_lt, ge_iff_le, Int.reduceToNat, Nat.reduceSub, c10, x10, ints_ext, ints_set, true_and, ints_size, z22, z23, str_eql, str_neq, s0_eq, decide_true]) | ((with_reducible first | apply bound_of | apply wr_i64 | apply wr_u8 | apply wr_u64); (first | omega | (simp only [LN] at *; omega)); (first | omega | (simp only [LN] at *; omega))) | ((with_reducible apply ld_row); (focus ((repeat' first | (with_reducible first | assumption | apply Own.set | apply Own.new | apply Own.newD | apply Own.drew | apply Row.drew | apply Row.set | apply Row.new | apply Row.newD | apply Own.alloc | apply Row.alloc | apply Own.ne | apply Row.ne | apply Own.row) | (first | omega | (simp only [LN] at *; omega))); done))) | ((with_reducible apply ldN_row); (focus ((repeat' first | (with_reducible first | assumption | apply Own.set | apply Own.new | apply Own.newD | apply Own.drew | apply Row.drew | apply Row.set | apply Row.new | apply Row.newD | apply Own.alloc | apply Row.alloc | apply Own.ne | apply Row.ne | apply Own.row) | (first | omega | (simp only [LN] at *; omega))); done)); (first | omega | (simp only [LN] at *; omega))) | ((with_reducible apply st_row); (focus ((repeat' first | (with_reducible first | assumption | apply Own.set | apply Own.new | apply Own.newD | apply Own.drew | apply Row.drew | apply Row.set | apply Row.new | apply Row.newD | apply Own.alloc | apply Row.alloc | apply Own.ne | apply Row.ne | apply Own.row) | (first | omega | (simp only [LN] at *; omega))); done)); (first | omega | (simp only [LN] at *; omega)); rfl) | ((with_reducible first | apply ints_at | apply le_andI | apply le_andN | apply ne_andI); (first | omega | (simp only [LN] at *; omega))) | (with_reducible refine ite_of (fun _ => ?_) (fun _ => ?_)))
  refine ⟨hcl, stN_full (Own.new _ _ _) (by rw [hcl, List.length_replicate]) (ldN_ints (Row.set _ (Own.new _ _ _)) hcl ?_)⟩
  have hf4 : Fr no w ((w2.alloc (Obj.cells (ints .u8 (List.replicate 16 0)) 23)).setRow w2.heap.size (ints .u8 c)) := (hf3.alloc _).setRow _ _ fun h => by have := hf3.size; omega
  generalize ((w2.alloc (Obj.cells (ints .u8 (List.replicate 16 0)) 23)).setRow w2.heap.size (ints .u8 c)) = w3 at *
  refine calls_mono (New_any w3 c s0 hcl hc16 (by decide) _ hm) ?_
  rintro _ w4 ⟨b, hb, rfl, hml, hrow, hf5⟩
  (repeat' first | (simp only [RA, MI, S.dst, Nat.reduceAdd, Nat.reduceMul, Nat.reduceEqDiff, ↓reduceIte, reduceCtorEq, ne_eq, Nat.reduceLT, Nat.reduceLeDiff, gt_iff_lt, ge_iff_le, Int.reduceToNat, Nat.reduceSub, c10, x10, ints_ext, ints_set, true_and, ints_size, z22, z23, str_eql, str_neq, s0_eq, decide_true]) | ((with_reducible first | apply bound_of | apply wr_i64 | apply wr_u8 | apply wr_u64); (first | omega | (simp only [LN] at *; omega)); (first | omega | (simp only [LN] at *; omega))) | ((with_reducible apply ld_row); (focus ((repeat' first | (with_reducible first | assumption | apply Own.set | apply Own.new | apply Own.newD | apply Own.drew | apply Row.drew | apply Row.set | apply Row.new | apply Row.newD | apply Own.alloc | apply Row.alloc | apply Own.ne | apply Row.ne | apply Own.row) | (first | omega | (simp only [LN] at *; omega))); done))) | ((with_reducible apply ldN_row); (focus ((repeat' first | (with_reducible first | assumption | apply Own.set | apply Own.new | apply Own.newD | apply Own.drew | apply Row.drew | apply Row.set | apply Row.new | apply Row.newD | apply Own.alloc | apply Row.alloc | apply Own.ne | apply Row.ne | apply Own.row) | (first | omega | (simp only [LN] at *; omega))); done)); (first | omega | (simp only [LN] at *; omega))) | ((with_reducible apply st_row); (focus ((repeat' first | (with_reducible first | assumption | apply Own.set | apply Own.new | apply Own.newD | apply Own.drew | apply Row.drew | apply Row.set | apply Row.new | apply Row.newD | apply Own.alloc | apply Row.alloc | apply Own.ne | apply Row.ne | apply Own.row) | (first | omega | (simp only [LN] at *; omega))); done)); (first | omega | (simp only [LN] at *; omega)); rfl) | ((with_reducible first | apply ints_at | apply le_andI | apply le_andN | apply ne_andI); (first | omega | (simp only [LN] at *; omega))) | (with_reducible refine ite_of (fun _ => ?_) (fun _ => ?_)))
  refine calls_mono (Code_any w4 b c s0 m hcl hml hrow.row 7 (by omega)) ?_
  rintro _ w5 ⟨rfl, hf6⟩
  rw [m1, m2]
  have hff := ((hf4.and hf5).and hf6)
  clear hf3 hf4 hf5 hf6
  (repeat' first | (simp only [RA, MI, S.dst, Nat.reduceAdd, Nat.reduceMul, Nat.reduceEqDiff, ↓reduceIte, reduceCtorEq, ne_eq, Nat.reduceLT, Nat.reduceLeDiff, gt_iff_lt, ge_iff_le, Int.reduceToNat, Nat.reduceSub, c10, x10, ints_ext, ints_set, true_and, ints_size, z22, z23, str_eql, str_neq, s0_eq, decide_true]) | ((with_reducible first | apply bound_of | apply wr_i64 | apply wr_u8 | apply wr_u64); (first | omega | (simp only [LN] at *; omega)); (first | omega | (simp only [LN] at *; omega))) | ((with_reducible apply ld_row); (focus ((repeat' first | (with_reducible first | assumption | apply Own.set | apply Own.new | apply Own.newD | apply Own.drew | apply Row.drew | apply Row.set | apply Row.new | apply Row.newD | apply Own.alloc | apply Row.alloc | apply Own.ne | apply Row.ne | apply Own.row) | (first | omega | (simp only [LN] at *; omega))); done))) | ((with_reducible apply ldN_row); (focus ((repeat' first | (with_reducible first | assumption | apply Own.set | apply Own.new | apply Own.newD | apply Own.drew | apply Row.drew | apply Row.set | apply Row.new | apply Row.newD | apply Own.alloc | apply Row.alloc | apply Own.ne | apply Row.ne | apply Own.row) | (first | omega | (simp only [LN] at *; omega))); done)); (first | omega | (simp only [LN] at *; omega))) | ((with_reducible apply st_row); (focus ((repeat' first | (with_reducible first | assumption | apply Own.set | apply Own.new | apply Own.newD | apply Own.drew | apply Row.drew | apply Row.set | apply Row.new | apply Row.newD | apply Own.alloc | apply Row.alloc | apply Own.ne | apply Row.ne | apply Own.row) | (first | omega | (simp only [LN] at *; omega))); done)); (first | omega | (simp only [LN] at *; omega)); rfl) | ((with_reducible first | apply ints_at | apply le_andI | apply le_andN | apply ne_andI); (first | omega | (simp only [LN] at *; omega))) | (with_reducible refine ite_of (fun _ => ?_) (fun _ => ?_)))
  exact ⟨rfl, hff⟩
end Go.Proofs.Ytomckpllbihikaa
