/-
  The law BestCosts, walked.
-/
import Derived.Test.YtomckpllbihikaaW2
import Derived.Test.YtomckpllbihikaaP8
set_option autoImplicit false
set_option linter.unusedSimpArgs false
set_option linter.unusedVariables false
namespace Go.Proofs.Ytomckpllbihikaa
open X

theorem badIn_of {l : List Int} {k : Nat} (hk : k < l.length) (h : badN (g l k) = true) : badIn l = true := by
  cases hb : badIn l with
  | true => rfl
  | false =>
    have := good_of hb k hk
    simp [badN] at h; omega
theorem firstBad_lt {l : List Int} : ∀ (r i : Nat), (∀ k, i ≤ k → k < i + r → badN (g l k) = false) → firstBad l r i < 0
  | 0, i, _ => by simp only [firstBad]; omega
  | r + 1, i, h => by
    simp only [firstBad]
    rw [h i (Nat.le_refl _) (by omega)]
    exact firstBad_lt r (i + 1) fun k h1 h2 => h k (by omega) (by omega)
theorem not_bad {l : List Int} (h : ∀ k, k < l.length → badN (g l k) = false) : badIn l = false := by
  unfold badIn
  have := firstBad_lt l.length 0 fun k _ h2 => h k (by omega)
  simpa using this
theorem find_some {m : List Int} {L : List (Nat × Nat × Nat)} (h : CInv m L) {i : Nat} {t : Nat × Nat × Nat} (hf : findL L i = some t) : (t.2.2 : Int) = g m (2 * i + 1) ∧ 1 ≤ t.2.2 ∧ t.2.2 ≤ 16 := by
  have h1 := List.find?_some hf
  have h2 := List.mem_of_find?_eq_some hf
  simp only [beq_iff_eq] at h1
  obtain ⟨x, b, n⟩ := t
  dsimp only at h1; subst h1
  obtain ⟨_, _, h3, h4, h5, _⟩ := h.mem _ _ _ h2
  exact ⟨h3.symm, h4, h5⟩
theorem find_none {m : List Int} {L : List (Nat × Nat × Nat)} (h : CInv m L) {i : Nat} (hi : i < 256) (hf : findL L i = none) : g m (2 * i + 1) = 0 := by
  refine h.out i hi fun hm => ?_
  obtain ⟨t, ht, he⟩ := List.mem_map.1 hm
  have := List.find?_eq_none.1 hf t ht
  simp [he] at this
theorem cost_bad {f M : List Int} (hf : f.length = 256) {i : Nat} (hi : i < 256) (h : badN (g f i) = true) : cost f M = none := by
  unfold cost; rw [badIn_of (by omega) h]; rfl
theorem cost_at {f M : List Int} {r : Nat} {sum : Int} (h : costTo f M r sum = costTo f M 256 0) (hn : costTo f M r sum = none) : cost f M = none := by
  unfold cost; split
  · rfl
  · rw [← h]; exact hn

set_option maxHeartbeats 1000000 in
set_option maxRecDepth 10000 in
theorem BestCosts_any (w : World) (f cnt : List Int) (s : ByteArray) (hf : f.length = 256) (hc : cnt.length = 16) (hcb : ∀ i, 0 ≤ g cnt i ∧ g cnt i ≤ 255) :
    Calls Try.prog 6 [.agg (ints .i64 f), .agg (ints .u8 cnt), .string s].toArray w fun e w' => e = .returned (.bool true) ∧ Fr no w w' := by
  refine enter6 (by simp) ?_
  (repeat' first | (simp only [RA, MI, S.dst, Nat.reduceAdd, Nat.reduceMul, Nat.reduceEqDiff, ↓reduceIte, reduceCtorEq, ne_eq, Nat.reduceLT, Nat.reduceLeDiff, gt_iff_lt, ge_iff_le, Int.reduceToNat, Nat.reduceSub, c6, x6, ints_ext, ints_set, true_and, ints_size, z22, z23, z43, str_eql, str_neq, decide_true, not_true_eq_false, Int.reduceEq]) | ((with_reducible first | apply bound_of | apply wr_i64 | apply wr_u8 | apply wr_u64); (first | omega | (simp only [LN] at *; omega)); (first | omega | (simp only [LN] at *; omega))) | ((with_reducible apply ld_row); (focus ((repeat' first | (with_reducible first | assumption | apply Own.set | apply Own.new | apply Own.newD | apply Own.drew | apply Row.drew | apply Row.set | apply Row.new | apply Row.newD | apply Own.alloc | apply Row.alloc | apply Own.ne | apply Row.ne | apply Own.row) | (first | omega | (simp only [LN] at *; omega))); done))) | ((with_reducible apply ldN_row); (focus ((repeat' first | (with_reducible first | assumption | apply Own.set | apply Own.new | apply Own.newD | apply Own.drew | apply Row.drew | apply Row.set | apply Row.new | apply Row.newD | apply Own.alloc | apply Row.alloc | apply Own.ne | apply Row.ne | apply Own.row) | (first | omega | (simp only [LN] at *; omega))); done)); (first | omega | (simp only [LN] at *; omega))) | ((with_reducible apply st_row); (focus ((repeat' first | (with_reducible first | assumption | apply Own.set | apply Own.new | apply Own.newD | apply Own.drew | apply Row.drew | apply Row.set | apply Row.new | apply Row.newD | apply Own.alloc | apply Row.alloc | apply Own.ne | apply Row.ne | apply Own.row) | (first | omega | (simp only [LN] at *; omega))); done)); (first | omega | (simp only [LN] at *; omega)); rfl) | ((with_reducible first | apply ints_at | apply le_andI | apply le_andN | apply ne_andI); (first | omega | (simp only [LN] at *; omega))) | (with_reducible refine ite_of (fun _ => ?_) (fun _ => ?_)))
  have h3 : Row ((w.alloc (Obj.cells (ints .i64 f) 22)).alloc (Obj.cells (ints .u8 cnt) 23)) w.heap.size (ints .i64 f) := by (focus ((repeat' first | (with_reducible first | assumption | apply Own.set | apply Own.new | apply Own.newD | apply Own.drew | apply Row.drew | apply Row.set | apply Row.new | apply Row.newD | apply Own.alloc | apply Row.alloc | apply Own.ne | apply Row.ne | apply Own.row) | (first | omega | (simp only [LN] at *; omega))); done))
  have h4 : Row ((w.alloc (Obj.cells (ints .i64 f) 22)).alloc (Obj.cells (ints .u8 cnt) 23)) (w.heap.size + 1) (ints .u8 cnt) := by
    have := Row.new (w.alloc (Obj.cells (ints .i64 f) 22)) (ints .u8 cnt) 23
    rwa [World.size_alloc] at this
  have hfr : Fr no w ((w.alloc (Obj.cells (ints .i64 f) 22)).alloc (Obj.cells (ints .u8 cnt) 23)) := by (focus ((repeat' first | (with_reducible first | assumption | apply Fr.drew | apply Fr.alloc | apply Fr.setRow | exact Fr.refl _ _) | (intro _; rfl) | (intro hb; simp only [X.no] at *; omega)); done))
  have hsz : (w.alloc (Obj.cells (ints .i64 f) 22)).heap.size = w.heap.size + 1 := by simp
  try rw [hsz]
  generalize ((w.alloc (Obj.cells (ints .i64 f) 22)).alloc (Obj.cells (ints .u8 cnt) 23)) = w1 at *
  refine calls_mono (awake_any w1) ?_
  rintro _ w2 ⟨rfl, hf2⟩
  replace h3 := h3.fr hf2 (fun h => h)
  replace h4 := h4.fr hf2 (fun h => h)
  replace hfr := hfr.and hf2
  clear hf2
  (repeat' first | (simp only [RA, MI, S.dst, Nat.reduceAdd, Nat.reduceMul, Nat.reduceEqDiff, ↓reduceIte, reduceCtorEq, ne_eq, Nat.reduceLT, Nat.reduceLeDiff, gt_iff_lt, ge_iff_le, Int.reduceToNat, Nat.reduceSub, c6, x6, ints_ext, ints_set, true_and, ints_size, z22, z23, z43, str_eql, str_neq, decide_true, not_true_eq_false, Int.reduceEq]) | ((with_reducible first | apply bound_of | apply wr_i64 | apply wr_u8 | apply wr_u64); (first | omega | (simp only [LN] at *; omega)); (first | omega | (simp only [LN] at *; omega))) | ((with_reducible apply ld_row); (focus ((repeat' first | (with_reducible first | assumption | apply Own.set | apply Own.new | apply Own.newD | apply Own.drew | apply Row.drew | apply Row.set | apply Row.new | apply Row.newD | apply Own.alloc | apply Row.alloc | apply Own.ne | apply Row.ne | apply Own.row) | (first | omega | (simp only [LN] at *; omega))); done))) | ((with_reducible apply ldN_row); (focus ((repeat' first | (with_reducible first | assumption | apply Own.set | apply Own.new | apply Own.newD | apply Own.drew | apply Row.drew | apply Row.set | apply Row.new | apply Row.newD | apply Own.alloc | apply Row.alloc | apply Own.ne | apply Row.ne | apply Own.row) | (first | omega | (simp only [LN] at *; omega))); done)); (first | omega | (simp only [LN] at *; omega))) | ((with_reducible apply st_row); (focus ((repeat' first | (with_reducible first | assumption | apply Own.set | apply Own.new | apply Own.newD | apply Own.drew | apply Row.drew | apply Row.set | apply Row.new | apply Row.newD | apply Own.alloc | apply Row.alloc | apply Own.ne | apply Row.ne | apply Own.row) | (first | omega | (simp only [LN] at *; omega))); done)); (first | omega | (simp only [LN] at *; omega)); rfl) | ((with_reducible first | apply ints_at | apply le_andI | apply le_andN | apply ne_andI); (first | omega | (simp only [LN] at *; omega))) | (with_reducible refine ite_of (fun _ => ?_) (fun _ => ?_)))
  · refine calls_mono (awake_any w2) ?_
    rintro _ w3 ⟨rfl, hf3⟩
    (repeat' first | (simp only [RA, MI, S.dst, Nat.reduceAdd, Nat.reduceMul, Nat.reduceEqDiff, ↓reduceIte, reduceCtorEq, ne_eq, Nat.reduceLT, Nat.reduceLeDiff, gt_iff_lt, ge_iff_le, Int.reduceToNat, Nat.reduceSub, c6, x6, ints_ext, ints_set, true_and, ints_size, z22, z23, z43, str_eql, str_neq, decide_true, not_true_eq_false, Int.reduceEq]) | ((with_reducible first | apply bound_of | apply wr_i64 | apply wr_u8 | apply wr_u64); (first | omega | (simp only [LN] at *; omega)); (first | omega | (simp only [LN] at *; omega))) | ((with_reducible apply ld_row); (focus ((repeat' first | (with_reducible first | assumption | apply Own.set | apply Own.new | apply Own.newD | apply Own.drew | apply Row.drew | apply Row.set | apply Row.new | apply Row.newD | apply Own.alloc | apply Row.alloc | apply Own.ne | apply Row.ne | apply Own.row) | (first | omega | (simp only [LN] at *; omega))); done))) | ((with_reducible apply ldN_row); (focus ((repeat' first | (with_reducible first | assumption | apply Own.set | apply Own.new | apply Own.newD | apply Own.drew | apply Row.drew | apply Row.set | apply Row.new | apply Row.newD | apply Own.alloc | apply Row.alloc | apply Own.ne | apply Row.ne | apply Own.row) | (first | omega | (simp only [LN] at *; omega))); done)); (first | omega | (simp only [LN] at *; omega))) | ((with_reducible apply st_row); (focus ((repeat' first | (with_reducible first | assumption | apply Own.set | apply Own.new | apply Own.newD | apply Own.drew | apply Row.drew | apply Row.set | apply Row.new | apply Row.newD | apply Own.alloc | apply Row.alloc | apply Own.ne | apply Row.ne | apply Own.row) | (first | omega | (simp only [LN] at *; omega))); done)); (first | omega | (simp only [LN] at *; omega)); rfl) | ((with_reducible first | apply ints_at | apply le_andI | apply le_andN | apply ne_andI); (first | omega | (simp only [LN] at *; omega))) | (with_reducible refine ite_of (fun _ => ?_) (fun _ => ?_)))
    exact hfr.and hf3
  · rename_i hsize
    have e16 : cnt.take 16 = cnt := List.take_of_length_le (by omega)
    have e256 : f.take 256 = f := List.take_of_length_le (by omega)
    simp only [e16]
    obtain ⟨Z, hZ⟩ : ∃ Z, hNew cnt s = Z := ⟨_, rfl⟩
    refine calls_mono (New_any w2 cnt s hc hcb (by omega) Z hZ) ?_
    intro e w3 hN
    cases Z with
    | none =>
      obtain ⟨rfl, hf3⟩ := hN
      replace h3 := h3.fr hf3 (fun h => h)
      replace h4 := h4.fr hf3 (fun h => h)
      replace hfr := hfr.and hf3
      clear hf3
      (repeat' first | (simp only [RA, MI, S.dst, Nat.reduceAdd, Nat.reduceMul, Nat.reduceEqDiff, ↓reduceIte, reduceCtorEq, ne_eq, Nat.reduceLT, Nat.reduceLeDiff, gt_iff_lt, ge_iff_le, Int.reduceToNat, Nat.reduceSub, c6, x6, ints_ext, ints_set, true_and, ints_size, z22, z23, z43, str_eql, str_neq, decide_true, not_true_eq_false, Int.reduceEq]) | ((with_reducible first | apply bound_of | apply wr_i64 | apply wr_u8 | apply wr_u64); (first | omega | (simp only [LN] at *; omega)); (first | omega | (simp only [LN] at *; omega))) | ((with_reducible apply ld_row); (focus ((repeat' first | (with_reducible first | assumption | apply Own.set | apply Own.new | apply Own.newD | apply Own.drew | apply Row.drew | apply Row.set | apply Row.new | apply Row.newD | apply Own.alloc | apply Row.alloc | apply Own.ne | apply Row.ne | apply Own.row) | (first | omega | (simp only [LN] at *; omega))); done))) | ((with_reducible apply ldN_row); (focus ((repeat' first | (with_reducible first | assumption | apply Own.set | apply Own.new | apply Own.newD | apply Own.drew | apply Row.drew | apply Row.set | apply Row.new | apply Row.newD | apply Own.alloc | apply Row.alloc | apply Own.ne | apply Row.ne | apply Own.row) | (first | omega | (simp only [LN] at *; omega))); done)); (first | omega | (simp only [LN] at *; omega))) | ((with_reducible apply st_row); (focus ((repeat' first | (with_reducible first | assumption | apply Own.set | apply Own.new | apply Own.newD | apply Own.drew | apply Row.drew | apply Row.set | apply Row.new | apply Row.newD | apply Own.alloc | apply Row.alloc | apply Own.ne | apply Row.ne | apply Own.row) | (first | omega | (simp only [LN] at *; omega))); done)); (first | omega | (simp only [LN] at *; omega)); rfl) | ((with_reducible first | apply ints_at | apply le_andI | apply le_andN | apply ne_andI); (first | omega | (simp only [LN] at *; omega))) | (with_reducible refine ite_of (fun _ => ?_) (fun _ => ?_)))
      simp only [e256]
      refine calls_mono (Cost_nil w3 f hf) ?_
      rintro _ w4 ⟨rfl, hf4⟩
      (repeat' first | (simp only [RA, MI, S.dst, Nat.reduceAdd, Nat.reduceMul, Nat.reduceEqDiff, ↓reduceIte, reduceCtorEq, ne_eq, Nat.reduceLT, Nat.reduceLeDiff, gt_iff_lt, ge_iff_le, Int.reduceToNat, Nat.reduceSub, c6, x6, ints_ext, ints_set, true_and, ints_size, z22, z23, z43, str_eql, str_neq, decide_true, not_true_eq_false, Int.reduceEq]) | ((with_reducible first | apply bound_of | apply wr_i64 | apply wr_u8 | apply wr_u64); (first | omega | (simp only [LN] at *; omega)); (first | omega | (simp only [LN] at *; omega))) | ((with_reducible apply ld_row); (focus ((repeat' first | (with_reducible first | assumption | apply Own.set | apply Own.new | apply Own.newD | apply Own.drew | apply Row.drew | apply Row.set | apply Row.new | apply Row.newD | apply Own.alloc | apply Row.alloc | apply Own.ne | apply Row.ne | apply Own.row) | (first | omega | (simp only [LN] at *; omega))); done))) | ((with_reducible apply ldN_row); (focus ((repeat' first | (with_reducible first | assumption | apply Own.set | apply Own.new | apply Own.newD | apply Own.drew | apply Row.drew | apply Row.set | apply Row.new | apply Row.newD | apply Own.alloc | apply Row.alloc | apply Own.ne | apply Row.ne | apply Own.row) | (first | omega | (simp only [LN] at *; omega))); done)); (first | omega | (simp only [LN] at *; omega))) | ((with_reducible apply st_row); (focus ((repeat' first | (with_reducible first | assumption | apply Own.set | apply Own.new | apply Own.newD | apply Own.drew | apply Row.drew | apply Row.set | apply Row.new | apply Row.newD | apply Own.alloc | apply Row.alloc | apply Own.ne | apply Row.ne | apply Own.row) | (first | omega | (simp only [LN] at *; omega))); done)); (first | omega | (simp only [LN] at *; omega)); rfl) | ((with_reducible first | apply ints_at | apply le_andI | apply le_andN | apply ne_andI); (first | omega | (simp only [LN] at *; omega))) | (with_reducible refine ite_of (fun _ => ?_) (fun _ => ?_)))
      all_goals first | exact hfr.and hf4 | (exfalso; omega) | exact #[]
    | some M =>
      obtain ⟨b, hb, rfl, hml, hrow, hf3⟩ := hN
      replace h3 := h3.fr hf3 (fun h => h)
      replace h4 := h4.fr hf3 (fun h => h)
      replace hfr := hfr.and hf3
      clear hf3
      (repeat' first | (simp only [RA, MI, S.dst, Nat.reduceAdd, Nat.reduceMul, Nat.reduceEqDiff, ↓reduceIte, reduceCtorEq, ne_eq, Nat.reduceLT, Nat.reduceLeDiff, gt_iff_lt, ge_iff_le, Int.reduceToNat, Nat.reduceSub, c6, x6, ints_ext, ints_set, true_and, ints_size, z22, z23, z43, str_eql, str_neq, decide_true, not_true_eq_false, Int.reduceEq]) | ((with_reducible first | apply bound_of | apply wr_i64 | apply wr_u8 | apply wr_u64); (first | omega | (simp only [LN] at *; omega)); (first | omega | (simp only [LN] at *; omega))) | ((with_reducible apply ld_row); (focus ((repeat' first | (with_reducible first | assumption | apply Own.set | apply Own.new | apply Own.newD | apply Own.drew | apply Row.drew | apply Row.set | apply Row.new | apply Row.newD | apply Own.alloc | apply Row.alloc | apply Own.ne | apply Row.ne | apply Own.row) | (first | omega | (simp only [LN] at *; omega))); done))) | ((with_reducible apply ldN_row); (focus ((repeat' first | (with_reducible first | assumption | apply Own.set | apply Own.new | apply Own.newD | apply Own.drew | apply Row.drew | apply Row.set | apply Row.new | apply Row.newD | apply Own.alloc | apply Row.alloc | apply Own.ne | apply Row.ne | apply Own.row) | (first | omega | (simp only [LN] at *; omega))); done)); (first | omega | (simp only [LN] at *; omega))) | ((with_reducible apply st_row); (focus ((repeat' first | (with_reducible first | assumption | apply Own.set | apply Own.new | apply Own.newD | apply Own.drew | apply Row.drew | apply Row.set | apply Row.new | apply Row.newD | apply Own.alloc | apply Row.alloc | apply Own.ne | apply Row.ne | apply Own.row) | (first | omega | (simp only [LN] at *; omega))); done)); (first | omega | (simp only [LN] at *; omega)); rfl) | ((with_reducible first | apply ints_at | apply le_andI | apply le_andN | apply ne_andI); (first | omega | (simp only [LN] at *; omega))) | (with_reducible refine ite_of (fun _ => ?_) (fun _ => ?_)))
      simp only [e256]
      obtain ⟨L0, hI0, _, _⟩ := hNew_inv hZ
      obtain ⟨z, hz⟩ : ∃ z, cost f M = z := ⟨_, rfl⟩
      refine calls_mono (Cost_any w3 b cnt s M f hc hml hf hrow.row (fun i hi => ⟨(hI0.bound i hi).1, (hI0.bound i hi).2.1⟩) z hz) ?_
      intro e w4 hcost
      obtain ⟨n, ok, rfl, hf4, hnz⟩ : ∃ (n : Int) (ok : Bool), e = .returned (.tuple #[.int .i64 n, .bool ok]) ∧ Fr no w3 w4 ∧ (z = none → n = 0 ∧ ok = false) ∧ (∀ y, z = some y → n = y ∧ ok = true) := by
        cases z with
        | none => exact ⟨0, false, hcost.1, hcost.2, fun _ => ⟨rfl, rfl⟩, fun y h => by cases h⟩
        | some y => exact ⟨y, true, hcost.1, hcost.2, (fun h => by cases h), fun y' h => by cases h; exact ⟨rfl, rfl⟩⟩
      obtain ⟨hn0, hn1⟩ := hnz
      replace h3 := h3.fr hf4 (fun h => h)
      replace h4 := h4.fr hf4 (fun h => h)
      replace hfr := hfr.and hf4
      clear hcost hf4 hrow
      (repeat' first | (simp only [RA, MI, S.dst, Nat.reduceAdd, Nat.reduceMul, Nat.reduceEqDiff, ↓reduceIte, reduceCtorEq, ne_eq, Nat.reduceLT, Nat.reduceLeDiff, gt_iff_lt, ge_iff_le, Int.reduceToNat, Nat.reduceSub, c6, x6, ints_ext, ints_set, true_and, ints_size, z22, z23, z43, str_eql, str_neq, decide_true, not_true_eq_false, Int.reduceEq]) | ((with_reducible first | apply bound_of | apply wr_i64 | apply wr_u8 | apply wr_u64); (first | omega | (simp only [LN] at *; omega)); (first | omega | (simp only [LN] at *; omega))) | ((with_reducible apply ld_row); (focus ((repeat' first | (with_reducible first | assumption | apply Own.set | apply Own.new | apply Own.newD | apply Own.drew | apply Row.drew | apply Row.set | apply Row.new | apply Row.newD | apply Own.alloc | apply Row.alloc | apply Own.ne | apply Row.ne | apply Own.row) | (first | omega | (simp only [LN] at *; omega))); done))) | ((with_reducible apply ldN_row); (focus ((repeat' first | (with_reducible first | assumption | apply Own.set | apply Own.new | apply Own.newD | apply Own.drew | apply Row.drew | apply Row.set | apply Row.new | apply Row.newD | apply Own.alloc | apply Row.alloc | apply Own.ne | apply Row.ne | apply Own.row) | (first | omega | (simp only [LN] at *; omega))); done)); (first | omega | (simp only [LN] at *; omega))) | ((with_reducible apply st_row); (focus ((repeat' first | (with_reducible first | assumption | apply Own.set | apply Own.new | apply Own.newD | apply Own.drew | apply Row.drew | apply Row.set | apply Row.new | apply Row.newD | apply Own.alloc | apply Row.alloc | apply Own.ne | apply Row.ne | apply Own.row) | (first | omega | (simp only [LN] at *; omega))); done)); (first | omega | (simp only [LN] at *; omega)); rfl) | ((with_reducible first | apply ints_at | apply le_andI | apply le_andN | apply ne_andI); (first | omega | (simp only [LN] at *; omega))) | (with_reducible refine ite_of (fun _ => ?_) (fun _ => ?_)))
      simp only [e16]
      refine calls_mono (Codes_any w4 cnt s hc hcb (by omega) M hZ) ?_
      rintro _ w5 ⟨L, bl, cap, rest, hI, hbl, rfl, hol, hf5⟩
      replace h3 := h3.fr hf5 (fun h => h)
      replace hfr := hfr.and hf5
      have hLl := hI.le
      clear hf5 h4
      (repeat' first | (simp only [RA, MI, S.dst, Nat.reduceAdd, Nat.reduceMul, Nat.reduceEqDiff, ↓reduceIte, reduceCtorEq, ne_eq, Nat.reduceLT, Nat.reduceLeDiff, gt_iff_lt, ge_iff_le, Int.reduceToNat, Nat.reduceSub, c6, x6, ints_ext, ints_set, true_and, ints_size, z22, z23, z43, str_eql, str_neq, decide_true, not_true_eq_false, Int.reduceEq]) | ((with_reducible first | apply bound_of | apply wr_i64 | apply wr_u8 | apply wr_u64); (first | omega | (simp only [LN] at *; omega)); (first | omega | (simp only [LN] at *; omega))) | ((with_reducible apply ld_row); (focus ((repeat' first | (with_reducible first | assumption | apply Own.set | apply Own.new | apply Own.newD | apply Own.drew | apply Row.drew | apply Row.set | apply Row.new | apply Row.newD | apply Own.alloc | apply Row.alloc | apply Own.ne | apply Row.ne | apply Own.row) | (first | omega | (simp only [LN] at *; omega))); done))) | ((with_reducible apply ldN_row); (focus ((repeat' first | (with_reducible first | assumption | apply Own.set | apply Own.new | apply Own.newD | apply Own.drew | apply Row.drew | apply Row.set | apply Row.new | apply Row.newD | apply Own.alloc | apply Row.alloc | apply Own.ne | apply Row.ne | apply Own.row) | (first | omega | (simp only [LN] at *; omega))); done)); (first | omega | (simp only [LN] at *; omega))) | ((with_reducible apply st_row); (focus ((repeat' first | (with_reducible first | assumption | apply Own.set | apply Own.new | apply Own.newD | apply Own.drew | apply Row.drew | apply Row.set | apply Row.new | apply Row.newD | apply Own.alloc | apply Row.alloc | apply Own.ne | apply Row.ne | apply Own.row) | (first | omega | (simp only [LN] at *; omega))); done)); (first | omega | (simp only [LN] at *; omega)); rfl) | ((with_reducible first | apply ints_at | apply le_andI | apply le_andN | apply ne_andI); (first | omega | (simp only [LN] at *; omega))) | (with_reducible refine ite_of (fun _ => ?_) (fun _ => ?_)))
      refine loop_of (σ := Nat × Int) (fun t => [(3, .pointer (some ⟨w.heap.size, 0, none⟩)), (9, .int .i64 n), (10, .bool ok), (11, .slice (some ⟨bl, 0, none⟩) L.length cap), (13, .int .i64 t.2), (14, .int .i64 (t.1 : Int))])
        (fun t w' => t.1 ≤ 256 ∧ costTo f M (256 - t.1) t.2 = costTo f M 256 0 ∧ 0 ≤ t.2 ∧ t.2 ≤ 17592186044416 * t.1 ∧ (∀ k, k < t.1 → badN (g f k) = false) ∧ Row w' w.heap.size (ints .i64 f) ∧ Row w' bl ((fl L).map (Value.int .i64) ++ rest).toArray ∧ Fr no w w')
        (fun t => 256 - t.1) (0, 0) rfl ⟨by simp, rfl, by simp, by simp, fun k hk => absurd hk (Nat.not_lt_zero _), h3, hol.row, hfr⟩ ?_
      clear h3 hol hfr
      rintro ⟨i, sum⟩ w' ⟨hi, hco, hs0, hs1, hgood, h3, hol, hfr⟩
      dsimp only at *
      (repeat' first | (simp only [RA, MI, S.dst, Nat.reduceAdd, Nat.reduceMul, Nat.reduceEqDiff, ↓reduceIte, reduceCtorEq, ne_eq, Nat.reduceLT, Nat.reduceLeDiff, gt_iff_lt, ge_iff_le, Int.reduceToNat, Nat.reduceSub, c6, x6, ints_ext, ints_set, true_and, ints_size, z22, z23, z43, str_eql, str_neq, decide_true, not_true_eq_false, Int.reduceEq]) | ((with_reducible first | apply bound_of | apply wr_i64 | apply wr_u8 | apply wr_u64); (first | omega | (simp only [LN] at *; omega)); (first | omega | (simp only [LN] at *; omega))) | ((with_reducible apply ld_row); (focus ((repeat' first | (with_reducible first | assumption | apply Own.set | apply Own.new | apply Own.newD | apply Own.drew | apply Row.drew | apply Row.set | apply Row.new | apply Row.newD | apply Own.alloc | apply Row.alloc | apply Own.ne | apply Row.ne | apply Own.row) | (first | omega | (simp only [LN] at *; omega))); done))) | ((with_reducible apply ldN_row); (focus ((repeat' first | (with_reducible first | assumption | apply Own.set | apply Own.new | apply Own.newD | apply Own.drew | apply Row.drew | apply Row.set | apply Row.new | apply Row.newD | apply Own.alloc | apply Row.alloc | apply Own.ne | apply Row.ne | apply Own.row) | (first | omega | (simp only [LN] at *; omega))); done)); (first | omega | (simp only [LN] at *; omega))) | ((with_reducible apply st_row); (focus ((repeat' first | (with_reducible first | assumption | apply Own.set | apply Own.new | apply Own.newD | apply Own.drew | apply Row.drew | apply Row.set | apply Row.new | apply Row.newD | apply Own.alloc | apply Row.alloc | apply Own.ne | apply Row.ne | apply Own.row) | (first | omega | (simp only [LN] at *; omega))); done)); (first | omega | (simp only [LN] at *; omega)); rfl) | ((with_reducible first | apply ints_at | apply le_andI | apply le_andN | apply ne_andI); (first | omega | (simp only [LN] at *; omega))) | (with_reducible refine ite_of (fun _ => ?_) (fun _ => ?_)))
      · rename_i hlt
        obtain ⟨y, hy⟩ : ∃ y, findL L i = y := ⟨_, rfl⟩
        refine calls_mono (Find_any w' bl cap L rest (by omega) hol i (by omega) y hy) ?_
        intro e w6 hfind
        obtain ⟨c0, c1, N, is, rfl, hf6, hN, hN1, his⟩ : ∃ (c0 c1 N : Int) (is : Bool), e = .returned (.tuple #[.agg #[.int .i64 c0, .int .i64 c1, .int .i64 N], .bool is]) ∧ Fr no w' w6 ∧ N = g M (2 * i + 1) ∧ (0 ≤ N ∧ N ≤ 16) ∧ (is = true ↔ 0 < N) := by
          cases y with
          | none => exact ⟨0, 0, 0, false, hfind.1, hfind.2, (find_none hI (by omega) hy).symm, by omega, by simp⟩
          | some t =>
            have := find_some hI hy
            exact ⟨_, _, _, true, hfind.1, hfind.2, this.1, by omega, by simp; omega⟩
        clear hfind
        replace h3 := h3.fr hf6 (fun h => h)
        replace hol := hol.fr hf6 (fun h => h)
        replace hfr := hfr.and hf6
        clear hf6
        have hfi := hgood
        have hstep : costTo f M (256 - i) sum = if 0 < g f i ∧ ¬ 0 < N then none else costTo f M (256 - (i + 1)) (sum + g f i * N) := by
          have e1 : 256 - i = (256 - (i + 1)) + 1 := by omega
          rw [e1]; simp only [costTo]
          have e2 : 255 - (256 - (i + 1)) = i := by omega
          rw [e2, ← hN]
        have hbad1 : g f i < 0 → n = 0 ∧ ok = false := fun h => hn0 (hz ▸ cost_bad hf (i := i) (by omega) (by simp [badN]; omega))
        have hbad2 : 1099511627776 < g f i → n = 0 ∧ ok = false := fun h => hn0 (hz ▸ cost_bad hf (i := i) (by omega) (by simp [badN]; omega))
        have hunc : 0 < g f i → is = false → n = 0 ∧ ok = false := fun h h2 => hn0 (hz ▸ cost_at hco (by rw [hstep, if_pos ⟨h, fun h3 => by rw [his.2 h3] at h2; cases h2⟩]))
        have hmul : 0 ≤ g f i → g f i ≤ 1099511627776 → 0 ≤ g f i * N ∧ g f i * N ≤ 17592186044416 := fun h1 h2 => by
          refine ⟨Int.mul_nonneg h1 hN1.1, ?_⟩
          have := Int.mul_le_mul h2 hN1.2 hN1.1 (by omega)
          omega
        (repeat' first | (simp only [RA, MI, S.dst, Nat.reduceAdd, Nat.reduceMul, Nat.reduceEqDiff, ↓reduceIte, reduceCtorEq, ne_eq, Nat.reduceLT, Nat.reduceLeDiff, gt_iff_lt, ge_iff_le, Int.reduceToNat, Nat.reduceSub, c6, x6, ints_ext, ints_set, true_and, ints_size, z22, z23, z43, str_eql, str_neq, decide_true, not_true_eq_false, Int.reduceEq]) | ((with_reducible first | apply bound_of | apply wr_i64 | apply wr_u8 | apply wr_u64); (first | omega | (simp only [LN] at *; omega)); (first | omega | (simp only [LN] at *; omega))) | ((with_reducible apply ld_row); (focus ((repeat' first | (with_reducible first | assumption | apply Own.set | apply Own.new | apply Own.newD | apply Own.drew | apply Row.drew | apply Row.set | apply Row.new | apply Row.newD | apply Own.alloc | apply Row.alloc | apply Own.ne | apply Row.ne | apply Own.row) | (first | omega | (simp only [LN] at *; omega))); done))) | ((with_reducible apply ldN_row); (focus ((repeat' first | (with_reducible first | assumption | apply Own.set | apply Own.new | apply Own.newD | apply Own.drew | apply Row.drew | apply Row.set | apply Row.new | apply Row.newD | apply Own.alloc | apply Row.alloc | apply Own.ne | apply Row.ne | apply Own.row) | (first | omega | (simp only [LN] at *; omega))); done)); (first | omega | (simp only [LN] at *; omega))) | ((with_reducible apply st_row); (focus ((repeat' first | (with_reducible first | assumption | apply Own.set | apply Own.new | apply Own.newD | apply Own.drew | apply Row.drew | apply Row.set | apply Row.new | apply Row.newD | apply Own.alloc | apply Row.alloc | apply Own.ne | apply Row.ne | apply Own.row) | (first | omega | (simp only [LN] at *; omega))); done)); (first | omega | (simp only [LN] at *; omega)); rfl) | ((with_reducible first | apply ints_at | apply le_andI | apply le_andN | apply ne_andI); (first | omega | (simp only [LN] at *; omega))) | (with_reducible refine ite_of (fun _ => ?_) (fun _ => ?_)))
        refine st43 ⟨_, rfl, Own.new _ _ _⟩ rfl rfl rfl ?_
        replace h3 := (h3.alloc (Obj.cells #[Value.int .i64 0, Value.int .i64 0, Value.int .i64 0] 43)).ne #[Value.int .i64 c0, Value.int .i64 c1, Value.int .i64 N] (c := w6.heap.size) (by have := h3.lt; omega)
        replace hol := (hol.alloc (Obj.cells #[Value.int .i64 0, Value.int .i64 0, Value.int .i64 0] 43)).ne #[Value.int .i64 c0, Value.int .i64 c1, Value.int .i64 N] (c := w6.heap.size) (by have := hol.lt; omega)
        have h15 : Row ((w6.alloc (Obj.cells #[Value.int .i64 0, Value.int .i64 0, Value.int .i64 0] 43)).setRow w6.heap.size #[Value.int .i64 c0, Value.int .i64 c1, Value.int .i64 N]) w6.heap.size #[Value.int .i64 c0, Value.int .i64 c1, Value.int .i64 N] := Row.set _ (Own.new _ _ _)
        replace hfr := (hfr.alloc (Obj.cells #[Value.int .i64 0, Value.int .i64 0, Value.int .i64 0] 43)).setRow w6.heap.size #[Value.int .i64 c0, Value.int .i64 c1, Value.int .i64 N] (fun h => by have := hfr.size; omega)
        generalize (w6.alloc (Obj.cells #[Value.int .i64 0, Value.int .i64 0, Value.int .i64 0] 43)).setRow w6.heap.size #[Value.int .i64 c0, Value.int .i64 c1, Value.int .i64 N] = w7 at *
        (repeat' first | (simp only [RA, MI, S.dst, Nat.reduceAdd, Nat.reduceMul, Nat.reduceEqDiff, ↓reduceIte, reduceCtorEq, ne_eq, Nat.reduceLT, Nat.reduceLeDiff, gt_iff_lt, ge_iff_le, Int.reduceToNat, Nat.reduceSub, c6, x6, ints_ext, ints_set, true_and, ints_size, z22, z23, z43, str_eql, str_neq, decide_true, not_true_eq_false, Int.reduceEq]) | ((with_reducible first | apply bound_of | apply wr_i64 | apply wr_u8 | apply wr_u64); (first | omega | (simp only [LN] at *; omega)); (first | omega | (simp only [LN] at *; omega))) | ((with_reducible apply ld_row); (focus ((repeat' first | (with_reducible first | assumption | apply Own.set | apply Own.new | apply Own.newD | apply Own.drew | apply Row.drew | apply Row.set | apply Row.new | apply Row.newD | apply Own.alloc | apply Row.alloc | apply Own.ne | apply Row.ne | apply Own.row) | (first | omega | (simp only [LN] at *; omega))); done))) | ((with_reducible apply ldN_row); (focus ((repeat' first | (with_reducible first | assumption | apply Own.set | apply Own.new | apply Own.newD | apply Own.drew | apply Row.drew | apply Row.set | apply Row.new | apply Row.newD | apply Own.alloc | apply Row.alloc | apply Own.ne | apply Row.ne | apply Own.row) | (first | omega | (simp only [LN] at *; omega))); done)); (first | omega | (simp only [LN] at *; omega))) | ((with_reducible apply st_row); (focus ((repeat' first | (with_reducible first | assumption | apply Own.set | apply Own.new | apply Own.newD | apply Own.drew | apply Row.drew | apply Row.set | apply Row.new | apply Row.newD | apply Own.alloc | apply Row.alloc | apply Own.ne | apply Row.ne | apply Own.row) | (first | omega | (simp only [LN] at *; omega))); done)); (first | omega | (simp only [LN] at *; omega)); rfl) | ((with_reducible first | apply ints_at | apply le_andI | apply le_andN | apply ne_andI); (first | omega | (simp only [LN] at *; omega))) | (with_reducible refine ite_of (fun _ => ?_) (fun _ => ?_)))
        all_goals first
          | (exfalso; omega)
          | (have hx := hbad1 (by omega); rw [hx.2]; exact ⟨rfl, hfr⟩)
          | (have hx := hbad2 (by omega); rw [hx.2]; exact ⟨rfl, hfr⟩)
          | (have hx := hunc (by assumption) (by assumption); rw [hx.2]; exact ⟨rfl, hfr⟩)
          | (exfalso; have hx := hunc (by assumption) (by assumption); omega)
          | skip
        all_goals
          rename_i hd
          have hng : ¬ (0 < g f i ∧ ¬ 0 < N) := fun h => by
            first
              | exact hd h.1
              | exact h.2 (his.1 (by simpa using hd))
          refine ⟨(i + 1, sum + g f i * N), ?_, ⟨by dsimp only; omega, by dsimp only; rw [if_neg hng] at hstep; rw [← hstep]; exact hco, by dsimp only; omega, by dsimp only; omega, fun k hk => ?_, h3.drew, hol.drew, hfr.drew⟩, by dsimp only; omega⟩
          · (first | rfl | (simp only [List.cons.injEq, Prod.mk.injEq, Value.int.injEq, Value.bool.injEq, true_and, and_true, List.cons_append, List.nil_append]; done) | (simp only [List.cons.injEq, Prod.mk.injEq, Value.int.injEq, Value.bool.injEq, true_and, and_true, List.cons_append, List.nil_append]; omega))
          · dsimp only at hk
            rcases Nat.lt_or_ge k i with y | y
            · exact hgood k y
            · obtain rfl : k = i := by omega
              simp [badN]; omega
      all_goals
        obtain rfl : i = 256 := by omega
        have hgb : badIn f = false := not_bad fun k hk => hgood k (by omega)
        have hcs : cost f M = some sum := by
          unfold cost; rw [hgb]
          have : (256 : Nat) - 256 = 0 := rfl
          rw [this] at hco
          exact hco.symm
        obtain ⟨e1, e2⟩ := hn1 sum (hz ▸ hcs)
        first
          | exact absurd e2 (by assumption)
          | (refine ⟨?_, hfr⟩; rw [e1]; simp)
end Go.Proofs.Ytomckpllbihikaa
