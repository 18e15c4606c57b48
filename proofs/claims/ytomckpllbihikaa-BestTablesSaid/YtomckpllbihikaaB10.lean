/-
  Table.
-/
import Derived.Test.YtomckpllbihikaaP6
set_option autoImplicit false
set_option linter.unusedSimpArgs false
set_option linter.unusedVariables false
namespace Go.Proofs.Ytomckpllbihikaa
open X

set_option maxRecDepth 10000 in
theorem Table_any (w : World) (f : List Int) (hf : f.length = 256) : Calls Try.prog 8 [.agg (ints .i64 f)].toArray w (TabPost w f) := by
  refine enter8 (by simp) ?_
  (repeat' first | (simp only [RA, MI, S.dst, Nat.reduceAdd, Nat.reduceMul, Nat.reduceEqDiff, ↓reduceIte, reduceCtorEq, ne_eq, Nat.reduceLT, Nat.reduceLeDiff, gt_iff_lt, ge_iff_le, Int.reduceToNat, Nat.reduceSub, c8, x8, ints_ext, ints_set, true_and, ints_size, z23, z50, z47, z48, z3, z5, one_cell, one_cell8, one_size, one_size8, World.size_alloc]) | (first | ((with_reducible apply app_at); (first | omega | (simp only [LN] at *; omega)))) | ((with_reducible first | apply bound_of | apply wr_i64 | apply wr_u8 | apply wr_u64); (first | omega | (simp only [LN] at *; omega)); (first | omega | (simp only [LN] at *; omega))) | ((with_reducible apply ld_row); (focus ((repeat' first | (with_reducible first | assumption | apply Own.set | apply Own.new | apply Own.newD | apply Own.drew | apply Row.drew | apply Row.set | apply Row.new | apply Row.newD | apply Own.alloc | apply Row.alloc | apply Own.ne | apply Row.ne | apply Own.row) | (first | omega | (simp only [LN] at *; omega))); done))) | ((with_reducible apply ldN_row); (focus ((repeat' first | (with_reducible first | assumption | apply Own.set | apply Own.new | apply Own.newD | apply Own.drew | apply Row.drew | apply Row.set | apply Row.new | apply Row.newD | apply Own.alloc | apply Row.alloc | apply Own.ne | apply Row.ne | apply Own.row) | (first | omega | (simp only [LN] at *; omega))); done)); (first | omega | (simp only [LN] at *; omega))) | ((with_reducible apply st_row); (focus ((repeat' first | (with_reducible first | assumption | apply Own.set | apply Own.new | apply Own.newD | apply Own.drew | apply Row.drew | apply Row.set | apply Row.new | apply Row.newD | apply Own.alloc | apply Row.alloc | apply Own.ne | apply Row.ne | apply Own.row) | (first | omega | (simp only [LN] at *; omega))); done)); (first | omega | (simp only [LN] at *; omega)); rfl) | ((with_reducible first | apply ints_at | apply le_andI | apply le_andN | apply ne_andI); (first | omega | (simp only [LN] at *; omega))) | (with_reducible refine ite_of (fun _ => ?_) (fun _ => ?_)))
  have e1 : List.take 256 f = f := by rw [List.take_of_length_le (by omega)]
  rw [e1]
  have h0 : Row (((w.alloc (Obj.cells (ints .i64 f) 22)).alloc (Obj.cells (ints .u8 (List.replicate 16 0)) 23)).alloc (Obj.cells (ints .u8 (List.replicate 16 0)) 23)) w.heap.size (ints .i64 f) := by (focus ((repeat' first | (with_reducible first | assumption | apply Own.set | apply Own.new | apply Own.newD | apply Own.drew | apply Row.drew | apply Row.set | apply Row.new | apply Row.newD | apply Own.alloc | apply Row.alloc | apply Own.ne | apply Row.ne | apply Own.row) | (first | omega | (simp only [LN] at *; omega))); done))
  have h1 : Own (((w.alloc (Obj.cells (ints .i64 f) 22)).alloc (Obj.cells (ints .u8 (List.replicate 16 0)) 23)).alloc (Obj.cells (ints .u8 (List.replicate 16 0)) 23)) (w.heap.size + 1) (ints .u8 (List.replicate 16 0)) := by
    have := (Own.new (w.alloc (Obj.cells (ints .i64 f) 22)) (ints .u8 (List.replicate 16 0)) 23).alloc (Obj.cells (ints .u8 (List.replicate 16 0)) 23)
    rwa [World.size_alloc] at this
  have h2 : Own (((w.alloc (Obj.cells (ints .i64 f) 22)).alloc (Obj.cells (ints .u8 (List.replicate 16 0)) 23)).alloc (Obj.cells (ints .u8 (List.replicate 16 0)) 23)) (w.heap.size + 2) (ints .u8 (List.replicate 16 0)) := by
    have := Own.new ((w.alloc (Obj.cells (ints .i64 f) 22)).alloc (Obj.cells (ints .u8 (List.replicate 16 0)) 23)) (ints .u8 (List.replicate 16 0)) 23
    rwa [World.size_alloc, World.size_alloc] at this
  have h3 : Fr no w (((w.alloc (Obj.cells (ints .i64 f) 22)).alloc (Obj.cells (ints .u8 (List.replicate 16 0)) 23)).alloc (Obj.cells (ints .u8 (List.replicate 16 0)) 23)) := by (focus ((repeat' first | (with_reducible first | assumption | apply Fr.drew | apply Fr.alloc | apply Fr.setRow | exact Fr.refl _ _) | (intro _; rfl) | (intro hb; simp only [X.no] at *; omega)); done))
  have h4 : w.heap.size + 3 ≤ (((w.alloc (Obj.cells (ints .i64 f) 22)).alloc (Obj.cells (ints .u8 (List.replicate 16 0)) 23)).alloc (Obj.cells (ints .u8 (List.replicate 16 0)) 23)).heap.size := by simp
  generalize (((w.alloc (Obj.cells (ints .i64 f) 22)).alloc (Obj.cells (ints .u8 (List.replicate 16 0)) 23)).alloc (Obj.cells (ints .u8 (List.replicate 16 0)) 23)) = w1 at *
  refine calls_mono (right_any w1 f hf _ rfl) ?_
  rintro _ w2 ⟨rfl, hf2⟩
  replace h0 := h0.fr hf2 (fun h => h)
  replace h1 := h1.fr hf2 (fun h => h)
  replace h2 := h2.fr hf2 (fun h => h)
  replace h3 := h3.and hf2
  replace h4 := Nat.le_trans h4 hf2.size
  clear hf2 w1 e1
  (repeat' first | (simp only [RA, MI, S.dst, Nat.reduceAdd, Nat.reduceMul, Nat.reduceEqDiff, ↓reduceIte, reduceCtorEq, ne_eq, Nat.reduceLT, Nat.reduceLeDiff, gt_iff_lt, ge_iff_le, Int.reduceToNat, Nat.reduceSub, c8, x8, ints_ext, ints_set, true_and, ints_size, z23, z50, z47, z48, z3, z5, one_cell, one_cell8, one_size, one_size8, World.size_alloc]) | (first | ((with_reducible apply app_at); (first | omega | (simp only [LN] at *; omega)))) | ((with_reducible first | apply bound_of | apply wr_i64 | apply wr_u8 | apply wr_u64); (first | omega | (simp only [LN] at *; omega)); (first | omega | (simp only [LN] at *; omega))) | ((with_reducible apply ld_row); (focus ((repeat' first | (with_reducible first | assumption | apply Own.set | apply Own.new | apply Own.newD | apply Own.drew | apply Row.drew | apply Row.set | apply Row.new | apply Row.newD | apply Own.alloc | apply Row.alloc | apply Own.ne | apply Row.ne | apply Own.row) | (first | omega | (simp only [LN] at *; omega))); done))) | ((with_reducible apply ldN_row); (focus ((repeat' first | (with_reducible first | assumption | apply Own.set | apply Own.new | apply Own.newD | apply Own.drew | apply Row.drew | apply Row.set | apply Row.new | apply Row.newD | apply Own.alloc | apply Row.alloc | apply Own.ne | apply Row.ne | apply Own.row) | (first | omega | (simp only [LN] at *; omega))); done)); (first | omega | (simp only [LN] at *; omega))) | ((with_reducible apply st_row); (focus ((repeat' first | (with_reducible first | assumption | apply Own.set | apply Own.new | apply Own.newD | apply Own.drew | apply Row.drew | apply Row.set | apply Row.new | apply Row.newD | apply Own.alloc | apply Row.alloc | apply Own.ne | apply Row.ne | apply Own.row) | (first | omega | (simp only [LN] at *; omega))); done)); (first | omega | (simp only [LN] at *; omega)); rfl) | ((with_reducible first | apply ints_at | apply le_andI | apply le_andN | apply ne_andI); (first | omega | (simp only [LN] at *; omega))) | (with_reducible refine ite_of (fun _ => ?_) (fun _ => ?_)))
  · rename_i hbad
    have hbad : badIn f = true := by simpa using hbad
    refine ⟨by simp, stN_ints h1 (by simp) (ldN_ints (l := List.replicate 16 0) (Row.set _ h1) (by simp) ?_)⟩
    refine ⟨(h3.setRow _ _ fun h => by omega), ?_⟩
    rw [if_pos hbad]; rfl
  · rename_i hbad
    have hbad : badIn f = false := by simpa using hbad
    have t1 : Own (w2.alloc (Obj.cells (ints .i64 (List.replicate 771 0)) 50)) w2.heap.size (ints .i64 (List.replicate 771 0)) := Own.new _ _ _
    have a6 : Own ((w2.alloc (Obj.cells (ints .i64 (List.replicate 771 0)) 50)).alloc (Obj.cells #[Value.pointer none] 47)) (w2.heap.size + 1) #[Value.pointer none] := by
      have := Own.new (w2.alloc (Obj.cells (ints .i64 (List.replicate 771 0)) 50)) #[Value.pointer none] 47
      rwa [World.size_alloc] at this
    replace t1 := t1.alloc (Obj.cells #[Value.pointer none] 47)
    replace h0 := (h0.alloc (Obj.cells (ints .i64 (List.replicate 771 0)) 50)).alloc (Obj.cells #[Value.pointer none] 47)
    replace h1 := (h1.alloc (Obj.cells (ints .i64 (List.replicate 771 0)) 50)).alloc (Obj.cells #[Value.pointer none] 47)
    replace h2 := (h2.alloc (Obj.cells (ints .i64 (List.replicate 771 0)) 50)).alloc (Obj.cells #[Value.pointer none] 47)
    replace h3 := (h3.alloc (Obj.cells (ints .i64 (List.replicate 771 0)) 50)).alloc (Obj.cells #[Value.pointer none] 47)
    have hsz : w2.heap.size + 2 ≤ ((w2.alloc (Obj.cells (ints .i64 (List.replicate 771 0)) 50)).alloc (Obj.cells #[Value.pointer none] 47)).heap.size := by simp
    generalize ((w2.alloc (Obj.cells (ints .i64 (List.replicate 771 0)) 50)).alloc (Obj.cells #[Value.pointer none] 47)) = w1 at *
    obtain ⟨bt, hbt⟩ : ∃ bt, w2.heap.size = bt := ⟨_, rfl⟩
    rw [hbt] at t1 a6 hsz h4 ⊢
    refine st_row a6 (by simp) rfl ?_
    have a6' : Own (w1.setRow (bt + 1) #[Value.pointer (some ⟨bt, 0, none⟩)]) (bt + 1) #[Value.pointer (some ⟨bt, 0, none⟩)] := a6.set _
    replace t1 := t1.ne #[Value.pointer (some ⟨bt, 0, none⟩)] (c := bt + 1) (by omega)
    replace h0 := h0.ne #[Value.pointer (some ⟨bt, 0, none⟩)] (c := bt + 1) (by omega)
    replace h1 := h1.ne #[Value.pointer (some ⟨bt, 0, none⟩)] (c := bt + 1) (by omega)
    replace h2 := h2.ne #[Value.pointer (some ⟨bt, 0, none⟩)] (c := bt + 1) (by omega)
    replace h3 := h3.setRow (bt + 1) #[Value.pointer (some ⟨bt, 0, none⟩)] (fun h => by omega)
    have e2 : (#[Value.pointer none] : Array Value).setIfInBounds 0 (Value.pointer (some ⟨bt, 0, none⟩)) = #[Value.pointer (some ⟨bt, 0, none⟩)] := rfl
    rw [e2]
    have hsz2 : bt + 2 ≤ (w1.setRow (bt + 1) #[Value.pointer (some ⟨bt, 0, none⟩)]).heap.size := by simpa using hsz
    generalize (w1.setRow (bt + 1) #[Value.pointer (some ⟨bt, 0, none⟩)]) = w3 at *
    clear a6 hsz e2 hbt
    (repeat' first | (simp only [RA, MI, S.dst, Nat.reduceAdd, Nat.reduceMul, Nat.reduceEqDiff, ↓reduceIte, reduceCtorEq, ne_eq, Nat.reduceLT, Nat.reduceLeDiff, gt_iff_lt, ge_iff_le, Int.reduceToNat, Nat.reduceSub, c8, x8, ints_ext, ints_set, true_and, ints_size, z23, z50, z47, z48, z3, z5, one_cell, one_cell8, one_size, one_size8, World.size_alloc]) | (first | ((with_reducible apply app_at); (first | omega | (simp only [LN] at *; omega)))) | ((with_reducible first | apply bound_of | apply wr_i64 | apply wr_u8 | apply wr_u64); (first | omega | (simp only [LN] at *; omega)); (first | omega | (simp only [LN] at *; omega))) | ((with_reducible apply ld_row); (focus ((repeat' first | (with_reducible first | assumption | apply Own.set | apply Own.new | apply Own.newD | apply Own.drew | apply Row.drew | apply Row.set | apply Row.new | apply Row.newD | apply Own.alloc | apply Row.alloc | apply Own.ne | apply Row.ne | apply Own.row) | (first | omega | (simp only [LN] at *; omega))); done))) | ((with_reducible apply ldN_row); (focus ((repeat' first | (with_reducible first | assumption | apply Own.set | apply Own.new | apply Own.newD | apply Own.drew | apply Row.drew | apply Row.set | apply Row.new | apply Row.newD | apply Own.alloc | apply Row.alloc | apply Own.ne | apply Row.ne | apply Own.row) | (first | omega | (simp only [LN] at *; omega))); done)); (first | omega | (simp only [LN] at *; omega))) | ((with_reducible apply st_row); (focus ((repeat' first | (with_reducible first | assumption | apply Own.set | apply Own.new | apply Own.newD | apply Own.drew | apply Row.drew | apply Row.set | apply Row.new | apply Row.newD | apply Own.alloc | apply Row.alloc | apply Own.ne | apply Row.ne | apply Own.row) | (first | omega | (simp only [LN] at *; omega))); done)); (first | omega | (simp only [LN] at *; omega)); rfl) | ((with_reducible first | apply ints_at | apply le_andI | apply le_andN | apply ne_andI); (first | omega | (simp only [LN] at *; omega))) | (with_reducible refine ite_of (fun _ => ?_) (fun _ => ?_)))
    have e3 : List.take (min 256 257) f = f := by rw [List.take_of_length_le (by omega)]
    rw [e3]
    refine ⟨fun v hv => int_one hv, stN_ints t1.drew (by rw [hf, List.length_replicate]; omega) ?_⟩
    have hl3 : (f ++ (List.replicate 771 (0 : Int)).drop f.length).length = 771 := by rw [List.length_append, List.length_drop, List.length_replicate, hf]
    have a6 : Own (w3.drew.setRow bt (ints .i64 (f ++ (List.replicate 771 (0 : Int)).drop f.length))) (bt + 1) #[Value.pointer (some ⟨bt, 0, none⟩)] := (a6'.drew).ne _ (by omega)
    replace h0 := (h0.drew).ne (ints .i64 (f ++ (List.replicate 771 (0 : Int)).drop f.length)) (c := bt) (by omega)
    replace h1 := (h1.drew).ne (ints .i64 (f ++ (List.replicate 771 (0 : Int)).drop f.length)) (c := bt) (by omega)
    replace h2 := (h2.drew).ne (ints .i64 (f ++ (List.replicate 771 (0 : Int)).drop f.length)) (c := bt) (by omega)
    replace h3 := (h3.drew).setRow bt (ints .i64 (f ++ (List.replicate 771 (0 : Int)).drop f.length)) (fun h => by omega)
    replace t1 := (t1.drew).set (ints .i64 (f ++ (List.replicate 771 (0 : Int)).drop f.length))
    have hsz3 : bt + 2 ≤ (w3.drew.setRow bt (ints .i64 (f ++ (List.replicate 771 (0 : Int)).drop f.length))).heap.size := by simpa using hsz2
    generalize (w3.drew.setRow bt (ints .i64 (f ++ (List.replicate 771 (0 : Int)).drop f.length))) = w4 at *
    clear a6' hsz2 e3
    (repeat' first | (simp only [RA, MI, S.dst, Nat.reduceAdd, Nat.reduceMul, Nat.reduceEqDiff, ↓reduceIte, reduceCtorEq, ne_eq, Nat.reduceLT, Nat.reduceLeDiff, gt_iff_lt, ge_iff_le, Int.reduceToNat, Nat.reduceSub, c8, x8, ints_ext, ints_set, true_and, ints_size, z23, z50, z47, z48, z3, z5, one_cell, one_cell8, one_size, one_size8, World.size_alloc]) | (first | ((with_reducible apply app_at); (first | omega | (simp only [LN] at *; omega)))) | ((with_reducible first | apply bound_of | apply wr_i64 | apply wr_u8 | apply wr_u64); (first | omega | (simp only [LN] at *; omega)); (first | omega | (simp only [LN] at *; omega))) | ((with_reducible apply ld_row); (focus ((repeat' first | (with_reducible first | assumption | apply Own.set | apply Own.new | apply Own.newD | apply Own.drew | apply Row.drew | apply Row.set | apply Row.new | apply Row.newD | apply Own.alloc | apply Row.alloc | apply Own.ne | apply Row.ne | apply Own.row) | (first | omega | (simp only [LN] at *; omega))); done))) | ((with_reducible apply ldN_row); (focus ((repeat' first | (with_reducible first | assumption | apply Own.set | apply Own.new | apply Own.newD | apply Own.drew | apply Row.drew | apply Row.set | apply Row.new | apply Row.newD | apply Own.alloc | apply Row.alloc | apply Own.ne | apply Row.ne | apply Own.row) | (first | omega | (simp only [LN] at *; omega))); done)); (first | omega | (simp only [LN] at *; omega))) | ((with_reducible apply st_row); (focus ((repeat' first | (with_reducible first | assumption | apply Own.set | apply Own.new | apply Own.newD | apply Own.drew | apply Row.drew | apply Row.set | apply Row.new | apply Row.newD | apply Own.alloc | apply Row.alloc | apply Own.ne | apply Row.ne | apply Own.row) | (first | omega | (simp only [LN] at *; omega))); done)); (first | omega | (simp only [LN] at *; omega)); rfl) | ((with_reducible first | apply ints_at | apply le_andI | apply le_andN | apply ne_andI); (first | omega | (simp only [LN] at *; omega))) | (with_reducible refine ite_of (fun _ => ?_) (fun _ => ?_)))
    rw [mT_base hf]
    have hgood : ∀ i, i < 256 → 0 ≤ g f i ∧ g f i ≤ 1099511627776 := fun i hi => good_of hbad i (by omega)
    refine loop_of (σ := Nat) (fun t => [(2, .pointer (some ⟨w.heap.size + 1, 0, none⟩)), (5, .pointer (some ⟨w.heap.size + 2, 0, none⟩)), (6, .pointer (some ⟨bt + 1, 0, none⟩)), (32, .int .i64 (t : Int))])
      (fun t w' => t ≤ 257 ∧ Own w' bt (ints .i64 (mT f t)) ∧ Row w' (bt + 1) #[Value.pointer (some ⟨bt, 0, none⟩)] ∧ Own w' (w.heap.size + 1) (ints .u8 (List.replicate 16 0)) ∧ Own w' (w.heap.size + 2) (ints .u8 (List.replicate 16 0)) ∧ Fr no w w' ∧ bt + 2 ≤ w'.heap.size)
      (fun t => 257 - t) 0 rfl ⟨by omega, t1.set _, (a6.ne _ (by omega)).row, h1.ne _ (by omega), h2.ne _ (by omega), h3.setRow _ _ (fun h => by omega), by simpa using hsz3⟩ ?_
    clear h0 h1 h2 h3 t1 a6 hsz3 hl3
    rintro t w' ⟨ht, t1, a6, h1, h2, h3, hsz⟩
    have hml := mT_len hf ht
    (repeat' first | (simp only [RA, MI, S.dst, Nat.reduceAdd, Nat.reduceMul, Nat.reduceEqDiff, ↓reduceIte, reduceCtorEq, ne_eq, Nat.reduceLT, Nat.reduceLeDiff, gt_iff_lt, ge_iff_le, Int.reduceToNat, Nat.reduceSub, c8, x8, ints_ext, ints_set, true_and, ints_size, z23, z50, z47, z48, z3, z5, one_cell, one_cell8, one_size, one_size8, World.size_alloc]) | (first | ((with_reducible apply app_at); (first | omega | (simp only [LN] at *; omega)))) | ((with_reducible first | apply bound_of | apply wr_i64 | apply wr_u8 | apply wr_u64); (first | omega | (simp only [LN] at *; omega)); (first | omega | (simp only [LN] at *; omega))) | ((with_reducible apply ld_row); (focus ((repeat' first | (with_reducible first | assumption | apply Own.set | apply Own.new | apply Own.newD | apply Own.drew | apply Row.drew | apply Row.set | apply Row.new | apply Row.newD | apply Own.alloc | apply Row.alloc | apply Own.ne | apply Row.ne | apply Own.row) | (first | omega | (simp only [LN] at *; omega))); done))) | ((with_reducible apply ldN_row); (focus ((repeat' first | (with_reducible first | assumption | apply Own.set | apply Own.new | apply Own.newD | apply Own.drew | apply Row.drew | apply Row.set | apply Row.new | apply Row.newD | apply Own.alloc | apply Row.alloc | apply Own.ne | apply Row.ne | apply Own.row) | (first | omega | (simp only [LN] at *; omega))); done)); (first | omega | (simp only [LN] at *; omega))) | ((with_reducible apply st_row); (focus ((repeat' first | (with_reducible first | assumption | apply Own.set | apply Own.new | apply Own.newD | apply Own.drew | apply Row.drew | apply Row.set | apply Row.new | apply Row.newD | apply Own.alloc | apply Row.alloc | apply Own.ne | apply Row.ne | apply Own.row) | (first | omega | (simp only [LN] at *; omega))); done)); (first | omega | (simp only [LN] at *; omega)); rfl) | ((with_reducible first | apply ints_at | apply le_andI | apply le_andN | apply ne_andI); (first | omega | (simp only [LN] at *; omega))) | (with_reducible refine ite_of (fun _ => ?_) (fun _ => ?_)))
    · rename_i hlt
      rw [mT_set hf (by omega)]
      refine ⟨t + 1, ?_, ⟨by omega, t1.set _, a6.ne _ (by omega), h1.ne _ (by omega), h2.ne _ (by omega), h3.setRow _ _ (fun h => by omega), by simpa using hsz⟩, by omega⟩
      (first | rfl | (simp only [List.cons.injEq, Prod.mk.injEq, Value.int.injEq, Value.bool.injEq, true_and, and_true, List.cons_append, List.nil_append]; done) | (simp only [List.cons.injEq, Prod.mk.injEq, Value.int.injEq, Value.bool.injEq, true_and, and_true, List.cons_append, List.nil_append]; omega))
    · rename_i hlt
      obtain rfl : t = 257 := by omega
      rw [mT_all] at t1
      obtain ⟨Z, hZ⟩ : ∃ Z, runT 257 (m0 f, fun i => [i]) = Z := ⟨_, rfl⟩
      have hZt : Z.1 = tree f := by rw [← hZ]; rfl
      (repeat' first | (simp only [RA, MI, S.dst, Nat.reduceAdd, Nat.reduceMul, Nat.reduceEqDiff, ↓reduceIte, reduceCtorEq, ne_eq, Nat.reduceLT, Nat.reduceLeDiff, gt_iff_lt, ge_iff_le, Int.reduceToNat, Nat.reduceSub, c8, x8, ints_ext, ints_set, true_and, ints_size, z23, z50, z47, z48, z3, z5, one_cell, one_cell8, one_size, one_size8, World.size_alloc]) | (first | ((with_reducible apply app_at); (first | omega | (simp only [LN] at *; omega)))) | ((with_reducible first | apply bound_of | apply wr_i64 | apply wr_u8 | apply wr_u64); (first | omega | (simp only [LN] at *; omega)); (first | omega | (simp only [LN] at *; omega))) | ((with_reducible apply ld_row); (focus ((repeat' first | (with_reducible first | assumption | apply Own.set | apply Own.new | apply Own.newD | apply Own.drew | apply Row.drew | apply Row.set | apply Row.new | apply Row.newD | apply Own.alloc | apply Row.alloc | apply Own.ne | apply Row.ne | apply Own.row) | (first | omega | (simp only [LN] at *; omega))); done))) | ((with_reducible apply ldN_row); (focus ((repeat' first | (with_reducible first | assumption | apply Own.set | apply Own.new | apply Own.newD | apply Own.drew | apply Row.drew | apply Row.set | apply Row.new | apply Row.newD | apply Own.alloc | apply Row.alloc | apply Own.ne | apply Row.ne | apply Own.row) | (first | omega | (simp only [LN] at *; omega))); done)); (first | omega | (simp only [LN] at *; omega))) | ((with_reducible apply st_row); (focus ((repeat' first | (with_reducible first | assumption | apply Own.set | apply Own.new | apply Own.newD | apply Own.drew | apply Row.drew | apply Row.set | apply Row.new | apply Row.newD | apply Own.alloc | apply Row.alloc | apply Own.ne | apply Row.ne | apply Own.row) | (first | omega | (simp only [LN] at *; omega))); done)); (first | omega | (simp only [LN] at *; omega)); rfl) | ((with_reducible first | apply ints_at | apply le_andI | apply le_andN | apply ne_andI); (first | omega | (simp only [LN] at *; omega))) | (with_reducible refine ite_of (fun _ => ?_) (fun _ => ?_)))
      refine calls_mono (lengths_any w' bt (m0 f) (fun i => [i]) (m0_wf hf hgood) t1 Z hZ) ?_
      rintro _ w3 ⟨rfl, t2, hf3⟩
      rw [hZt] at t2
      replace a6 := a6.fr hf3 (by omega)
      replace h1 := h1.fr hf3 (by omega)
      replace h2 := h2.fr hf3 (by omega)
      replace h3 := h3.trans' hf3 (fun k hk h => by omega)
      replace hsz := Nat.le_trans hsz hf3.size
      clear t1 hZ hZt Z hml hf3 ht hlt
      obtain ⟨hb, hsh, hno⟩ := shape hf hgood
      have htl : (tree f).length = 771 := tree_len hf hgood
      (repeat' first | (simp only [RA, MI, S.dst, Nat.reduceAdd, Nat.reduceMul, Nat.reduceEqDiff, ↓reduceIte, reduceCtorEq, ne_eq, Nat.reduceLT, Nat.reduceLeDiff, gt_iff_lt, ge_iff_le, Int.reduceToNat, Nat.reduceSub, c8, x8, ints_ext, ints_set, true_and, ints_size, z23, z50, z47, z48, z3, z5, one_cell, one_cell8, one_size, one_size8, World.size_alloc]) | (first | ((with_reducible apply app_at); (first | omega | (simp only [LN] at *; omega)))) | ((with_reducible first | apply bound_of | apply wr_i64 | apply wr_u8 | apply wr_u64); (first | omega | (simp only [LN] at *; omega)); (first | omega | (simp only [LN] at *; omega))) | ((with_reducible apply ld_row); (focus ((repeat' first | (with_reducible first | assumption | apply Own.set | apply Own.new | apply Own.newD | apply Own.drew | apply Row.drew | apply Row.set | apply Row.new | apply Row.newD | apply Own.alloc | apply Row.alloc | apply Own.ne | apply Row.ne | apply Own.row) | (first | omega | (simp only [LN] at *; omega))); done))) | ((with_reducible apply ldN_row); (focus ((repeat' first | (with_reducible first | assumption | apply Own.set | apply Own.new | apply Own.newD | apply Own.drew | apply Row.drew | apply Row.set | apply Row.new | apply Row.newD | apply Own.alloc | apply Row.alloc | apply Own.ne | apply Row.ne | apply Own.row) | (first | omega | (simp only [LN] at *; omega))); done)); (first | omega | (simp only [LN] at *; omega))) | ((with_reducible apply st_row); (focus ((repeat' first | (with_reducible first | assumption | apply Own.set | apply Own.new | apply Own.newD | apply Own.drew | apply Row.drew | apply Row.set | apply Row.new | apply Row.newD | apply Own.alloc | apply Row.alloc | apply Own.ne | apply Row.ne | apply Own.row) | (first | omega | (simp only [LN] at *; omega))); done)); (first | omega | (simp only [LN] at *; omega)); rfl) | ((with_reducible first | apply ints_at | apply le_andI | apply le_andN | apply ne_andI); (first | omega | (simp only [LN] at *; omega))) | (with_reducible refine ite_of (fun _ => ?_) (fun _ => ?_)))
      obtain ⟨tl, htl2⟩ : ∃ tl, List.drop 257 (List.take 514 (tree f)) = tl := ⟨_, rfl⟩
      have tlen : tl.length = 257 := by rw [← htl2, List.length_drop, List.length_take]; omega
      have tg : ∀ k, k < 257 → g tl k = bits f k := fun k hk => by rw [← htl2]; exact tree_at hk
      rw [htl2]
      obtain ⟨b8, hb8⟩ : ∃ b8, w3.heap.size = b8 := ⟨_, rfl⟩
      have n8 : Own (w3.alloc (Obj.cells (ints .i64 (List.replicate 257 0)) 48)) b8 (ints .i64 (nT (bits f) 0)) := hb8 ▸ Own.new _ _ _
      have hsz8 : b8 + 1 ≤ (w3.alloc (Obj.cells (ints .i64 (List.replicate 257 0)) 48)).heap.size := by rw [World.size_alloc]; omega
      rw [hb8] at hsz ⊢
      refine loop_of (σ := Nat × Value) (fun t => [(2, .pointer (some ⟨w.heap.size + 1, 0, none⟩)), (5, .pointer (some ⟨w.heap.size + 2, 0, none⟩)), (6, .pointer (some ⟨bt + 1, 0, none⟩)), (8, .pointer (some ⟨b8, 0, none⟩)), (9, t.2), (46, .agg (ints .i64 tl)), (47, .int .i64 (t.1 : Int))])
        (fun t w' => t.1 ≤ 257 ∧ Own w' b8 (ints .i64 (nT (bits f) t.1)) ∧ Vec w' t.2 1 ((ordL (bits f) (min t.1 256)).map (Value.int .i64)) (b8 + 1) ∧ Own w' bt (ints .i64 (tree f)) ∧ Row w' (bt + 1) #[Value.pointer (some ⟨bt, 0, none⟩)] ∧
          Own w' (w.heap.size + 1) (ints .u8 (List.replicate 16 0)) ∧ Own w' (w.heap.size + 2) (ints .u8 (List.replicate 16 0)) ∧ Fr no w w' ∧ b8 + 1 ≤ w'.heap.size)
        (fun t => 257 - t.1) (0, .slice none 0 0) rfl ⟨by dsimp only; omega, n8, .nil _ _ _, t2.alloc _, a6.alloc _, h1.alloc _, h2.alloc _, h3.alloc _, hsz8⟩ ?_
      clear n8 t2 a6 h1 h2 h3 hsz8 htl2
      rintro ⟨k, v⟩ w' ⟨hk, n8, hv, t2, a6, h1, h2, h3, hsz8⟩
      dsimp only at *
      have hnl := nT_len (bits f) k
      have hbk := hb k
      have tgk : k < 257 → g tl k = bits f k := tg k
      (repeat' first | (simp only [RA, MI, S.dst, Nat.reduceAdd, Nat.reduceMul, Nat.reduceEqDiff, ↓reduceIte, reduceCtorEq, ne_eq, Nat.reduceLT, Nat.reduceLeDiff, gt_iff_lt, ge_iff_le, Int.reduceToNat, Nat.reduceSub, c8, x8, ints_ext, ints_set, true_and, ints_size, z23, z50, z47, z48, z3, z5, one_cell, one_cell8, one_size, one_size8, World.size_alloc]) | (first | ((with_reducible apply app_at); (first | omega | (simp only [LN] at *; omega)))) | ((with_reducible first | apply bound_of | apply wr_i64 | apply wr_u8 | apply wr_u64); (first | omega | (simp only [LN] at *; omega)); (first | omega | (simp only [LN] at *; omega))) | ((with_reducible apply ld_row); (focus ((repeat' first | (with_reducible first | assumption | apply Own.set | apply Own.new | apply Own.newD | apply Own.drew | apply Row.drew | apply Row.set | apply Row.new | apply Row.newD | apply Own.alloc | apply Row.alloc | apply Own.ne | apply Row.ne | apply Own.row) | (first | omega | (simp only [LN] at *; omega))); done))) | ((with_reducible apply ldN_row); (focus ((repeat' first | (with_reducible first | assumption | apply Own.set | apply Own.new | apply Own.newD | apply Own.drew | apply Row.drew | apply Row.set | apply Row.new | apply Row.newD | apply Own.alloc | apply Row.alloc | apply Own.ne | apply Row.ne | apply Own.row) | (first | omega | (simp only [LN] at *; omega))); done)); (first | omega | (simp only [LN] at *; omega))) | ((with_reducible apply st_row); (focus ((repeat' first | (with_reducible first | assumption | apply Own.set | apply Own.new | apply Own.newD | apply Own.drew | apply Row.drew | apply Row.set | apply Row.new | apply Row.newD | apply Own.alloc | apply Row.alloc | apply Own.ne | apply Row.ne | apply Own.row) | (first | omega | (simp only [LN] at *; omega))); done)); (first | omega | (simp only [LN] at *; omega)); rfl) | ((with_reducible first | apply ints_at | apply le_andI | apply le_andN | apply ne_andI); (first | omega | (simp only [LN] at *; omega))) | (with_reducible refine ite_of (fun _ => ?_) (fun _ => ?_)))
      all_goals first | (exfalso; omega) | skip
      · rename_i hlt hpos
        have e1 := tgk (by omega)
        rw [e1] at hpos ⊢
        obtain ⟨l, hl⟩ : ∃ l : Nat, bits f k = l := ⟨(bits f k).toNat, by omega⟩
        rw [hl] at hpos hbk ⊢
        have hgl := nT_nn (fun x => (hb x).2) l k
        have hgm := nT_le (fun x => (hb x).2) l k
        have e2 : (nT (bits f) k).set l (g (nT (bits f) k) l + 1) = nT (bits f) (k + 1) := by
          simp only [nT, hl]; rw [if_pos hpos]; rfl
        have hge := hv.blk_ge
        have hlt8 := hv.blk_lt
        (repeat' first | (simp only [RA, MI, S.dst, Nat.reduceAdd, Nat.reduceMul, Nat.reduceEqDiff, ↓reduceIte, reduceCtorEq, ne_eq, Nat.reduceLT, Nat.reduceLeDiff, gt_iff_lt, ge_iff_le, Int.reduceToNat, Nat.reduceSub, c8, x8, ints_ext, ints_set, true_and, ints_size, z23, z50, z47, z48, z3, z5, one_cell, one_cell8, one_size, one_size8, World.size_alloc]) | (first | ((with_reducible apply app_at); (first | omega | (simp only [LN] at *; omega)))) | ((with_reducible first | apply bound_of | apply wr_i64 | apply wr_u8 | apply wr_u64); (first | omega | (simp only [LN] at *; omega)); (first | omega | (simp only [LN] at *; omega))) | ((with_reducible apply ld_row); (focus ((repeat' first | (with_reducible first | assumption | apply Own.set | apply Own.new | apply Own.newD | apply Own.drew | apply Row.drew | apply Row.set | apply Row.new | apply Row.newD | apply Own.alloc | apply Row.alloc | apply Own.ne | apply Row.ne | apply Own.row) | (first | omega | (simp only [LN] at *; omega))); done))) | ((with_reducible apply ldN_row); (focus ((repeat' first | (with_reducible first | assumption | apply Own.set | apply Own.new | apply Own.newD | apply Own.drew | apply Row.drew | apply Row.set | apply Row.new | apply Row.newD | apply Own.alloc | apply Row.alloc | apply Own.ne | apply Row.ne | apply Own.row) | (first | omega | (simp only [LN] at *; omega))); done)); (first | omega | (simp only [LN] at *; omega))) | ((with_reducible apply st_row); (focus ((repeat' first | (with_reducible first | assumption | apply Own.set | apply Own.new | apply Own.newD | apply Own.drew | apply Row.drew | apply Row.set | apply Row.new | apply Row.newD | apply Own.alloc | apply Row.alloc | apply Own.ne | apply Row.ne | apply Own.row) | (first | omega | (simp only [LN] at *; omega))); done)); (first | omega | (simp only [LN] at *; omega)); rfl) | ((with_reducible first | apply ints_at | apply le_andI | apply le_andN | apply ne_andI); (first | omega | (simp only [LN] at *; omega))) | (with_reducible refine ite_of (fun _ => ?_) (fun _ => ?_)))
        all_goals first | (exfalso; omega) | skip
        all_goals rw [e2]
        · rename_i _ h256
          obtain ⟨n, hln⟩ : ∃ n, (ordL (bits f) (min k 256)).length = n := ⟨_, rfl⟩
          have hon := ord_len (bits f) (min k 256)
          have hv2 : Vec ((w'.setRow b8 (ints .i64 (nT (bits f) (k + 1)))).alloc (Obj.cells #[Value.int .i64 (k : Int)] 3)) v 1 ((ordL (bits f) (min k 256)).map (Value.int .i64)) (b8 + 1) := hv.fr (((Fr.refl (· = b8) w').setRow b8 _ fun _ => rfl).alloc _) fun q h1 h2 => by have := hge _ h1; omega
          have hX : Row ((w'.setRow b8 (ints .i64 (nT (bits f) (k + 1)))).alloc (Obj.cells #[Value.int .i64 (k : Int)] 3)) w'.heap.size #[Value.int .i64 (k : Int)] := by
            have := Row.new (w'.setRow b8 (ints .i64 (nT (bits f) (k + 1)))) #[Value.int .i64 (k : Int)] 3
            rwa [show (w'.setRow b8 (ints .i64 (nT (bits f) (k + 1)))).heap.size = w'.heap.size by simp] at this
          replace n8 := (n8.set (ints .i64 (nT (bits f) (k + 1)))).alloc (Obj.cells #[Value.int .i64 (k : Int)] 3)
          replace t2 := (t2.ne (ints .i64 (nT (bits f) (k + 1))) (c := b8) (by omega)).alloc (Obj.cells #[Value.int .i64 (k : Int)] 3)
          replace a6 := (a6.ne (ints .i64 (nT (bits f) (k + 1))) (c := b8) (by omega)).alloc (Obj.cells #[Value.int .i64 (k : Int)] 3)
          replace h1 := (h1.ne (ints .i64 (nT (bits f) (k + 1))) (c := b8) (by omega)).alloc (Obj.cells #[Value.int .i64 (k : Int)] 3)
          replace h2 := (h2.ne (ints .i64 (nT (bits f) (k + 1))) (c := b8) (by omega)).alloc (Obj.cells #[Value.int .i64 (k : Int)] 3)
          replace h3 := (h3.setRow b8 (ints .i64 (nT (bits f) (k + 1))) (fun h => by omega)).alloc (Obj.cells #[Value.int .i64 (k : Int)] 3)
          have hsz9 : b8 + 2 ≤ ((w'.setRow b8 (ints .i64 (nT (bits f) (k + 1)))).alloc (Obj.cells #[Value.int .i64 (k : Int)] 3)).heap.size := by simp; omega
          have hsz10 : w'.heap.size < ((w'.setRow b8 (ints .i64 (nT (bits f) (k + 1)))).alloc (Obj.cells #[Value.int .i64 (k : Int)] 3)).heap.size := by simp
          try simp only [show (w'.setRow b8 (ints .i64 (nT (bits f) (k + 1)))).heap.size = w'.heap.size by simp]
          generalize ((w'.setRow b8 (ints .i64 (nT (bits f) (k + 1)))).alloc (Obj.cells #[Value.int .i64 (k : Int)] 3)) = w5 at *
          refine vec_append (m := 1) (new := [Value.int .i64 (k : Int)]) hv2 (by omega) (by rw [z3]; rfl) ⟨n, by rw [List.length_map, hln, Nat.mul_one], by omega, by omega⟩ (by decide) (fun R h => h) (fun R h => ?_) rfl ?_ ?_
          · rw [tk_some]; exact ldN_all hX rfl h
          · intro x hx
            rcases List.mem_append.1 hx with h | h
            · obtain ⟨q, _, rfl⟩ := List.mem_map.1 h; rfl
            · simp at h; subst h; rfl
          · intro r3 w6 hv3 hf3 hblk
            have hord : (ordL (bits f) (min (k + 1) 256)).map (Value.int .i64) = (ordL (bits f) (min k 256)).map (Value.int .i64) ++ [Value.int .i64 (k : Int)] := by
              rw [ord_min (by omega), if_pos (by rw [hl]; exact hpos), List.map_append]; rfl
            (repeat' first | (simp only [RA, MI, S.dst, Nat.reduceAdd, Nat.reduceMul, Nat.reduceEqDiff, ↓reduceIte, reduceCtorEq, ne_eq, Nat.reduceLT, Nat.reduceLeDiff, gt_iff_lt, ge_iff_le, Int.reduceToNat, Nat.reduceSub, c8, x8, ints_ext, ints_set, true_and, ints_size, z23, z50, z47, z48, z3, z5, one_cell, one_cell8, one_size, one_size8, World.size_alloc]) | (first | ((with_reducible apply app_at); (first | omega | (simp only [LN] at *; omega)))) | ((with_reducible first | apply bound_of | apply wr_i64 | apply wr_u8 | apply wr_u64); (first | omega | (simp only [LN] at *; omega)); (first | omega | (simp only [LN] at *; omega))) | ((with_reducible apply ld_row); (focus ((repeat' first | (with_reducible first | assumption | apply Own.set | apply Own.new | apply Own.newD | apply Own.drew | apply Row.drew | apply Row.set | apply Row.new | apply Row.newD | apply Own.alloc | apply Row.alloc | apply Own.ne | apply Row.ne | apply Own.row) | (first | omega | (simp only [LN] at *; omega))); done))) | ((with_reducible apply ldN_row); (focus ((repeat' first | (with_reducible first | assumption | apply Own.set | apply Own.new | apply Own.newD | apply Own.drew | apply Row.drew | apply Row.set | apply Row.new | apply Row.newD | apply Own.alloc | apply Row.alloc | apply Own.ne | apply Row.ne | apply Own.row) | (first | omega | (simp only [LN] at *; omega))); done)); (first | omega | (simp only [LN] at *; omega))) | ((with_reducible apply st_row); (focus ((repeat' first | (with_reducible first | assumption | apply Own.set | apply Own.new | apply Own.newD | apply Own.drew | apply Row.drew | apply Row.set | apply Row.new | apply Row.newD | apply Own.alloc | apply Row.alloc | apply Own.ne | apply Row.ne | apply Own.row) | (first | omega | (simp only [LN] at *; omega))); done)); (first | omega | (simp only [LN] at *; omega)); rfl) | ((with_reducible first | apply ints_at | apply le_andI | apply le_andN | apply ne_andI); (first | omega | (simp only [LN] at *; omega))) | (with_reducible refine ite_of (fun _ => ?_) (fun _ => ?_)))
            refine ⟨(k + 1, r3), ?_, ⟨by dsimp only; omega, n8.fr hf3 (fun h => by have := hge _ h; omega), by dsimp only; rw [hord]; exact hv3, t2.fr hf3 (fun h => by have := hge _ h; omega), a6.fr hf3 (fun h => by have := hge _ h; omega),
              h1.fr hf3 (fun h => by have := hge _ h; omega), h2.fr hf3 (fun h => by have := hge _ h; omega), h3.trans' hf3 (fun q hq h => by have := hge _ h; omega), by have := hf3.size; omega⟩, by dsimp only; omega⟩
            (first | rfl | (simp only [List.cons.injEq, Prod.mk.injEq, Value.int.injEq, Value.bool.injEq, true_and, and_true, List.cons_append, List.nil_append]; done) | (simp only [List.cons.injEq, Prod.mk.injEq, Value.int.injEq, Value.bool.injEq, true_and, and_true, List.cons_append, List.nil_append]; omega))
        · rename_i _ h256
          have hord : (ordL (bits f) (min (k + 1) 256)) = (ordL (bits f) (min k 256)) := ord_max (by omega)
          refine ⟨(k + 1, v), ?_, ⟨by dsimp only; omega, n8.set _, ?_, t2.ne _ (by omega), a6.ne _ (by omega), h1.ne _ (by omega), h2.ne _ (by omega), h3.setRow _ _ (fun h => by omega), by simpa using hsz8⟩, by dsimp only; omega⟩
          · (first | rfl | (simp only [List.cons.injEq, Prod.mk.injEq, Value.int.injEq, Value.bool.injEq, true_and, and_true, List.cons_append, List.nil_append]; done) | (simp only [List.cons.injEq, Prod.mk.injEq, Value.int.injEq, Value.bool.injEq, true_and, and_true, List.cons_append, List.nil_append]; omega))
          · dsimp only; rw [hord]
            exact hv.fr ((Fr.refl (· = b8) w').setRow b8 _ fun _ => rfl) fun q h1 h2 => by have := hge _ h1; omega
      · rename_i hlt _ hpos
        have e1 := tgk (by omega)
        rw [e1] at hpos
        have e2 : nT (bits f) (k + 1) = nT (bits f) k := by simp only [nT]; rw [if_neg hpos]
        have hord : (ordL (bits f) (min (k + 1) 256)) = (ordL (bits f) (min k 256)) := by
          rcases Nat.lt_or_ge k 256 with h | h
          · rw [ord_min h, if_neg hpos]
          · exact ord_max h
        refine ⟨(k + 1, v), ?_, ⟨by dsimp only; omega, by dsimp only; rw [e2]; exact n8, by dsimp only; rw [hord]; exact hv, t2, a6, h1, h2, h3, hsz8⟩, by dsimp only; omega⟩
        (first | rfl | (simp only [List.cons.injEq, Prod.mk.injEq, Value.int.injEq, Value.bool.injEq, true_and, and_true, List.cons_append, List.nil_append]; done) | (simp only [List.cons.injEq, Prod.mk.injEq, Value.int.injEq, Value.bool.injEq, true_and, and_true, List.cons_append, List.nil_append]; omega))
      · rename_i hlt
        obtain rfl : k = 257 := by omega
        obtain ⟨a, n, cap, rfl, hln, hrow⟩ := hv.row
        rw [List.length_map, Nat.mul_one] at hln
        have e256 : min 257 256 = 256 := rfl
        rw [e256] at hln hv hrow
        have hon := ord_len (bits f) 256
        have hge := hv.blk_ge
        (repeat' first | (simp only [RA, MI, S.dst, Nat.reduceAdd, Nat.reduceMul, Nat.reduceEqDiff, ↓reduceIte, reduceCtorEq, ne_eq, Nat.reduceLT, Nat.reduceLeDiff, gt_iff_lt, ge_iff_le, Int.reduceToNat, Nat.reduceSub, c8, x8, ints_ext, ints_set, true_and, ints_size, z23, z50, z47, z48, z3, z5, one_cell, one_cell8, one_size, one_size8, World.size_alloc]) | (first | ((with_reducible apply app_at); (first | omega | (simp only [LN] at *; omega)))) | ((with_reducible first | apply bound_of | apply wr_i64 | apply wr_u8 | apply wr_u64); (first | omega | (simp only [LN] at *; omega)); (first | omega | (simp only [LN] at *; omega))) | ((with_reducible apply ld_row); (focus ((repeat' first | (with_reducible first | assumption | apply Own.set | apply Own.new | apply Own.newD | apply Own.drew | apply Row.drew | apply Row.set | apply Row.new | apply Row.newD | apply Own.alloc | apply Row.alloc | apply Own.ne | apply Row.ne | apply Own.row) | (first | omega | (simp only [LN] at *; omega))); done))) | ((with_reducible apply ldN_row); (focus ((repeat' first | (with_reducible first | assumption | apply Own.set | apply Own.new | apply Own.newD | apply Own.drew | apply Row.drew | apply Row.set | apply Row.new | apply Row.newD | apply Own.alloc | apply Row.alloc | apply Own.ne | apply Row.ne | apply Own.row) | (first | omega | (simp only [LN] at *; omega))); done)); (first | omega | (simp only [LN] at *; omega))) | ((with_reducible apply st_row); (focus ((repeat' first | (with_reducible first | assumption | apply Own.set | apply Own.new | apply Own.newD | apply Own.drew | apply Row.drew | apply Row.set | apply Row.new | apply Row.newD | apply Own.alloc | apply Row.alloc | apply Own.ne | apply Row.ne | apply Own.row) | (first | omega | (simp only [LN] at *; omega))); done)); (first | omega | (simp only [LN] at *; omega)); rfl) | ((with_reducible first | apply ints_at | apply le_andI | apply le_andN | apply ne_andI); (first | omega | (simp only [LN] at *; omega))) | (with_reducible refine ite_of (fun _ => ?_) (fun _ => ?_)))
        · rename_i hn0
          have hn0 : n = 0 := by omega
          have hnil : ordL (bits f) 256 = [] := List.length_eq_zero_iff.1 (by omega)
          refine ⟨by simp, stN_ints h1 (by simp) (ldN_ints (l := List.replicate 16 0) (Row.set _ h1) (by simp) ?_)⟩
          refine ⟨(h3.setRow _ _ fun h => by omega), ?_⟩
          rw [hbad, if_neg (by decide), if_pos hnil]; rfl
        · rename_i hn0
          have hn0 : n ≠ 0 := by omega
          have hne : ordL (bits f) 256 ≠ [] := fun h => by rw [h] at hln; exact hn0 hln.symm
          have hex : ∃ x, x < 256 ∧ 0 < g f x := Classical.byContradiction fun h => by
            have h0 := hno h
            obtain ⟨y, hy⟩ := List.exists_mem_of_ne_nil _ hne
            obtain ⟨x, x1, x2, x3⟩ := ord_mem.1 hy
            rw [h0 x] at x2; omega
          obtain ⟨hSH, hcm⟩ := hsh hex
          obtain ⟨Y, hY⟩ : ∃ Y, shT 240 (nT (bits f) 257) = Y := ⟨_, rfl⟩
          rcases hrow with ⟨_, hx, _⟩ | ⟨b, rest, hbb, rfl, hcap, hob⟩
          · exact absurd hx hn0
          refine calls_mono (shorten_any w' b8 (nT (bits f) 257) hSH n8 Y hY) ?_
          rintro _ w5 ⟨rfl, hSY, n9, hf5⟩
          have hYt : shLast Y = tabN f := by unfold tabN; rw [hY]
          have hfew := hSY.few
          rw [hYt] at n9 hfew
          have hnl2 : (tabN f).length = 257 := tabN_len f
          obtain ⟨N, hN⟩ : ∃ N, tabN f = N := ⟨_, rfl⟩
          rw [hN] at n9 hfew hnl2
          replace t2 := t2.fr hf5 (by omega)
          replace a6 := a6.fr hf5 (by omega)
          replace h1 := h1.fr hf5 (by omega)
          replace h2 := h2.fr hf5 (by omega)
          replace h3 := h3.trans' hf5 (fun q hq h => by omega)
          replace hob := hob.fr hf5 (by omega)
          replace hsz8 := Nat.le_trans hsz8 hf5.size
          clear hv hf5 hSY hY hYt n8 Y
          (repeat' first | (simp only [RA, MI, S.dst, Nat.reduceAdd, Nat.reduceMul, Nat.reduceEqDiff, ↓reduceIte, reduceCtorEq, ne_eq, Nat.reduceLT, Nat.reduceLeDiff, gt_iff_lt, ge_iff_le, Int.reduceToNat, Nat.reduceSub, c8, x8, ints_ext, ints_set, true_and, ints_size, z23, z50, z47, z48, z3, z5, one_cell, one_cell8, one_size, one_size8, World.size_alloc]) | (first | ((with_reducible apply app_at); (first | omega | (simp only [LN] at *; omega)))) | ((with_reducible first | apply bound_of | apply wr_i64 | apply wr_u8 | apply wr_u64); (first | omega | (simp only [LN] at *; omega)); (first | omega | (simp only [LN] at *; omega))) | ((with_reducible apply ld_row); (focus ((repeat' first | (with_reducible first | assumption | apply Own.set | apply Own.new | apply Own.newD | apply Own.drew | apply Row.drew | apply Row.set | apply Row.new | apply Row.newD | apply Own.alloc | apply Row.alloc | apply Own.ne | apply Row.ne | apply Own.row) | (first | omega | (simp only [LN] at *; omega))); done))) | ((with_reducible apply ldN_row); (focus ((repeat' first | (with_reducible first | assumption | apply Own.set | apply Own.new | apply Own.newD | apply Own.drew | apply Row.drew | apply Row.set | apply Row.new | apply Row.newD | apply Own.alloc | apply Row.alloc | apply Own.ne | apply Row.ne | apply Own.row) | (first | omega | (simp only [LN] at *; omega))); done)); (first | omega | (simp only [LN] at *; omega))) | ((with_reducible apply st_row); (focus ((repeat' first | (with_reducible first | assumption | apply Own.set | apply Own.new | apply Own.newD | apply Own.drew | apply Row.drew | apply Row.set | apply Row.new | apply Row.newD | apply Own.alloc | apply Row.alloc | apply Own.ne | apply Row.ne | apply Own.row) | (first | omega | (simp only [LN] at *; omega))); done)); (first | omega | (simp only [LN] at *; omega)); rfl) | ((with_reducible first | apply ints_at | apply le_andI | apply le_andN | apply ne_andI); (first | omega | (simp only [LN] at *; omega))) | (with_reducible refine ite_of (fun _ => ?_) (fun _ => ?_)))
          refine calls_mono (sortStable_any (key_cmp htl bt) (key_tells f) w5 b n cap (ordL (bits f) 256) rest (tree_keeps f bt b (by omega) (by omega)) ⟨a6, t2.row⟩ hln (by omega) ?_ ?_ hob) ?_
          · intro q hq
            obtain ⟨y, y1, y2, y3⟩ := ord_mem.1 (g_mem (z := ordL (bits f) 256) (k := q) (by omega))
            exact ⟨y, y3, by omega⟩
          · intro i j hij hj
            exact ord_rise (bits f) 256 i j hij (by omega)
          rintro _ w6 ⟨rfl, Z, hZ, hZl, hZp, hZr, _, hf6⟩
          have hZd : ∀ q, q < n → 0 ≤ g Z q ∧ g Z q ≤ 255 := fun q hq => by
            obtain ⟨y, y1, y2, y3⟩ := ord_mem.1 (hZp.mem_iff.1 (g_mem (z := Z) (k := q) (by omega)))
            omega
          replace h1 := h1.fr hf6 (by omega)
          replace h2 := h2.fr hf6 (by omega)
          replace n9 := n9.fr hf6 (by omega)
          have hbw := hob.lt
          replace h3 := h3.trans' hf6 (fun q hq h => by omega)
          replace hsz8 := Nat.le_trans hsz8 hf6.size
          replace hbw := Nat.lt_of_lt_of_le hbw hf6.size
          clear hob t2 a6
          (repeat' first | (simp only [RA, MI, S.dst, Nat.reduceAdd, Nat.reduceMul, Nat.reduceEqDiff, ↓reduceIte, reduceCtorEq, ne_eq, Nat.reduceLT, Nat.reduceLeDiff, gt_iff_lt, ge_iff_le, Int.reduceToNat, Nat.reduceSub, c8, x8, ints_ext, ints_set, true_and, ints_size, z23, z50, z47, z48, z3, z5, one_cell, one_cell8, one_size, one_size8, World.size_alloc]) | (first | ((with_reducible apply app_at); (first | omega | (simp only [LN] at *; omega)))) | ((with_reducible first | apply bound_of | apply wr_i64 | apply wr_u8 | apply wr_u64); (first | omega | (simp only [LN] at *; omega)); (first | omega | (simp only [LN] at *; omega))) | ((with_reducible apply ld_row); (focus ((repeat' first | (with_reducible first | assumption | apply Own.set | apply Own.new | apply Own.newD | apply Own.drew | apply Row.drew | apply Row.set | apply Row.new | apply Row.newD | apply Own.alloc | apply Row.alloc | apply Own.ne | apply Row.ne | apply Own.row) | (first | omega | (simp only [LN] at *; omega))); done))) | ((with_reducible apply ldN_row); (focus ((repeat' first | (with_reducible first | assumption | apply Own.set | apply Own.new | apply Own.newD | apply Own.drew | apply Row.drew | apply Row.set | apply Row.new | apply Row.newD | apply Own.alloc | apply Row.alloc | apply Own.ne | apply Row.ne | apply Own.row) | (first | omega | (simp only [LN] at *; omega))); done)); (first | omega | (simp only [LN] at *; omega))) | ((with_reducible apply st_row); (focus ((repeat' first | (with_reducible first | assumption | apply Own.set | apply Own.new | apply Own.newD | apply Own.drew | apply Row.drew | apply Row.set | apply Row.new | apply Row.newD | apply Own.alloc | apply Row.alloc | apply Own.ne | apply Row.ne | apply Own.row) | (first | omega | (simp only [LN] at *; omega))); done)); (first | omega | (simp only [LN] at *; omega)); rfl) | ((with_reducible first | apply ints_at | apply le_andI | apply le_andN | apply ne_andI); (first | omega | (simp only [LN] at *; omega))) | (with_reducible refine ite_of (fun _ => ?_) (fun _ => ?_)))
          refine loop_of (σ := Nat × Value) (fun t => [(2, .pointer (some ⟨w.heap.size + 1, 0, none⟩)), (5, .pointer (some ⟨w.heap.size + 2, 0, none⟩)), (8, .pointer (some ⟨b8, 0, none⟩)), (12, t.2), (77, .slice (some ⟨b, 0, none⟩) n cap), (78, .int .i64 (n : Int)), (79, .int .i64 (t.1 : Int))])
            (fun t w' => t.1 ≤ n ∧ Own w' b8 (ints .i64 N) ∧ Vec w' t.2 1 ((Z.take t.1).map (Value.int .u8)) w6.heap.size ∧ Own w' b (Z.map (Value.int .i64) ++ rest).toArray ∧
              Own w' (w.heap.size + 1) (ints .u8 (List.replicate 16 0)) ∧ Own w' (w.heap.size + 2) (ints .u8 (List.replicate 16 0)) ∧ Fr no w w' ∧ w6.heap.size ≤ w'.heap.size)
            (fun t => n - t.1) (0, .slice none 0 0) rfl ⟨by dsimp only; omega, n9, .nil _ _ _, hZ, h1, h2, h3, Nat.le_refl _⟩ ?_
          clear n9 hZ h1 h2 h3
          rintro ⟨k, v⟩ w' ⟨hk, n9, hv, hZ, h1, h2, h3, hsz9⟩
          dsimp only at *
          have hzk := hZd k
          (repeat' first | (simp only [RA, MI, S.dst, Nat.reduceAdd, Nat.reduceMul, Nat.reduceEqDiff, ↓reduceIte, reduceCtorEq, ne_eq, Nat.reduceLT, Nat.reduceLeDiff, gt_iff_lt, ge_iff_le, Int.reduceToNat, Nat.reduceSub, c8, x8, ints_ext, ints_set, true_and, ints_size, z23, z50, z47, z48, z3, z5, one_cell, one_cell8, one_size, one_size8, World.size_alloc]) | (first | ((with_reducible apply app_at); (first | omega | (simp only [LN] at *; omega)))) | ((with_reducible first | apply bound_of | apply wr_i64 | apply wr_u8 | apply wr_u64); (first | omega | (simp only [LN] at *; omega)); (first | omega | (simp only [LN] at *; omega))) | ((with_reducible apply ld_row); (focus ((repeat' first | (with_reducible first | assumption | apply Own.set | apply Own.new | apply Own.newD | apply Own.drew | apply Row.drew | apply Row.set | apply Row.new | apply Row.newD | apply Own.alloc | apply Row.alloc | apply Own.ne | apply Row.ne | apply Own.row) | (first | omega | (simp only [LN] at *; omega))); done))) | ((with_reducible apply ldN_row); (focus ((repeat' first | (with_reducible first | assumption | apply Own.set | apply Own.new | apply Own.newD | apply Own.drew | apply Row.drew | apply Row.set | apply Row.new | apply Row.newD | apply Own.alloc | apply Row.alloc | apply Own.ne | apply Row.ne | apply Own.row) | (first | omega | (simp only [LN] at *; omega))); done)); (first | omega | (simp only [LN] at *; omega))) | ((with_reducible apply st_row); (focus ((repeat' first | (with_reducible first | assumption | apply Own.set | apply Own.new | apply Own.newD | apply Own.drew | apply Row.drew | apply Row.set | apply Row.new | apply Row.newD | apply Own.alloc | apply Row.alloc | apply Own.ne | apply Row.ne | apply Own.row) | (first | omega | (simp only [LN] at *; omega))); done)); (first | omega | (simp only [LN] at *; omega)); rfl) | ((with_reducible first | apply ints_at | apply le_andI | apply le_andN | apply ne_andI); (first | omega | (simp only [LN] at *; omega))) | (with_reducible refine ite_of (fun _ => ?_) (fun _ => ?_)))
          · rename_i hlt
            have hzk := hzk (by omega)
            have hge := hv.blk_ge
            have hlt8 := hv.blk_lt
            (repeat' first | (simp only [RA, MI, S.dst, Nat.reduceAdd, Nat.reduceMul, Nat.reduceEqDiff, ↓reduceIte, reduceCtorEq, ne_eq, Nat.reduceLT, Nat.reduceLeDiff, gt_iff_lt, ge_iff_le, Int.reduceToNat, Nat.reduceSub, c8, x8, ints_ext, ints_set, true_and, ints_size, z23, z50, z47, z48, z3, z5, one_cell, one_cell8, one_size, one_size8, World.size_alloc]) | (first | ((with_reducible apply app_at); (first | omega | (simp only [LN] at *; omega)))) | ((with_reducible first | apply bound_of | apply wr_i64 | apply wr_u8 | apply wr_u64); (first | omega | (simp only [LN] at *; omega)); (first | omega | (simp only [LN] at *; omega))) | ((with_reducible apply ld_row); (focus ((repeat' first | (with_reducible first | assumption | apply Own.set | apply Own.new | apply Own.newD | apply Own.drew | apply Row.drew | apply Row.set | apply Row.new | apply Row.newD | apply Own.alloc | apply Row.alloc | apply Own.ne | apply Row.ne | apply Own.row) | (first | omega | (simp only [LN] at *; omega))); done))) | ((with_reducible apply ldN_row); (focus ((repeat' first | (with_reducible first | assumption | apply Own.set | apply Own.new | apply Own.newD | apply Own.drew | apply Row.drew | apply Row.set | apply Row.new | apply Row.newD | apply Own.alloc | apply Row.alloc | apply Own.ne | apply Row.ne | apply Own.row) | (first | omega | (simp only [LN] at *; omega))); done)); (first | omega | (simp only [LN] at *; omega))) | ((with_reducible apply st_row); (focus ((repeat' first | (with_reducible first | assumption | apply Own.set | apply Own.new | apply Own.newD | apply Own.drew | apply Row.drew | apply Row.set | apply Row.new | apply Row.newD | apply Own.alloc | apply Row.alloc | apply Own.ne | apply Row.ne | apply Own.row) | (first | omega | (simp only [LN] at *; omega))); done)); (first | omega | (simp only [LN] at *; omega)); rfl) | ((with_reducible first | apply ints_at | apply le_andI | apply le_andN | apply ne_andI); (first | omega | (simp only [LN] at *; omega))) | (with_reducible refine ite_of (fun _ => ?_) (fun _ => ?_)))
            have hv2 : Vec (w'.alloc (Obj.cells #[Value.int .u8 (g Z k)] 5)) v 1 ((Z.take k).map (Value.int .u8)) w6.heap.size := hv.fr (S := X.no) (by (focus ((repeat' first | (with_reducible first | assumption | apply Fr.drew | apply Fr.alloc | apply Fr.setRow | exact Fr.refl _ _) | (intro _; rfl) | (intro hb; simp only [X.no] at *; omega)); done))) fun _ _ h => h
            have hX : Row (w'.alloc (Obj.cells #[Value.int .u8 (g Z k)] 5)) w'.heap.size #[Value.int .u8 (g Z k)] := by (focus ((repeat' first | (with_reducible first | assumption | apply Own.set | apply Own.new | apply Own.newD | apply Own.drew | apply Row.drew | apply Row.set | apply Row.new | apply Row.newD | apply Own.alloc | apply Row.alloc | apply Own.ne | apply Row.ne | apply Own.row) | (first | omega | (simp only [LN] at *; omega))); done))
            replace n9 := n9.alloc (Obj.cells #[Value.int .u8 (g Z k)] 5)
            replace hZ := hZ.alloc (Obj.cells #[Value.int .u8 (g Z k)] 5)
            replace h1 := h1.alloc (Obj.cells #[Value.int .u8 (g Z k)] 5)
            replace h2 := h2.alloc (Obj.cells #[Value.int .u8 (g Z k)] 5)
            replace h3 := h3.alloc (Obj.cells #[Value.int .u8 (g Z k)] 5)
            have hsz10 : w6.heap.size ≤ (w'.alloc (Obj.cells #[Value.int .u8 (g Z k)] 5)).heap.size := by simp; omega
            generalize (w'.alloc (Obj.cells #[Value.int .u8 (g Z k)] 5)) = w7 at *
            refine vec_append (m := 1) (new := [Value.int .u8 (g Z k)]) hv2 hsz10 (by rw [z5]; rfl) ⟨k, by rw [List.length_map, List.length_take, Nat.mul_one]; omega, by omega, by omega⟩ (by decide) (fun R h => h) (fun R h => ?_) rfl ?_ ?_
            · rw [tk_some]; exact ldN_all hX rfl h
            · intro x hx
              rcases List.mem_append.1 hx with h | h
              · obtain ⟨q, _, rfl⟩ := List.mem_map.1 h; rfl
              · simp at h; subst h; rfl
            · intro r3 w8 hv3 hf3 hblk
              (repeat' first | (simp only [RA, MI, S.dst, Nat.reduceAdd, Nat.reduceMul, Nat.reduceEqDiff, ↓reduceIte, reduceCtorEq, ne_eq, Nat.reduceLT, Nat.reduceLeDiff, gt_iff_lt, ge_iff_le, Int.reduceToNat, Nat.reduceSub, c8, x8, ints_ext, ints_set, true_and, ints_size, z23, z50, z47, z48, z3, z5, one_cell, one_cell8, one_size, one_size8, World.size_alloc]) | (first | ((with_reducible apply app_at); (first | omega | (simp only [LN] at *; omega)))) | ((with_reducible first | apply bound_of | apply wr_i64 | apply wr_u8 | apply wr_u64); (first | omega | (simp only [LN] at *; omega)); (first | omega | (simp only [LN] at *; omega))) | ((with_reducible apply ld_row); (focus ((repeat' first | (with_reducible first | assumption | apply Own.set | apply Own.new | apply Own.newD | apply Own.drew | apply Row.drew | apply Row.set | apply Row.new | apply Row.newD | apply Own.alloc | apply Row.alloc | apply Own.ne | apply Row.ne | apply Own.row) | (first | omega | (simp only [LN] at *; omega))); done))) | ((with_reducible apply ldN_row); (focus ((repeat' first | (with_reducible first | assumption | apply Own.set | apply Own.new | apply Own.newD | apply Own.drew | apply Row.drew | apply Row.set | apply Row.new | apply Row.newD | apply Own.alloc | apply Row.alloc | apply Own.ne | apply Row.ne | apply Own.row) | (first | omega | (simp only [LN] at *; omega))); done)); (first | omega | (simp only [LN] at *; omega))) | ((with_reducible apply st_row); (focus ((repeat' first | (with_reducible first | assumption | apply Own.set | apply Own.new | apply Own.newD | apply Own.drew | apply Row.drew | apply Row.set | apply Row.new | apply Row.newD | apply Own.alloc | apply Row.alloc | apply Own.ne | apply Row.ne | apply Own.row) | (first | omega | (simp only [LN] at *; omega))); done)); (first | omega | (simp only [LN] at *; omega)); rfl) | ((with_reducible first | apply ints_at | apply le_andI | apply le_andN | apply ne_andI); (first | omega | (simp only [LN] at *; omega))) | (with_reducible refine ite_of (fun _ => ?_) (fun _ => ?_)))
              refine ⟨(k + 1, r3), ?_, ⟨by dsimp only; omega, n9.fr hf3 (fun h => by have := hge _ h; omega), ?_, hZ.fr hf3 (fun h => by have := hge _ h; omega), h1.fr hf3 (fun h => by have := hge _ h; omega), h2.fr hf3 (fun h => by have := hge _ h; omega),
                h3.trans' hf3 (fun q hq h => by have := hge _ h; omega), by have := hf3.size; omega⟩, by dsimp only; omega⟩
              · (first | rfl | (simp only [List.cons.injEq, Prod.mk.injEq, Value.int.injEq, Value.bool.injEq, true_and, and_true, List.cons_append, List.nil_append]; done) | (simp only [List.cons.injEq, Prod.mk.injEq, Value.int.injEq, Value.bool.injEq, true_and, and_true, List.cons_append, List.nil_append]; omega))
              · dsimp only
                rw [take_g (by omega), List.map_append]; exact hv3
          · rename_i hlt
            obtain rfl : k = n := by omega
            have eZ : Z.take k = Z := List.take_of_length_le (by omega)
            rw [eZ] at hv
            have hge := hv.blk_ge
            refine loop_of (σ := Nat) (fun t => [(2, .pointer (some ⟨w.heap.size + 1, 0, none⟩)), (5, .pointer (some ⟨w.heap.size + 2, 0, none⟩)), (8, .pointer (some ⟨b8, 0, none⟩)), (12, v), (89, .int .i64 (t : Int))])
              (fun t w' => t ≤ 16 ∧ Own w' b8 (ints .i64 N) ∧ Vec w' v 1 (Z.map (Value.int .u8)) w6.heap.size ∧
                Own w' (w.heap.size + 1) (ints .u8 (List.replicate 16 0)) ∧ Own w' (w.heap.size + 2) (ints .u8 (cT N t)) ∧ Fr no w w')
              (fun t => 16 - t) 0 rfl ⟨by omega, n9, hv, h1, h2, h3⟩ ?_
            clear n9 hv hZ h1 h2 h3
            rintro l w' ⟨hl, n9, hv, h1, h2, h3⟩
            have hcl := cT_len N hl
            have hfl := hfew (l + 1)
            (repeat' first | (simp only [RA, MI, S.dst, Nat.reduceAdd, Nat.reduceMul, Nat.reduceEqDiff, ↓reduceIte, reduceCtorEq, ne_eq, Nat.reduceLT, Nat.reduceLeDiff, gt_iff_lt, ge_iff_le, Int.reduceToNat, Nat.reduceSub, c8, x8, ints_ext, ints_set, true_and, ints_size, z23, z50, z47, z48, z3, z5, one_cell, one_cell8, one_size, one_size8, World.size_alloc]) | (first | ((with_reducible apply app_at); (first | omega | (simp only [LN] at *; omega)))) | ((with_reducible first | apply bound_of | apply wr_i64 | apply wr_u8 | apply wr_u64); (first | omega | (simp only [LN] at *; omega)); (first | omega | (simp only [LN] at *; omega))) | ((with_reducible apply ld_row); (focus ((repeat' first | (with_reducible first | assumption | apply Own.set | apply Own.new | apply Own.newD | apply Own.drew | apply Row.drew | apply Row.set | apply Row.new | apply Row.newD | apply Own.alloc | apply Row.alloc | apply Own.ne | apply Row.ne | apply Own.row) | (first | omega | (simp only [LN] at *; omega))); done))) | ((with_reducible apply ldN_row); (focus ((repeat' first | (with_reducible first | assumption | apply Own.set | apply Own.new | apply Own.newD | apply Own.drew | apply Row.drew | apply Row.set | apply Row.new | apply Row.newD | apply Own.alloc | apply Row.alloc | apply Own.ne | apply Row.ne | apply Own.row) | (first | omega | (simp only [LN] at *; omega))); done)); (first | omega | (simp only [LN] at *; omega))) | ((with_reducible apply st_row); (focus ((repeat' first | (with_reducible first | assumption | apply Own.set | apply Own.new | apply Own.newD | apply Own.drew | apply Row.drew | apply Row.set | apply Row.new | apply Row.newD | apply Own.alloc | apply Row.alloc | apply Own.ne | apply Row.ne | apply Own.row) | (first | omega | (simp only [LN] at *; omega))); done)); (first | omega | (simp only [LN] at *; omega)); rfl) | ((with_reducible first | apply ints_at | apply le_andI | apply le_andN | apply ne_andI); (first | omega | (simp only [LN] at *; omega))) | (with_reducible refine ite_of (fun _ => ?_) (fun _ => ?_)))
            · rename_i hl16
              have hfl := hfl (by omega) (by omega)
              have i1 : ((l : Int) + 1).toNat = l + 1 := by omega
              try simp only [i1]
              (repeat' first | (simp only [RA, MI, S.dst, Nat.reduceAdd, Nat.reduceMul, Nat.reduceEqDiff, ↓reduceIte, reduceCtorEq, ne_eq, Nat.reduceLT, Nat.reduceLeDiff, gt_iff_lt, ge_iff_le, Int.reduceToNat, Nat.reduceSub, c8, x8, ints_ext, ints_set, true_and, ints_size, z23, z50, z47, z48, z3, z5, one_cell, one_cell8, one_size, one_size8, World.size_alloc]) | (first | ((with_reducible apply app_at); (first | omega | (simp only [LN] at *; omega)))) | ((with_reducible first | apply bound_of | apply wr_i64 | apply wr_u8 | apply wr_u64); (first | omega | (simp only [LN] at *; omega)); (first | omega | (simp only [LN] at *; omega))) | ((with_reducible apply ld_row); (focus ((repeat' first | (with_reducible first | assumption | apply Own.set | apply Own.new | apply Own.newD | apply Own.drew | apply Row.drew | apply Row.set | apply Row.new | apply Row.newD | apply Own.alloc | apply Row.alloc | apply Own.ne | apply Row.ne | apply Own.row) | (first | omega | (simp only [LN] at *; omega))); done))) | ((with_reducible apply ldN_row); (focus ((repeat' first | (with_reducible first | assumption | apply Own.set | apply Own.new | apply Own.newD | apply Own.drew | apply Row.drew | apply Row.set | apply Row.new | apply Row.newD | apply Own.alloc | apply Row.alloc | apply Own.ne | apply Row.ne | apply Own.row) | (first | omega | (simp only [LN] at *; omega))); done)); (first | omega | (simp only [LN] at *; omega))) | ((with_reducible apply st_row); (focus ((repeat' first | (with_reducible first | assumption | apply Own.set | apply Own.new | apply Own.newD | apply Own.drew | apply Row.drew | apply Row.set | apply Row.new | apply Row.newD | apply Own.alloc | apply Row.alloc | apply Own.ne | apply Row.ne | apply Own.row) | (first | omega | (simp only [LN] at *; omega))); done)); (first | omega | (simp only [LN] at *; omega)); rfl) | ((with_reducible first | apply ints_at | apply le_andI | apply le_andN | apply ne_andI); (first | omega | (simp only [LN] at *; omega))) | (with_reducible refine ite_of (fun _ => ?_) (fun _ => ?_)))
              try simp only [i1]
              (repeat' first | (simp only [RA, MI, S.dst, Nat.reduceAdd, Nat.reduceMul, Nat.reduceEqDiff, ↓reduceIte, reduceCtorEq, ne_eq, Nat.reduceLT, Nat.reduceLeDiff, gt_iff_lt, ge_iff_le, Int.reduceToNat, Nat.reduceSub, c8, x8, ints_ext, ints_set, true_and, ints_size, z23, z50, z47, z48, z3, z5, one_cell, one_cell8, one_size, one_size8, World.size_alloc]) | (first | ((with_reducible apply app_at); (first | omega | (simp only [LN] at *; omega)))) | ((with_reducible first | apply bound_of | apply wr_i64 | apply wr_u8 | apply wr_u64); (first | omega | (simp only [LN] at *; omega)); (first | omega | (simp only [LN] at *; omega))) | ((with_reducible apply ld_row); (focus ((repeat' first | (with_reducible first | assumption | apply Own.set | apply Own.new | apply Own.newD | apply Own.drew | apply Row.drew | apply Row.set | apply Row.new | apply Row.newD | apply Own.alloc | apply Row.alloc | apply Own.ne | apply Row.ne | apply Own.row) | (first | omega | (simp only [LN] at *; omega))); done))) | ((with_reducible apply ldN_row); (focus ((repeat' first | (with_reducible first | assumption | apply Own.set | apply Own.new | apply Own.newD | apply Own.drew | apply Row.drew | apply Row.set | apply Row.new | apply Row.newD | apply Own.alloc | apply Row.alloc | apply Own.ne | apply Row.ne | apply Own.row) | (first | omega | (simp only [LN] at *; omega))); done)); (first | omega | (simp only [LN] at *; omega))) | ((with_reducible apply st_row); (focus ((repeat' first | (with_reducible first | assumption | apply Own.set | apply Own.new | apply Own.newD | apply Own.drew | apply Row.drew | apply Row.set | apply Row.new | apply Row.newD | apply Own.alloc | apply Row.alloc | apply Own.ne | apply Row.ne | apply Own.row) | (first | omega | (simp only [LN] at *; omega))); done)); (first | omega | (simp only [LN] at *; omega)); rfl) | ((with_reducible first | apply ints_at | apply le_andI | apply le_andN | apply ne_andI); (first | omega | (simp only [LN] at *; omega))) | (with_reducible refine ite_of (fun _ => ?_) (fun _ => ?_)))
              rw [cT_set N (by omega)]
              refine ⟨l + 1, ?_, ⟨by omega, n9.ne _ (by omega), hv.fr ((Fr.refl (· = w.heap.size + 2) w').setRow (w.heap.size + 2) _ fun _ => rfl) (fun q q1 q2 => by have := hge _ q1; omega), h1.ne _ (by omega), h2.set _, h3.setRow _ _ (fun h => by omega)⟩, by omega⟩
              (first | rfl | (simp only [List.cons.injEq, Prod.mk.injEq, Value.int.injEq, Value.bool.injEq, true_and, and_true, List.cons_append, List.nil_append]; done) | (simp only [List.cons.injEq, Prod.mk.injEq, Value.int.injEq, Value.bool.injEq, true_and, and_true, List.cons_append, List.nil_append]; omega))
            · rename_i hl16
              obtain rfl : l = 16 := by omega
              obtain ⟨a, m, cap2, rfl, hlm, hrow⟩ := hv.row
              rw [List.length_map, Nat.mul_one] at hlm
              rcases hrow with ⟨_, hx, _⟩ | ⟨bo, ro, hbo, rfl, hcapo, hoo⟩
              · exfalso; omega
              (repeat' first | (simp only [RA, MI, S.dst, Nat.reduceAdd, Nat.reduceMul, Nat.reduceEqDiff, ↓reduceIte, reduceCtorEq, ne_eq, Nat.reduceLT, Nat.reduceLeDiff, gt_iff_lt, ge_iff_le, Int.reduceToNat, Nat.reduceSub, c8, x8, ints_ext, ints_set, true_and, ints_size, z23, z50, z47, z48, z3, z5, one_cell, one_cell8, one_size, one_size8, World.size_alloc]) | (first | ((with_reducible apply app_at); (first | omega | (simp only [LN] at *; omega)))) | ((with_reducible first | apply bound_of | apply wr_i64 | apply wr_u8 | apply wr_u64); (first | omega | (simp only [LN] at *; omega)); (first | omega | (simp only [LN] at *; omega))) | ((with_reducible apply ld_row); (focus ((repeat' first | (with_reducible first | assumption | apply Own.set | apply Own.new | apply Own.newD | apply Own.drew | apply Row.drew | apply Row.set | apply Row.new | apply Row.newD | apply Own.alloc | apply Row.alloc | apply Own.ne | apply Row.ne | apply Own.row) | (first | omega | (simp only [LN] at *; omega))); done))) | ((with_reducible apply ldN_row); (focus ((repeat' first | (with_reducible first | assumption | apply Own.set | apply Own.new | apply Own.newD | apply Own.drew | apply Row.drew | apply Row.set | apply Row.new | apply Row.newD | apply Own.alloc | apply Row.alloc | apply Own.ne | apply Row.ne | apply Own.row) | (first | omega | (simp only [LN] at *; omega))); done)); (first | omega | (simp only [LN] at *; omega))) | ((with_reducible apply st_row); (focus ((repeat' first | (with_reducible first | assumption | apply Own.set | apply Own.new | apply Own.newD | apply Own.drew | apply Row.drew | apply Row.set | apply Row.new | apply Row.newD | apply Own.alloc | apply Row.alloc | apply Own.ne | apply Row.ne | apply Own.row) | (first | omega | (simp only [LN] at *; omega))); done)); (first | omega | (simp only [LN] at *; omega)); rfl) | ((with_reducible first | apply ints_at | apply le_andI | apply le_andN | apply ne_andI); (first | omega | (simp only [LN] at *; omega))) | (with_reducible refine ite_of (fun _ => ?_) (fun _ => ?_)))
              refine ⟨fun k => k = bo, ldN_ints h2.row hcl ⟨rfl, ?_⟩⟩
              try rw [tk_some, Nat.mul_one]
              refine ldN_row hoo.drew.row (by simp; omega) ?_
              have e1 : ((Z.map (Value.int .u8) ++ ro).toArray.extract 0 (0 + m)).toList = Z.map (Value.int .u8) := by
                have : m = (Z.map (Value.int .u8)).length := by rw [List.length_map]; omega
                rw [Nat.zero_add, this]; simp
              rw [e1]
              unfold Bytes1
              rw [u8s_of]
              refine ⟨by rw [ints_size]; exact hcl, stN_ints h1.drew (by simp [hcl]) ⟨fun q q1 q2 => ?_, ?_⟩⟩
              · dsimp only at q1 ⊢
                rw [q1]; exact setRow_other _ _ _ _ (by omega)
              · have e2 : cT N 16 ++ (List.replicate 16 (0 : Int)).drop (cT N 16).length = cT N 16 := by rw [hcl]; exact List.append_nil _
                rw [e2]
                refine ldN_ints (Row.set _ h1.drew) hcl ?_
                refine ⟨h3.drew.setRow _ _ (fun h => by omega), ?_⟩
                rw [hbad, if_neg (by decide), if_neg hne]
                refine ⟨Z, hZp, by rw [hZl]; exact hZr, ?_⟩
                rw [← cT_all, hN]; rfl
end Go.Proofs.Ytomckpllbihikaa
