/-
  BestTables, walked.
-/
import Derived.Test.YtomckpllbihikaaT3
set_option autoImplicit false
set_option linter.unusedSimpArgs false
set_option linter.unusedVariables false
namespace Go.Proofs.Ytomckpllbihikaa
open X

theorem srt_unique {K : Int → Int} : ∀ (l l' : List Int), l.Pairwise (fun a b => K a < K b) → l'.Pairwise (fun a b => K a < K b) → l.Perm l' → l = l'
  | [], l', _, _, h => (List.nil_perm.1 h).symm
  | a :: l, [], _, _, h => by have := h.length_eq; simp at this
  | a :: l, b :: l', h, h', hp => by
    obtain ⟨h1, h2⟩ := List.pairwise_cons.1 h
    obtain ⟨h3, h4⟩ := List.pairwise_cons.1 h'
    have e : a = b := by
      have ha := hp.mem_iff.1 (List.mem_cons_self (a := a) (l := l))
      have hb := hp.mem_iff.2 (List.mem_cons_self (a := b) (l := l'))
      rcases List.mem_cons.1 ha with y | y
      · exact y
      · rcases List.mem_cons.1 hb with z | z
        · exact z.symm
        · have := h1 b z; have := h3 a y; omega
    subst e
    rw [srt_unique l l' h2 h4 ((List.perm_cons a).1 hp)]
theorem rise_pw {K : Int → Int} {Z : List Int} (h : Rise K Z 0 Z.length) : Z.Pairwise fun a b => K a < K b := by
  rw [List.pairwise_iff_getElem]
  intro i j hi hj hij
  have := h i j (Nat.zero_le _) hij hj
  simpa [g, List.getD_eq_getElem?_getD, List.getElem?_eq_getElem hj, List.getElem?_eq_getElem hi] using this

/-- Both tables are one. -/
theorem same_tab {w w' w2 w2' : World} {f : List Int} {e e2 : Ending} (hf : f.length = 256) (h : TabPost w f e w') (h2 : RTabPost w2 f e2 w2') : Fr no w w' ∧ Fr no w2 w2' ∧ ∃ (c : List Int) (s : ByteArray) (n : Int),
    e = .returned (.tuple #[.agg (ints .u8 c), .string s, .int .i64 n]) ∧ e2 = .returned (.tuple #[.agg (ints .u8 c), .string s, .int .i64 n]) ∧ c.length = 16 ∧ ∀ i, 0 ≤ g c i ∧ g c i ≤ 255 := by
  obtain ⟨h1, h⟩ := h
  obtain ⟨h3, h2⟩ := h2
  refine ⟨h1, h3, ?_⟩
  have z16 : ∀ i, 0 ≤ g (List.replicate 16 (0 : Int)) i ∧ g (List.replicate 16 (0 : Int)) i ≤ 255 := fun i => by
    rcases Nat.lt_or_ge i 16 with y | y
    · rw [g_rep _ _ _ y]; omega
    · rw [g_far (by rw [List.length_replicate]; exact y)]; omega
  cases hb : badIn f with
  | true =>
    rw [hb, if_pos rfl] at h h2
    exact ⟨_, _, _, h, h2, List.length_replicate, z16⟩
  | false =>
    rw [hb, if_neg (by decide)] at h h2
    have hg : ∀ i, i < 256 → 0 ≤ g f i ∧ g f i ≤ 1099511627776 := fun i hi => good_of hb i (by omega)
    cases ha : anyB f 256 with
    | false =>
      have hno : ¬ ∃ x, x < 256 ∧ 0 < g f x := fun hx => by
        have := (anyB_iff f 256).2 hx
        rw [ha] at this; cases this
      have h0 := (shape hf hg).2.2 hno
      have hnil : ordL (bits f) 256 = [] := List.eq_nil_iff_forall_not_mem.2 fun x hx => by
        obtain ⟨y, _, y2, _⟩ := ord_mem.1 hx
        rw [h0 y] at y2; omega
      rw [if_pos hnil] at h
      rw [ha, if_pos rfl] at h2
      exact ⟨_, _, _, h, h2, List.length_replicate, z16⟩
    | true =>
      have hex := (anyB_iff f 256).1 ha
      have hne : ordL (bits f) 256 ≠ [] := fun e => by
        obtain ⟨x, x1, x2⟩ := hex
        have : (x : Int) ∈ ordL (bits f) 256 := ord_mem.2 ⟨x, x1, (((shape hf hg).2.1 ⟨x, x1, x2⟩).2 x (by omega)).2 (.inr x2), rfl⟩
        rw [e] at this; cases this
      rw [if_neg hne] at h
      rw [ha, if_neg (by decide)] at h2
      obtain ⟨Z, p1, p2, p3⟩ := h
      obtain ⟨Z2, q1, q2, q3⟩ := h2
      have : Z = Z2 := srt_unique _ _ (rise_pw p2) (rise_pw q2) (p1.trans q1.symm)
      subst this
      exact ⟨_, _, _, p3, q3, tabC_len f, (table_made hf hg hex p1).1⟩

/-- What Table answers has this form. -/
theorem tab_form {w w' : World} {f : List Int} {e : Ending} (hf : f.length = 256) (h : TabPost w f e w') : ∃ (c : List Int) (s : ByteArray) (n : Int), e = .returned (.tuple #[.agg (ints .u8 c), .string s, .int .i64 n]) ∧ c.length = 16 ∧ ∀ i, 0 ≤ g c i ∧ g c i ≤ 255 := by
  obtain ⟨_, h⟩ := h
  have z16 : ∀ i, 0 ≤ g (List.replicate 16 (0 : Int)) i ∧ g (List.replicate 16 (0 : Int)) i ≤ 255 := fun i => by
    rcases Nat.lt_or_ge i 16 with y | y
    · rw [g_rep _ _ _ y]; omega
    · rw [g_far (by rw [List.length_replicate]; exact y)]; omega
  cases hb : badIn f with
  | true => rw [hb, if_pos rfl] at h; exact ⟨_, _, _, h, List.length_replicate, z16⟩
  | false =>
    rw [hb, if_neg (by decide)] at h
    have hg : ∀ i, i < 256 → 0 ≤ g f i ∧ g f i ≤ 1099511627776 := fun i hi => good_of hb i (by omega)
    by_cases hn : ordL (bits f) 256 = []
    · rw [if_pos hn] at h; exact ⟨_, _, _, h, List.length_replicate, z16⟩
    · rw [if_neg hn] at h
      obtain ⟨Z, p1, p2, p3⟩ := h
      have hex : ∃ x, x < 256 ∧ 0 < g f x := Classical.byContradiction fun h0 => by
        have h0 := (shape hf hg).2.2 h0
        obtain ⟨y, hy⟩ := List.exists_mem_of_ne_nil _ hn
        obtain ⟨x, x1, x2, x3⟩ := ord_mem.1 hy
        rw [h0 x] at x2; omega
      exact ⟨_, _, _, p3, tabC_len f, (table_made hf hg hex p1).1⟩
theorem und23 : Try.prog.underlying 23 = some (.array 16 5) := by kernel_rfl
theorem und5 : Try.prog.underlying 5 = some (.int .u8) := by kernel_rfl
theorem cel23 : Try.prog.cellsOf 23 = 16 := by kernel_rfl
theorem cel5 : Try.prog.cellsOf 5 = 1 := by kernel_rfl
theorem u8_wf {n : Int} (h : 0 ≤ n ∧ n ≤ 255) : (Lit.int .u8 n).wf = true := by
  simp [Lit.wf, IntKind.min, IntKind.max, IntKind.signed, IntKind.bits]; omega

set_option maxHeartbeats 1000000 in
set_option maxRecDepth 10000 in
theorem BestTables_any (w : World) (f : List Int) (hf : f.length = 256) : Calls Try.prog 5 [.agg (ints .i64 f)].toArray w fun e w' => e = .returned (.bool true) ∧ Fr no w w' := by
  refine enter5 (by simp) ?_
  have e256 : f.take 256 = f := List.take_of_length_le (by omega)
  (repeat' first | (simp only [RA, MI, S.dst, Nat.reduceAdd, Nat.reduceMul, Nat.reduceEqDiff, ↓reduceIte, reduceCtorEq, ne_eq, Nat.reduceLT, Nat.reduceLeDiff, gt_iff_lt, ge_iff_le, Int.reduceToNat, Nat.reduceSub, c5, x5, ints_ext, ints_set, true_and, ints_size, z23, str_eql, str_neq, decide_true, not_true_eq_false, Int.reduceEq, beq_self_eq_true, World.size_alloc]) | ((with_reducible first | apply bound_of | apply wr_i64 | apply wr_u8 | apply wr_u64); (first | omega | (simp only [LN] at *; omega)); (first | omega | (simp only [LN] at *; omega))) | ((with_reducible apply ld_row); (focus ((repeat' first | (with_reducible first | assumption | apply Own.set | apply Own.new | apply Own.newD | apply Own.drew | apply Row.drew | apply Row.set | apply Row.new | apply Row.newD | apply Own.alloc | apply Row.alloc | apply Own.ne | apply Row.ne | apply Own.row) | (first | omega | (simp only [LN] at *; omega))); done))) | ((with_reducible apply ldN_row); (focus ((repeat' first | (with_reducible first | assumption | apply Own.set | apply Own.new | apply Own.newD | apply Own.drew | apply Row.drew | apply Row.set | apply Row.new | apply Row.newD | apply Own.alloc | apply Row.alloc | apply Own.ne | apply Row.ne | apply Own.row) | (first | omega | (simp only [LN] at *; omega))); done)); (first | omega | (simp only [LN] at *; omega))) | ((with_reducible apply st_row); (focus ((repeat' first | (with_reducible first | assumption | apply Own.set | apply Own.new | apply Own.newD | apply Own.drew | apply Row.drew | apply Row.set | apply Row.new | apply Row.newD | apply Own.alloc | apply Row.alloc | apply Own.ne | apply Row.ne | apply Own.row) | (first | omega | (simp only [LN] at *; omega))); done)); (first | omega | (simp only [LN] at *; omega)); rfl) | ((with_reducible first | apply ints_at | apply le_andI | apply le_andN | apply ne_andI); (first | omega | (simp only [LN] at *; omega))) | (with_reducible refine ite_of (fun _ => ?_) (fun _ => ?_)))
  obtain ⟨h3, hfr, hsz⟩ := box_in w f
  simp only [e256]
  generalize (w.alloc (Obj.cells (ints .i64 f) 22)) = w1 at *
  refine calls_mono (Table_any w1 f hf) ?_
  intro e w2 hT
  -- what Table answers has the form that is needed, whatever the document's is
  obtain ⟨c, s, n, he, hcl, hcw⟩ := tab_form hf hT
  subst he
  have hf2 := hT.1
  replace h3 := h3.fr hf2 (fun h => h)
  replace hfr := hfr.and hf2
  have e16 : c.take 16 = c := List.take_of_length_le (by omega)
  (repeat' first | (simp only [RA, MI, S.dst, Nat.reduceAdd, Nat.reduceMul, Nat.reduceEqDiff, ↓reduceIte, reduceCtorEq, ne_eq, Nat.reduceLT, Nat.reduceLeDiff, gt_iff_lt, ge_iff_le, Int.reduceToNat, Nat.reduceSub, c5, x5, ints_ext, ints_set, true_and, ints_size, z23, str_eql, str_neq, decide_true, not_true_eq_false, Int.reduceEq, beq_self_eq_true, World.size_alloc]) | ((with_reducible first | apply bound_of | apply wr_i64 | apply wr_u8 | apply wr_u64); (first | omega | (simp only [LN] at *; omega)); (first | omega | (simp only [LN] at *; omega))) | ((with_reducible apply ld_row); (focus ((repeat' first | (with_reducible first | assumption | apply Own.set | apply Own.new | apply Own.newD | apply Own.drew | apply Row.drew | apply Row.set | apply Row.new | apply Row.newD | apply Own.alloc | apply Row.alloc | apply Own.ne | apply Row.ne | apply Own.row) | (first | omega | (simp only [LN] at *; omega))); done))) | ((with_reducible apply ldN_row); (focus ((repeat' first | (with_reducible first | assumption | apply Own.set | apply Own.new | apply Own.newD | apply Own.drew | apply Row.drew | apply Row.set | apply Row.new | apply Row.newD | apply Own.alloc | apply Row.alloc | apply Own.ne | apply Row.ne | apply Own.row) | (first | omega | (simp only [LN] at *; omega))); done)); (first | omega | (simp only [LN] at *; omega))) | ((with_reducible apply st_row); (focus ((repeat' first | (with_reducible first | assumption | apply Own.set | apply Own.new | apply Own.newD | apply Own.drew | apply Row.drew | apply Row.set | apply Row.new | apply Row.newD | apply Own.alloc | apply Row.alloc | apply Own.ne | apply Row.ne | apply Own.row) | (first | omega | (simp only [LN] at *; omega))); done)); (first | omega | (simp only [LN] at *; omega)); rfl) | ((with_reducible first | apply ints_at | apply le_andI | apply le_andN | apply ne_andI); (first | omega | (simp only [LN] at *; omega))) | (with_reducible refine ite_of (fun _ => ?_) (fun _ => ?_)))
  refine ⟨hcl, stN_full (Own.new _ _ _) (by rw [hcl, List.length_replicate]) ?_⟩
  have h4 : Row ((w2.alloc (Obj.cells (ints .u8 (List.replicate 16 0)) 23)).setRow w2.heap.size (ints .u8 c)) w2.heap.size (ints .u8 c) := Row.set _ (Own.new _ _ _)
  replace h3 := (h3.alloc (Obj.cells (ints .u8 (List.replicate 16 0)) 23)).ne (ints .u8 c) (c := w2.heap.size) (by have := h3.lt; omega)
  replace hfr := (hfr.alloc (Obj.cells (ints .u8 (List.replicate 16 0)) 23)).setRow w2.heap.size (ints .u8 c) (fun h => by have := hfr.size; omega)
  generalize (w2.alloc (Obj.cells (ints .u8 (List.replicate 16 0)) 23)).setRow w2.heap.size (ints .u8 c) = w3 at *
  obtain ⟨b3, hb3⟩ : ∃ b, w2.heap.size = b := ⟨_, rfl⟩
  rw [hb3] at h4 ⊢
  (repeat' first | (simp only [RA, MI, S.dst, Nat.reduceAdd, Nat.reduceMul, Nat.reduceEqDiff, ↓reduceIte, reduceCtorEq, ne_eq, Nat.reduceLT, Nat.reduceLeDiff, gt_iff_lt, ge_iff_le, Int.reduceToNat, Nat.reduceSub, c5, x5, ints_ext, ints_set, true_and, ints_size, z23, str_eql, str_neq, decide_true, not_true_eq_false, Int.reduceEq, beq_self_eq_true, World.size_alloc]) | ((with_reducible first | apply bound_of | apply wr_i64 | apply wr_u8 | apply wr_u64); (first | omega | (simp only [LN] at *; omega)); (first | omega | (simp only [LN] at *; omega))) | ((with_reducible apply ld_row); (focus ((repeat' first | (with_reducible first | assumption | apply Own.set | apply Own.new | apply Own.newD | apply Own.drew | apply Row.drew | apply Row.set | apply Row.new | apply Row.newD | apply Own.alloc | apply Row.alloc | apply Own.ne | apply Row.ne | apply Own.row) | (first | omega | (simp only [LN] at *; omega))); done))) | ((with_reducible apply ldN_row); (focus ((repeat' first | (with_reducible first | assumption | apply Own.set | apply Own.new | apply Own.newD | apply Own.drew | apply Row.drew | apply Row.set | apply Row.new | apply Row.newD | apply Own.alloc | apply Row.alloc | apply Own.ne | apply Row.ne | apply Own.row) | (first | omega | (simp only [LN] at *; omega))); done)); (first | omega | (simp only [LN] at *; omega))) | ((with_reducible apply st_row); (focus ((repeat' first | (with_reducible first | assumption | apply Own.set | apply Own.new | apply Own.newD | apply Own.drew | apply Row.drew | apply Row.set | apply Row.new | apply Row.newD | apply Own.alloc | apply Row.alloc | apply Own.ne | apply Row.ne | apply Own.row) | (first | omega | (simp only [LN] at *; omega))); done)); (first | omega | (simp only [LN] at *; omega)); rfl) | ((with_reducible first | apply ints_at | apply le_andI | apply le_andN | apply ne_andI); (first | omega | (simp only [LN] at *; omega))) | (with_reducible refine ite_of (fun _ => ?_) (fun _ => ?_)))
  simp only [e256]
  refine calls_mono (RTable_any w3 f hf) ?_
  intro e w4 hR
  obtain ⟨_, hf4, c2, s2, n2, q1, q2, _, _⟩ := same_tab hf hT hR
  obtain rfl : e = .returned (.tuple #[.agg (ints .u8 c), .string s, .int .i64 n]) := q2.trans q1.symm
  replace h4 := h4.fr hf4 (fun h => h)
  replace hfr := hfr.and hf4
  clear hR q1 q2 hT hf4 h3
  (repeat' first | (simp only [RA, MI, S.dst, Nat.reduceAdd, Nat.reduceMul, Nat.reduceEqDiff, ↓reduceIte, reduceCtorEq, ne_eq, Nat.reduceLT, Nat.reduceLeDiff, gt_iff_lt, ge_iff_le, Int.reduceToNat, Nat.reduceSub, c5, x5, ints_ext, ints_set, true_and, ints_size, z23, str_eql, str_neq, decide_true, not_true_eq_false, Int.reduceEq, beq_self_eq_true, World.size_alloc]) | ((with_reducible first | apply bound_of | apply wr_i64 | apply wr_u8 | apply wr_u64); (first | omega | (simp only [LN] at *; omega)); (first | omega | (simp only [LN] at *; omega))) | ((with_reducible apply ld_row); (focus ((repeat' first | (with_reducible first | assumption | apply Own.set | apply Own.new | apply Own.newD | apply Own.drew | apply Row.drew | apply Row.set | apply Row.new | apply Row.newD | apply Own.alloc | apply Row.alloc | apply Own.ne | apply Row.ne | apply Own.row) | (first | omega | (simp only [LN] at *; omega))); done))) | ((with_reducible apply ldN_row); (focus ((repeat' first | (with_reducible first | assumption | apply Own.set | apply Own.new | apply Own.newD | apply Own.drew | apply Row.drew | apply Row.set | apply Row.new | apply Row.newD | apply Own.alloc | apply Row.alloc | apply Own.ne | apply Row.ne | apply Own.row) | (first | omega | (simp only [LN] at *; omega))); done)); (first | omega | (simp only [LN] at *; omega))) | ((with_reducible apply st_row); (focus ((repeat' first | (with_reducible first | assumption | apply Own.set | apply Own.new | apply Own.newD | apply Own.drew | apply Row.drew | apply Row.set | apply Row.new | apply Row.newD | apply Own.alloc | apply Row.alloc | apply Own.ne | apply Row.ne | apply Own.row) | (first | omega | (simp only [LN] at *; omega))); done)); (first | omega | (simp only [LN] at *; omega)); rfl) | ((with_reducible first | apply ints_at | apply le_andI | apply le_andN | apply ne_andI); (first | omega | (simp only [LN] at *; omega))) | (with_reducible refine ite_of (fun _ => ?_) (fun _ => ?_)))
  refine ⟨hcl, stN_full (Own.new _ _ _) (by rw [hcl, List.length_replicate]) ?_⟩
  have h6 : Row ((w4.alloc (Obj.cells (ints .u8 (List.replicate 16 0)) 23)).setRow w4.heap.size (ints .u8 c)) w4.heap.size (ints .u8 c) := Row.set _ (Own.new _ _ _)
  replace h4 := (h4.alloc (Obj.cells (ints .u8 (List.replicate 16 0)) 23)).ne (ints .u8 c) (c := w4.heap.size) (by have := h4.lt; omega)
  replace hfr := (hfr.alloc (Obj.cells (ints .u8 (List.replicate 16 0)) 23)).setRow w4.heap.size (ints .u8 c) (fun h => by have := hfr.size; omega)
  generalize (w4.alloc (Obj.cells (ints .u8 (List.replicate 16 0)) 23)).setRow w4.heap.size (ints .u8 c) = w5 at *
  obtain ⟨b6, hb6⟩ : ∃ b, w4.heap.size = b := ⟨_, rfl⟩
  rw [hb6] at h6 ⊢
  (repeat' first | (simp only [RA, MI, S.dst, Nat.reduceAdd, Nat.reduceMul, Nat.reduceEqDiff, ↓reduceIte, reduceCtorEq, ne_eq, Nat.reduceLT, Nat.reduceLeDiff, gt_iff_lt, ge_iff_le, Int.reduceToNat, Nat.reduceSub, c5, x5, ints_ext, ints_set, true_and, ints_size, z23, str_eql, str_neq, decide_true, not_true_eq_false, Int.reduceEq, beq_self_eq_true, World.size_alloc]) | ((with_reducible first | apply bound_of | apply wr_i64 | apply wr_u8 | apply wr_u64); (first | omega | (simp only [LN] at *; omega)); (first | omega | (simp only [LN] at *; omega))) | ((with_reducible apply ld_row); (focus ((repeat' first | (with_reducible first | assumption | apply Own.set | apply Own.new | apply Own.newD | apply Own.drew | apply Row.drew | apply Row.set | apply Row.new | apply Row.newD | apply Own.alloc | apply Row.alloc | apply Own.ne | apply Row.ne | apply Own.row) | (first | omega | (simp only [LN] at *; omega))); done))) | ((with_reducible apply ldN_row); (focus ((repeat' first | (with_reducible first | assumption | apply Own.set | apply Own.new | apply Own.newD | apply Own.drew | apply Row.drew | apply Row.set | apply Row.new | apply Row.newD | apply Own.alloc | apply Row.alloc | apply Own.ne | apply Row.ne | apply Own.row) | (first | omega | (simp only [LN] at *; omega))); done)); (first | omega | (simp only [LN] at *; omega))) | ((with_reducible apply st_row); (focus ((repeat' first | (with_reducible first | assumption | apply Own.set | apply Own.new | apply Own.newD | apply Own.drew | apply Row.drew | apply Row.set | apply Row.new | apply Row.newD | apply Own.alloc | apply Row.alloc | apply Own.ne | apply Row.ne | apply Own.row) | (first | omega | (simp only [LN] at *; omega))); done)); (first | omega | (simp only [LN] at *; omega)); rfl) | ((with_reducible first | apply ints_at | apply le_andI | apply le_andN | apply ne_andI); (first | omega | (simp only [LN] at *; omega))) | (with_reducible refine ite_of (fun _ => ?_) (fun _ => ?_)))
  refine calls_mono (awake_any w5) ?_
  rintro _ w6 ⟨rfl, hf6⟩
  replace h4 := h4.fr hf6 (fun h => h)
  replace h6 := h6.fr hf6 (fun h => h)
  replace hfr := hfr.and hf6
  (repeat' first | (simp only [RA, MI, S.dst, Nat.reduceAdd, Nat.reduceMul, Nat.reduceEqDiff, ↓reduceIte, reduceCtorEq, ne_eq, Nat.reduceLT, Nat.reduceLeDiff, gt_iff_lt, ge_iff_le, Int.reduceToNat, Nat.reduceSub, c5, x5, ints_ext, ints_set, true_and, ints_size, z23, str_eql, str_neq, decide_true, not_true_eq_false, Int.reduceEq, beq_self_eq_true, World.size_alloc]) | ((with_reducible first | apply bound_of | apply wr_i64 | apply wr_u8 | apply wr_u64); (first | omega | (simp only [LN] at *; omega)); (first | omega | (simp only [LN] at *; omega))) | ((with_reducible apply ld_row); (focus ((repeat' first | (with_reducible first | assumption | apply Own.set | apply Own.new | apply Own.newD | apply Own.drew | apply Row.drew | apply Row.set | apply Row.new | apply Row.newD | apply Own.alloc | apply Row.alloc | apply Own.ne | apply Row.ne | apply Own.row) | (first | omega | (simp only [LN] at *; omega))); done))) | ((with_reducible apply ldN_row); (focus ((repeat' first | (with_reducible first | assumption | apply Own.set | apply Own.new | apply Own.newD | apply Own.drew | apply Row.drew | apply Row.set | apply Row.new | apply Row.newD | apply Own.alloc | apply Row.alloc | apply Own.ne | apply Row.ne | apply Own.row) | (first | omega | (simp only [LN] at *; omega))); done)); (first | omega | (simp only [LN] at *; omega))) | ((with_reducible apply st_row); (focus ((repeat' first | (with_reducible first | assumption | apply Own.set | apply Own.new | apply Own.newD | apply Own.drew | apply Row.drew | apply Row.set | apply Row.new | apply Row.newD | apply Own.alloc | apply Row.alloc | apply Own.ne | apply Row.ne | apply Own.row) | (first | omega | (simp only [LN] at *; omega))); done)); (first | omega | (simp only [LN] at *; omega)); rfl) | ((with_reducible first | apply ints_at | apply le_andI | apply le_andN | apply ne_andI); (first | omega | (simp only [LN] at *; omega))) | (with_reducible refine ite_of (fun _ => ?_) (fun _ => ?_)))
  simp only [e16]
  refine aeq_ints und23 und5 cel23 cel5 hcl hcl (fun i _ => u8_wf (hcw i)) (fun i _ => u8_wf (hcw i)) ?_
  (repeat' first | (simp only [RA, MI, S.dst, Nat.reduceAdd, Nat.reduceMul, Nat.reduceEqDiff, ↓reduceIte, reduceCtorEq, ne_eq, Nat.reduceLT, Nat.reduceLeDiff, gt_iff_lt, ge_iff_le, Int.reduceToNat, Nat.reduceSub, c5, x5, ints_ext, ints_set, true_and, ints_size, z23, str_eql, str_neq, decide_true, not_true_eq_false, Int.reduceEq, beq_self_eq_true, World.size_alloc]) | ((with_reducible first | apply bound_of | apply wr_i64 | apply wr_u8 | apply wr_u64); (first | omega | (simp only [LN] at *; omega)); (first | omega | (simp only [LN] at *; omega))) | ((with_reducible apply ld_row); (focus ((repeat' first | (with_reducible first | assumption | apply Own.set | apply Own.new | apply Own.newD | apply Own.drew | apply Row.drew | apply Row.set | apply Row.new | apply Row.newD | apply Own.alloc | apply Row.alloc | apply Own.ne | apply Row.ne | apply Own.row) | (first | omega | (simp only [LN] at *; omega))); done))) | ((with_reducible apply ldN_row); (focus ((repeat' first | (with_reducible first | assumption | apply Own.set | apply Own.new | apply Own.newD | apply Own.drew | apply Row.drew | apply Row.set | apply Row.new | apply Row.newD | apply Own.alloc | apply Row.alloc | apply Own.ne | apply Row.ne | apply Own.row) | (first | omega | (simp only [LN] at *; omega))); done)); (first | omega | (simp only [LN] at *; omega))) | ((with_reducible apply st_row); (focus ((repeat' first | (with_reducible first | assumption | apply Own.set | apply Own.new | apply Own.newD | apply Own.drew | apply Row.drew | apply Row.set | apply Row.new | apply Row.newD | apply Own.alloc | apply Row.alloc | apply Own.ne | apply Row.ne | apply Own.row) | (first | omega | (simp only [LN] at *; omega))); done)); (first | omega | (simp only [LN] at *; omega)); rfl) | ((with_reducible first | apply ints_at | apply le_andI | apply le_andN | apply ne_andI); (first | omega | (simp only [LN] at *; omega))) | (with_reducible refine ite_of (fun _ => ?_) (fun _ => ?_)))
  exact hfr
end Go.Proofs.Ytomckpllbihikaa
