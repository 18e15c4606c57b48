/-
  BestRight, walked.
-/
import Derived.Test.YtomckpllbihikaaL9
set_option autoImplicit false
set_option linter.unusedSimpArgs false
set_option linter.unusedVariables false
namespace Go.Proofs.Ytomckpllbihikaa
open X

theorem box_in (w : World) (f : List Int) : Row (w.alloc (Obj.cells (ints .i64 f) 22)) w.heap.size (ints .i64 f) ∧ Fr no w (w.alloc (Obj.cells (ints .i64 f) 22)) ∧ w.heap.size < (w.alloc (Obj.cells (ints .i64 f) 22)).heap.size :=
  ⟨Row.new _ _ _, (Fr.refl _ _).alloc _, by simp⟩
theorem empty_eq : (ByteArray.toList ⟨#[]⟩ == ByteArray.toList ⟨#[]⟩) = true := beq_self_eq_true _
/-- What Table answers of numbers that may not be, or are all 0. -/
theorem table_wrong {w w' : World} {f : List Int} {e : Ending} (hf : f.length = 256) (hr : lawRight f = false) (h : TabPost w f e w') : Fr no w w' ∧ ∃ n : Int, (n = 1 ∨ n = 5) ∧ e = .returned (.tuple #[no16, .string ⟨#[]⟩, .int .i64 n]) := by
  obtain ⟨h1, h⟩ := h
  refine ⟨h1, ?_⟩
  cases hb : badIn f with
  | true => rw [hb, if_pos rfl] at h; exact ⟨1, .inl rfl, h⟩
  | false =>
    rw [hb, if_neg (by decide)] at h
    have hno : ¬ ∃ x, x < 256 ∧ 0 < g f x := fun hx => by
      have := (anyB_iff f 256).2 hx
      simp [lawRight, hb, this] at hr
    have h0 := (shape hf fun i hi => good_of hb i (by omega)).2.2 hno
    have hnil : ordL (bits f) 256 = [] := List.eq_nil_iff_forall_not_mem.2 fun x hx => by
      obtain ⟨y, _, y2, _⟩ := ord_mem.1 hx
      rw [h0 y] at y2; omega
    rw [if_pos hnil] at h
    exact ⟨5, .inr rfl, h⟩
/-- What Table answers of right numbers. -/
theorem table_right {w w' : World} {f : List Int} {e : Ending} (hf : f.length = 256) (hr : lawRight f = true) (h : TabPost w f e w') : Fr no w w' ∧ (∀ i, i < 256 → 0 ≤ g f i ∧ g f i ≤ 1099511627776) ∧ (∃ x, x < 256 ∧ 0 < g f x) ∧
    ∃ Z : List Int, Z.Perm (ordL (bits f) 256) ∧ Rise (key f) Z 0 Z.length ∧ e = .returned (.tuple #[.agg (ints .u8 (tabC f)), .string (bytesOf Z), .int .i64 0]) := by
  obtain ⟨h1, h⟩ := h
  simp only [lawRight, Bool.and_eq_true, Bool.not_eq_true'] at hr
  obtain ⟨hb, ha⟩ := hr
  have hg : ∀ i, i < 256 → 0 ≤ g f i ∧ g f i ≤ 1099511627776 := fun i hi => good_of hb i (by omega)
  have hex := (anyB_iff f 256).1 ha
  rw [hb, if_neg (by decide)] at h
  have hne : ordL (bits f) 256 ≠ [] := fun e => by
    obtain ⟨x, x1, x2⟩ := hex
    have : (x : Int) ∈ ordL (bits f) 256 := ord_mem.2 ⟨x, x1, (((shape hf hg).2.1 ⟨x, x1, x2⟩).2 x (by omega)).2 (.inr x2), rfl⟩
    rw [e] at this; cases this
  rw [if_neg hne] at h
  exact ⟨h1, hg, hex, h⟩
/-- Which symbols a table of Table's has codes for. -/
theorem table_codes {f Z M : List Int} {L : List (Nat × Nat × Nat)} (hf : f.length = 256) (hg : ∀ i, i < 256 → 0 ≤ g f i ∧ g f i ≤ 1099511627776) (hex : ∃ x, x < 256 ∧ 0 < g f x) (hp : Z.Perm (ordL (bits f) 256)) (hI : CInv M L) (hL : L.map (fun t => (t.1 : Int)) = Z) (i : Nat) (hi : i < 256) :
    0 < g M (2 * i + 1) ↔ 0 < g f i := by
  rw [(hI.bound i hi).2.2]
  have e1 : L.map (fun t => (t.1 : Int)) = (L.map (·.1)).map Int.ofNat := by rw [List.map_map]; rfl
  have h1 : i ∈ L.map (·.1) ↔ (i : Int) ∈ Z := by
    have e2 : ((i : Int) ∈ (L.map (·.1)).map Int.ofNat) ↔ ∃ j, j ∈ L.map (·.1) ∧ Int.ofNat j = i := List.mem_map
    rw [← hL, e1, e2]
    constructor
    · intro h; exact ⟨i, h, rfl⟩
    · rintro ⟨j, h, e⟩
      have : j = i := Int.ofNat.inj e
      rw [← this]; exact h
  rw [h1, hp.mem_iff, ord_mem]
  have hc := ((shape hf hg).2.1 hex).2 i (by omega)
  constructor
  · rintro ⟨y, y1, y2, y3⟩
    obtain rfl : y = i := by omega
    rcases hc.1 y2 with h | h
    · omega
    · exact h
  · intro h; exact ⟨i, hi, hc.2 (.inr h), rfl⟩

set_option maxHeartbeats 1000000 in
set_option maxRecDepth 10000 in
theorem BestRight_any (w : World) (f : List Int) (hf : f.length = 256) : Calls Try.prog 3 [.agg (ints .i64 f)].toArray w fun e w' => e = .returned (.bool true) ∧ Fr no w w' := by
  refine enter3 (by simp) ?_
  have e256 : f.take 256 = f := List.take_of_length_le (by omega)
  (repeat' first | (simp only [RA, MI, S.dst, Nat.reduceAdd, Nat.reduceMul, Nat.reduceEqDiff, ↓reduceIte, reduceCtorEq, ne_eq, Nat.reduceLT, Nat.reduceLeDiff, gt_iff_lt, ge_iff_le, Int.reduceToNat, Nat.reduceSub, c3, x3, ints_ext, ints_set, true_and, ints_size, z23, str_eql, str_neq, decide_true, not_true_eq_false, Int.reduceEq, empty_eq, World.size_alloc]) | ((with_reducible first | apply bound_of | apply wr_i64 | apply wr_u8 | apply wr_u64); (first | omega | (simp only [LN] at *; omega)); (first | omega | (simp only [LN] at *; omega))) | ((with_reducible apply ld_row); (focus ((repeat' first | (with_reducible first | assumption | apply Own.set | apply Own.new | apply Own.newD | apply Own.drew | apply Row.drew | apply Row.set | apply Row.new | apply Row.newD | apply Own.alloc | apply Row.alloc | apply Own.ne | apply Row.ne | apply Own.row) | (first | omega | (simp only [LN] at *; omega))); done))) | ((with_reducible apply ldN_row); (focus ((repeat' first | (with_reducible first | assumption | apply Own.set | apply Own.new | apply Own.newD | apply Own.drew | apply Row.drew | apply Row.set | apply Row.new | apply Row.newD | apply Own.alloc | apply Row.alloc | apply Own.ne | apply Row.ne | apply Own.row) | (first | omega | (simp only [LN] at *; omega))); done)); (first | omega | (simp only [LN] at *; omega))) | ((with_reducible apply st_row); (focus ((repeat' first | (with_reducible first | assumption | apply Own.set | apply Own.new | apply Own.newD | apply Own.drew | apply Row.drew | apply Row.set | apply Row.new | apply Row.newD | apply Own.alloc | apply Row.alloc | apply Own.ne | apply Row.ne | apply Own.row) | (first | omega | (simp only [LN] at *; omega))); done)); (first | omega | (simp only [LN] at *; omega)); rfl) | ((with_reducible first | apply ints_at | apply le_andI | apply le_andN | apply ne_andI); (first | omega | (simp only [LN] at *; omega))) | (with_reducible refine ite_of (fun _ => ?_) (fun _ => ?_)))
  obtain ⟨h3, hfr, hsz⟩ := box_in w f
  simp only [e256]
  generalize (w.alloc (Obj.cells (ints .i64 f) 22)) = w1 at *
  refine calls_mono (Table_any w1 f hf) ?_
  intro e w2 hT
  obtain ⟨r, hr⟩ : ∃ r, lawRight f = r := ⟨_, rfl⟩
  cases r with
  | false =>
    obtain ⟨hf2, n, hn, rfl⟩ := table_wrong hf hr hT
    replace h3 := h3.fr hf2 (fun h => h)
    replace hfr := hfr.and hf2
    clear hf2 hT
    unfold no16
    (repeat' first | (simp only [RA, MI, S.dst, Nat.reduceAdd, Nat.reduceMul, Nat.reduceEqDiff, ↓reduceIte, reduceCtorEq, ne_eq, Nat.reduceLT, Nat.reduceLeDiff, gt_iff_lt, ge_iff_le, Int.reduceToNat, Nat.reduceSub, c3, x3, ints_ext, ints_set, true_and, ints_size, z23, str_eql, str_neq, decide_true, not_true_eq_false, Int.reduceEq, empty_eq, World.size_alloc]) | ((with_reducible first | apply bound_of | apply wr_i64 | apply wr_u8 | apply wr_u64); (first | omega | (simp only [LN] at *; omega)); (first | omega | (simp only [LN] at *; omega))) | ((with_reducible apply ld_row); (focus ((repeat' first | (with_reducible first | assumption | apply Own.set | apply Own.new | apply Own.newD | apply Own.drew | apply Row.drew | apply Row.set | apply Row.new | apply Row.newD | apply Own.alloc | apply Row.alloc | apply Own.ne | apply Row.ne | apply Own.row) | (first | omega | (simp only [LN] at *; omega))); done))) | ((with_reducible apply ldN_row); (focus ((repeat' first | (with_reducible first | assumption | apply Own.set | apply Own.new | apply Own.newD | apply Own.drew | apply Row.drew | apply Row.set | apply Row.new | apply Row.newD | apply Own.alloc | apply Row.alloc | apply Own.ne | apply Row.ne | apply Own.row) | (first | omega | (simp only [LN] at *; omega))); done)); (first | omega | (simp only [LN] at *; omega))) | ((with_reducible apply st_row); (focus ((repeat' first | (with_reducible first | assumption | apply Own.set | apply Own.new | apply Own.newD | apply Own.drew | apply Row.drew | apply Row.set | apply Row.new | apply Row.newD | apply Own.alloc | apply Row.alloc | apply Own.ne | apply Row.ne | apply Own.row) | (first | omega | (simp only [LN] at *; omega))); done)); (first | omega | (simp only [LN] at *; omega)); rfl) | ((with_reducible first | apply ints_at | apply le_andI | apply le_andN | apply ne_andI); (first | omega | (simp only [LN] at *; omega))) | (with_reducible refine ite_of (fun _ => ?_) (fun _ => ?_)))
    refine ⟨by simp, stN_full (Own.new _ _ _) (by simp) ?_⟩
    replace h3 := (h3.alloc (Obj.cells (ints .u8 (List.replicate 16 0)) 23)).ne (ints .u8 (List.replicate 16 0)) (c := w2.heap.size) (by have := h3.lt; omega)
    replace hfr := (hfr.alloc (Obj.cells (ints .u8 (List.replicate 16 0)) 23)).setRow w2.heap.size (ints .u8 (List.replicate 16 0)) (fun h => by have := hfr.size; omega)
    generalize (w2.alloc (Obj.cells (ints .u8 (List.replicate 16 0)) 23)).setRow w2.heap.size (ints .u8 (List.replicate 16 0)) = w3 at *
    (repeat' first | (simp only [RA, MI, S.dst, Nat.reduceAdd, Nat.reduceMul, Nat.reduceEqDiff, ↓reduceIte, reduceCtorEq, ne_eq, Nat.reduceLT, Nat.reduceLeDiff, gt_iff_lt, ge_iff_le, Int.reduceToNat, Nat.reduceSub, c3, x3, ints_ext, ints_set, true_and, ints_size, z23, str_eql, str_neq, decide_true, not_true_eq_false, Int.reduceEq, empty_eq, World.size_alloc]) | ((with_reducible first | apply bound_of | apply wr_i64 | apply wr_u8 | apply wr_u64); (first | omega | (simp only [LN] at *; omega)); (first | omega | (simp only [LN] at *; omega))) | ((with_reducible apply ld_row); (focus ((repeat' first | (with_reducible first | assumption | apply Own.set | apply Own.new | apply Own.newD | apply Own.drew | apply Row.drew | apply Row.set | apply Row.new | apply Row.newD | apply Own.alloc | apply Row.alloc | apply Own.ne | apply Row.ne | apply Own.row) | (first | omega | (simp only [LN] at *; omega))); done))) | ((with_reducible apply ldN_row); (focus ((repeat' first | (with_reducible first | assumption | apply Own.set | apply Own.new | apply Own.newD | apply Own.drew | apply Row.drew | apply Row.set | apply Row.new | apply Row.newD | apply Own.alloc | apply Row.alloc | apply Own.ne | apply Row.ne | apply Own.row) | (first | omega | (simp only [LN] at *; omega))); done)); (first | omega | (simp only [LN] at *; omega))) | ((with_reducible apply st_row); (focus ((repeat' first | (with_reducible first | assumption | apply Own.set | apply Own.new | apply Own.newD | apply Own.drew | apply Row.drew | apply Row.set | apply Row.new | apply Row.newD | apply Own.alloc | apply Row.alloc | apply Own.ne | apply Row.ne | apply Own.row) | (first | omega | (simp only [LN] at *; omega))); done)); (first | omega | (simp only [LN] at *; omega)); rfl) | ((with_reducible first | apply ints_at | apply le_andI | apply le_andN | apply ne_andI); (first | omega | (simp only [LN] at *; omega))) | (with_reducible refine ite_of (fun _ => ?_) (fun _ => ?_)))
    simp only [e256]
    refine calls_mono (lawRight_any w3 f hf false hr) ?_
    rintro _ w4 ⟨rfl, hf4⟩
    replace hfr := hfr.and hf4
    (repeat' first | (simp only [RA, MI, S.dst, Nat.reduceAdd, Nat.reduceMul, Nat.reduceEqDiff, ↓reduceIte, reduceCtorEq, ne_eq, Nat.reduceLT, Nat.reduceLeDiff, gt_iff_lt, ge_iff_le, Int.reduceToNat, Nat.reduceSub, c3, x3, ints_ext, ints_set, true_and, ints_size, z23, str_eql, str_neq, decide_true, not_true_eq_false, Int.reduceEq, empty_eq, World.size_alloc]) | ((with_reducible first | apply bound_of | apply wr_i64 | apply wr_u8 | apply wr_u64); (first | omega | (simp only [LN] at *; omega)); (first | omega | (simp only [LN] at *; omega))) | ((with_reducible apply ld_row); (focus ((repeat' first | (with_reducible first | assumption | apply Own.set | apply Own.new | apply Own.newD | apply Own.drew | apply Row.drew | apply Row.set | apply Row.new | apply Row.newD | apply Own.alloc | apply Row.alloc | apply Own.ne | apply Row.ne | apply Own.row) | (first | omega | (simp only [LN] at *; omega))); done))) | ((with_reducible apply ldN_row); (focus ((repeat' first | (with_reducible first | assumption | apply Own.set | apply Own.new | apply Own.newD | apply Own.drew | apply Row.drew | apply Row.set | apply Row.new | apply Row.newD | apply Own.alloc | apply Row.alloc | apply Own.ne | apply Row.ne | apply Own.row) | (first | omega | (simp only [LN] at *; omega))); done)); (first | omega | (simp only [LN] at *; omega))) | ((with_reducible apply st_row); (focus ((repeat' first | (with_reducible first | assumption | apply Own.set | apply Own.new | apply Own.newD | apply Own.drew | apply Row.drew | apply Row.set | apply Row.new | apply Row.newD | apply Own.alloc | apply Row.alloc | apply Own.ne | apply Row.ne | apply Own.row) | (first | omega | (simp only [LN] at *; omega))); done)); (first | omega | (simp only [LN] at *; omega)); rfl) | ((with_reducible first | apply ints_at | apply le_andI | apply le_andN | apply ne_andI); (first | omega | (simp only [LN] at *; omega))) | (with_reducible refine ite_of (fun _ => ?_) (fun _ => ?_)))
    refine calls_mono (awake_any w4) ?_
    rintro _ w5 ⟨rfl, hf5⟩
    (repeat' first | (simp only [RA, MI, S.dst, Nat.reduceAdd, Nat.reduceMul, Nat.reduceEqDiff, ↓reduceIte, reduceCtorEq, ne_eq, Nat.reduceLT, Nat.reduceLeDiff, gt_iff_lt, ge_iff_le, Int.reduceToNat, Nat.reduceSub, c3, x3, ints_ext, ints_set, true_and, ints_size, z23, str_eql, str_neq, decide_true, not_true_eq_false, Int.reduceEq, empty_eq, World.size_alloc]) | ((with_reducible first | apply bound_of | apply wr_i64 | apply wr_u8 | apply wr_u64); (first | omega | (simp only [LN] at *; omega)); (first | omega | (simp only [LN] at *; omega))) | ((with_reducible apply ld_row); (focus ((repeat' first | (with_reducible first | assumption | apply Own.set | apply Own.new | apply Own.newD | apply Own.drew | apply Row.drew | apply Row.set | apply Row.new | apply Row.newD | apply Own.alloc | apply Row.alloc | apply Own.ne | apply Row.ne | apply Own.row) | (first | omega | (simp only [LN] at *; omega))); done))) | ((with_reducible apply ldN_row); (focus ((repeat' first | (with_reducible first | assumption | apply Own.set | apply Own.new | apply Own.newD | apply Own.drew | apply Row.drew | apply Row.set | apply Row.new | apply Row.newD | apply Own.alloc | apply Row.alloc | apply Own.ne | apply Row.ne | apply Own.row) | (first | omega | (simp only [LN] at *; omega))); done)); (first | omega | (simp only [LN] at *; omega))) | ((with_reducible apply st_row); (focus ((repeat' first | (with_reducible first | assumption | apply Own.set | apply Own.new | apply Own.newD | apply Own.drew | apply Row.drew | apply Row.set | apply Row.new | apply Row.newD | apply Own.alloc | apply Row.alloc | apply Own.ne | apply Row.ne | apply Own.row) | (first | omega | (simp only [LN] at *; omega))); done)); (first | omega | (simp only [LN] at *; omega)); rfl) | ((with_reducible first | apply ints_at | apply le_andI | apply le_andN | apply ne_andI); (first | omega | (simp only [LN] at *; omega))) | (with_reducible refine ite_of (fun _ => ?_) (fun _ => ?_)))
    all_goals first
      | exact hfr.and hf5
      | (refine ⟨?_, hfr.and hf5⟩; rw [show n = 5 by omega]; rfl)
  | true =>
    obtain ⟨hf2, hg, hex, Z, hp, hri, rfl⟩ := table_right hf hr hT
    obtain ⟨hc, M, L, hM, hI, hMl, hL, _⟩ := table_made hf hg hex hp
    have hcl := tabC_len f
    have hco := table_codes hf hg hex hp hI hL
    have hsz2 : (bytesOf Z).size < 4000000000000000000 := by
      have := hp.length_eq; have := ord_len (bits f) 256; rw [bytes_size]; omega
    obtain ⟨c, hcc⟩ : ∃ c, tabC f = c := ⟨_, rfl⟩
    obtain ⟨s, hss⟩ : ∃ s, bytesOf Z = s := ⟨_, rfl⟩
    rw [hcc] at hc hM hcl
    rw [hss] at hM hsz2
    rw [hcc, hss]
    replace h3 := h3.fr hf2 (fun h => h)
    replace hfr := hfr.and hf2
    clear hf2 hT
    (repeat' first | (simp only [RA, MI, S.dst, Nat.reduceAdd, Nat.reduceMul, Nat.reduceEqDiff, ↓reduceIte, reduceCtorEq, ne_eq, Nat.reduceLT, Nat.reduceLeDiff, gt_iff_lt, ge_iff_le, Int.reduceToNat, Nat.reduceSub, c3, x3, ints_ext, ints_set, true_and, ints_size, z23, str_eql, str_neq, decide_true, not_true_eq_false, Int.reduceEq, empty_eq, World.size_alloc]) | ((with_reducible first | apply bound_of | apply wr_i64 | apply wr_u8 | apply wr_u64); (first | omega | (simp only [LN] at *; omega)); (first | omega | (simp only [LN] at *; omega))) | ((with_reducible apply ld_row); (focus ((repeat' first | (with_reducible first | assumption | apply Own.set | apply Own.new | apply Own.newD | apply Own.drew | apply Row.drew | apply Row.set | apply Row.new | apply Row.newD | apply Own.alloc | apply Row.alloc | apply Own.ne | apply Row.ne | apply Own.row) | (first | omega | (simp only [LN] at *; omega))); done))) | ((with_reducible apply ldN_row); (focus ((repeat' first | (with_reducible first | assumption | apply Own.set | apply Own.new | apply Own.newD | apply Own.drew | apply Row.drew | apply Row.set | apply Row.new | apply Row.newD | apply Own.alloc | apply Row.alloc | apply Own.ne | apply Row.ne | apply Own.row) | (first | omega | (simp only [LN] at *; omega))); done)); (first | omega | (simp only [LN] at *; omega))) | ((with_reducible apply st_row); (focus ((repeat' first | (with_reducible first | assumption | apply Own.set | apply Own.new | apply Own.newD | apply Own.drew | apply Row.drew | apply Row.set | apply Row.new | apply Row.newD | apply Own.alloc | apply Row.alloc | apply Own.ne | apply Row.ne | apply Own.row) | (first | omega | (simp only [LN] at *; omega))); done)); (first | omega | (simp only [LN] at *; omega)); rfl) | ((with_reducible first | apply ints_at | apply le_andI | apply le_andN | apply ne_andI); (first | omega | (simp only [LN] at *; omega))) | (with_reducible refine ite_of (fun _ => ?_) (fun _ => ?_)))
    refine ⟨hcl, stN_full (Own.new _ _ _) (by rw [hcl, List.length_replicate]) ?_⟩
    have h4 : Row ((w2.alloc (Obj.cells (ints .u8 (List.replicate 16 0)) 23)).setRow w2.heap.size (ints .u8 c)) w2.heap.size (ints .u8 c) := Row.set _ (Own.new _ _ _)
    replace h3 := (h3.alloc (Obj.cells (ints .u8 (List.replicate 16 0)) 23)).ne (ints .u8 c) (c := w2.heap.size) (by have := h3.lt; omega)
    replace hfr := (hfr.alloc (Obj.cells (ints .u8 (List.replicate 16 0)) 23)).setRow w2.heap.size (ints .u8 c) (fun h => by have := hfr.size; omega)
    generalize (w2.alloc (Obj.cells (ints .u8 (List.replicate 16 0)) 23)).setRow w2.heap.size (ints .u8 c) = w3 at *
    (repeat' first | (simp only [RA, MI, S.dst, Nat.reduceAdd, Nat.reduceMul, Nat.reduceEqDiff, ↓reduceIte, reduceCtorEq, ne_eq, Nat.reduceLT, Nat.reduceLeDiff, gt_iff_lt, ge_iff_le, Int.reduceToNat, Nat.reduceSub, c3, x3, ints_ext, ints_set, true_and, ints_size, z23, str_eql, str_neq, decide_true, not_true_eq_false, Int.reduceEq, empty_eq, World.size_alloc]) | ((with_reducible first | apply bound_of | apply wr_i64 | apply wr_u8 | apply wr_u64); (first | omega | (simp only [LN] at *; omega)); (first | omega | (simp only [LN] at *; omega))) | ((with_reducible apply ld_row); (focus ((repeat' first | (with_reducible first | assumption | apply Own.set | apply Own.new | apply Own.newD | apply Own.drew | apply Row.drew | apply Row.set | apply Row.new | apply Row.newD | apply Own.alloc | apply Row.alloc | apply Own.ne | apply Row.ne | apply Own.row) | (first | omega | (simp only [LN] at *; omega))); done))) | ((with_reducible apply ldN_row); (focus ((repeat' first | (with_reducible first | assumption | apply Own.set | apply Own.new | apply Own.newD | apply Own.drew | apply Row.drew | apply Row.set | apply Row.new | apply Row.newD | apply Own.alloc | apply Row.alloc | apply Own.ne | apply Row.ne | apply Own.row) | (first | omega | (simp only [LN] at *; omega))); done)); (first | omega | (simp only [LN] at *; omega))) | ((with_reducible apply st_row); (focus ((repeat' first | (with_reducible first | assumption | apply Own.set | apply Own.new | apply Own.newD | apply Own.drew | apply Row.drew | apply Row.set | apply Row.new | apply Row.newD | apply Own.alloc | apply Row.alloc | apply Own.ne | apply Row.ne | apply Own.row) | (first | omega | (simp only [LN] at *; omega))); done)); (first | omega | (simp only [LN] at *; omega)); rfl) | ((with_reducible first | apply ints_at | apply le_andI | apply le_andN | apply ne_andI); (first | omega | (simp only [LN] at *; omega))) | (with_reducible refine ite_of (fun _ => ?_) (fun _ => ?_)))
    simp only [e256]
    refine calls_mono (lawRight_any w3 f hf true hr) ?_
    rintro _ w4 ⟨rfl, hf4⟩
    replace hfr := hfr.and hf4
    replace h3 := h3.fr hf4 (fun h => h)
    replace h4 := h4.fr hf4 (fun h => h)
    clear hf4
    have e16 : c.take 16 = c := List.take_of_length_le (by omega)
    (repeat' first | (simp only [RA, MI, S.dst, Nat.reduceAdd, Nat.reduceMul, Nat.reduceEqDiff, ↓reduceIte, reduceCtorEq, ne_eq, Nat.reduceLT, Nat.reduceLeDiff, gt_iff_lt, ge_iff_le, Int.reduceToNat, Nat.reduceSub, c3, x3, ints_ext, ints_set, true_and, ints_size, z23, str_eql, str_neq, decide_true, not_true_eq_false, Int.reduceEq, empty_eq, World.size_alloc]) | ((with_reducible first | apply bound_of | apply wr_i64 | apply wr_u8 | apply wr_u64); (first | omega | (simp only [LN] at *; omega)); (first | omega | (simp only [LN] at *; omega))) | ((with_reducible apply ld_row); (focus ((repeat' first | (with_reducible first | assumption | apply Own.set | apply Own.new | apply Own.newD | apply Own.drew | apply Row.drew | apply Row.set | apply Row.new | apply Row.newD | apply Own.alloc | apply Row.alloc | apply Own.ne | apply Row.ne | apply Own.row) | (first | omega | (simp only [LN] at *; omega))); done))) | ((with_reducible apply ldN_row); (focus ((repeat' first | (with_reducible first | assumption | apply Own.set | apply Own.new | apply Own.newD | apply Own.drew | apply Row.drew | apply Row.set | apply Row.new | apply Row.newD | apply Own.alloc | apply Row.alloc | apply Own.ne | apply Row.ne | apply Own.row) | (first | omega | (simp only [LN] at *; omega))); done)); (first | omega | (simp only [LN] at *; omega))) | ((with_reducible apply st_row); (focus ((repeat' first | (with_reducible first | assumption | apply Own.set | apply Own.new | apply Own.newD | apply Own.drew | apply Row.drew | apply Row.set | apply Row.new | apply Row.newD | apply Own.alloc | apply Row.alloc | apply Own.ne | apply Row.ne | apply Own.row) | (first | omega | (simp only [LN] at *; omega))); done)); (first | omega | (simp only [LN] at *; omega)); rfl) | ((with_reducible first | apply ints_at | apply le_andI | apply le_andN | apply ne_andI); (first | omega | (simp only [LN] at *; omega))) | (with_reducible refine ite_of (fun _ => ?_) (fun _ => ?_)))
    simp only [e16]
    refine calls_mono (New_any w4 c s hcl hc hsz2 _ hM) ?_
    rintro _ w5 ⟨b, hb, rfl, _, hrow, hf5⟩
    replace hfr := hfr.and hf5
    replace h3 := h3.fr hf5 (fun h => h)
    clear hf5 h4
    (repeat' first | (simp only [RA, MI, S.dst, Nat.reduceAdd, Nat.reduceMul, Nat.reduceEqDiff, ↓reduceIte, reduceCtorEq, ne_eq, Nat.reduceLT, Nat.reduceLeDiff, gt_iff_lt, ge_iff_le, Int.reduceToNat, Nat.reduceSub, c3, x3, ints_ext, ints_set, true_and, ints_size, z23, str_eql, str_neq, decide_true, not_true_eq_false, Int.reduceEq, empty_eq, World.size_alloc]) | ((with_reducible first | apply bound_of | apply wr_i64 | apply wr_u8 | apply wr_u64); (first | omega | (simp only [LN] at *; omega)); (first | omega | (simp only [LN] at *; omega))) | ((with_reducible apply ld_row); (focus ((repeat' first | (with_reducible first | assumption | apply Own.set | apply Own.new | apply Own.newD | apply Own.drew | apply Row.drew | apply Row.set | apply Row.new | apply Row.newD | apply Own.alloc | apply Row.alloc | apply Own.ne | apply Row.ne | apply Own.row) | (first | omega | (simp only [LN] at *; omega))); done))) | ((with_reducible apply ldN_row); (focus ((repeat' first | (with_reducible first | assumption | apply Own.set | apply Own.new | apply Own.newD | apply Own.drew | apply Row.drew | apply Row.set | apply Row.new | apply Row.newD | apply Own.alloc | apply Row.alloc | apply Own.ne | apply Row.ne | apply Own.row) | (first | omega | (simp only [LN] at *; omega))); done)); (first | omega | (simp only [LN] at *; omega))) | ((with_reducible apply st_row); (focus ((repeat' first | (with_reducible first | assumption | apply Own.set | apply Own.new | apply Own.newD | apply Own.drew | apply Row.drew | apply Row.set | apply Row.new | apply Row.newD | apply Own.alloc | apply Row.alloc | apply Own.ne | apply Row.ne | apply Own.row) | (first | omega | (simp only [LN] at *; omega))); done)); (first | omega | (simp only [LN] at *; omega)); rfl) | ((with_reducible first | apply ints_at | apply le_andI | apply le_andN | apply ne_andI); (first | omega | (simp only [LN] at *; omega))) | (with_reducible refine ite_of (fun _ => ?_) (fun _ => ?_)))
    refine loop_of (σ := Nat) (fun t => [(1, .pointer (some ⟨w.heap.size, 0, none⟩)), (6, .pointer (some ⟨b, 0, none⟩)), (8, .int .i64 (t : Int))])
      (fun t w' => t ≤ 256 ∧ Row w' w.heap.size (ints .i64 f) ∧ Row w' b (hcells c s M) ∧ Fr no w w') (fun t => 256 - t) 0 rfl ⟨by omega, h3, hrow.row, hfr⟩ ?_
    clear h3 hrow hfr
    rintro i w' ⟨hi, h3, hrow, hfr⟩
    (repeat' first | (simp only [RA, MI, S.dst, Nat.reduceAdd, Nat.reduceMul, Nat.reduceEqDiff, ↓reduceIte, reduceCtorEq, ne_eq, Nat.reduceLT, Nat.reduceLeDiff, gt_iff_lt, ge_iff_le, Int.reduceToNat, Nat.reduceSub, c3, x3, ints_ext, ints_set, true_and, ints_size, z23, str_eql, str_neq, decide_true, not_true_eq_false, Int.reduceEq, empty_eq, World.size_alloc]) | ((with_reducible first | apply bound_of | apply wr_i64 | apply wr_u8 | apply wr_u64); (first | omega | (simp only [LN] at *; omega)); (first | omega | (simp only [LN] at *; omega))) | ((with_reducible apply ld_row); (focus ((repeat' first | (with_reducible first | assumption | apply Own.set | apply Own.new | apply Own.newD | apply Own.drew | apply Row.drew | apply Row.set | apply Row.new | apply Row.newD | apply Own.alloc | apply Row.alloc | apply Own.ne | apply Row.ne | apply Own.row) | (first | omega | (simp only [LN] at *; omega))); done))) | ((with_reducible apply ldN_row); (focus ((repeat' first | (with_reducible first | assumption | apply Own.set | apply Own.new | apply Own.newD | apply Own.drew | apply Row.drew | apply Row.set | apply Row.new | apply Row.newD | apply Own.alloc | apply Row.alloc | apply Own.ne | apply Row.ne | apply Own.row) | (first | omega | (simp only [LN] at *; omega))); done)); (first | omega | (simp only [LN] at *; omega))) | ((with_reducible apply st_row); (focus ((repeat' first | (with_reducible first | assumption | apply Own.set | apply Own.new | apply Own.newD | apply Own.drew | apply Row.drew | apply Row.set | apply Row.new | apply Row.newD | apply Own.alloc | apply Row.alloc | apply Own.ne | apply Row.ne | apply Own.row) | (first | omega | (simp only [LN] at *; omega))); done)); (first | omega | (simp only [LN] at *; omega)); rfl) | ((with_reducible first | apply ints_at | apply le_andI | apply le_andN | apply ne_andI); (first | omega | (simp only [LN] at *; omega))) | (with_reducible refine ite_of (fun _ => ?_) (fun _ => ?_)))
    · rename_i hlt
      refine calls_mono (Code_any w' b c s M hcl hMl hrow i (by omega)) ?_
      rintro _ w6 ⟨rfl, hf6⟩
      replace hfr := hfr.and hf6
      replace h3 := h3.fr hf6 (fun h => h)
      replace hrow := hrow.fr hf6 (fun h => h)
      have hci := hco i (by omega)
      have hdd : decide (0 < g M (2 * i + 1)) = decide (0 < g f i) := by
        by_cases h : 0 < g f i
        · rw [decide_eq_true h, decide_eq_true (hci.2 h)]
        · rw [decide_eq_false h, decide_eq_false (fun h2 => h (hci.1 h2))]
      (repeat' first | (simp only [RA, MI, S.dst, Nat.reduceAdd, Nat.reduceMul, Nat.reduceEqDiff, ↓reduceIte, reduceCtorEq, ne_eq, Nat.reduceLT, Nat.reduceLeDiff, gt_iff_lt, ge_iff_le, Int.reduceToNat, Nat.reduceSub, c3, x3, ints_ext, ints_set, true_and, ints_size, z23, str_eql, str_neq, decide_true, not_true_eq_false, Int.reduceEq, empty_eq, World.size_alloc]) | ((with_reducible first | apply bound_of | apply wr_i64 | apply wr_u8 | apply wr_u64); (first | omega | (simp only [LN] at *; omega)); (first | omega | (simp only [LN] at *; omega))) | ((with_reducible apply ld_row); (focus ((repeat' first | (with_reducible first | assumption | apply Own.set | apply Own.new | apply Own.newD | apply Own.drew | apply Row.drew | apply Row.set | apply Row.new | apply Row.newD | apply Own.alloc | apply Row.alloc | apply Own.ne | apply Row.ne | apply Own.row) | (first | omega | (simp only [LN] at *; omega))); done))) | ((with_reducible apply ldN_row); (focus ((repeat' first | (with_reducible first | assumption | apply Own.set | apply Own.new | apply Own.newD | apply Own.drew | apply Row.drew | apply Row.set | apply Row.new | apply Row.newD | apply Own.alloc | apply Row.alloc | apply Own.ne | apply Row.ne | apply Own.row) | (first | omega | (simp only [LN] at *; omega))); done)); (first | omega | (simp only [LN] at *; omega))) | ((with_reducible apply st_row); (focus ((repeat' first | (with_reducible first | assumption | apply Own.set | apply Own.new | apply Own.newD | apply Own.drew | apply Row.drew | apply Row.set | apply Row.new | apply Row.newD | apply Own.alloc | apply Row.alloc | apply Own.ne | apply Row.ne | apply Own.row) | (first | omega | (simp only [LN] at *; omega))); done)); (first | omega | (simp only [LN] at *; omega)); rfl) | ((with_reducible first | apply ints_at | apply le_andI | apply le_andN | apply ne_andI); (first | omega | (simp only [LN] at *; omega))) | (with_reducible refine ite_of (fun _ => ?_) (fun _ => ?_)))
      · rename_i hx
        rw [hdd] at hx; simp at hx
      · refine ⟨i + 1, ?_, ⟨by omega, h3, hrow, hfr⟩, by omega⟩
        (first | rfl | (simp only [List.cons.injEq, Prod.mk.injEq, Value.int.injEq, Value.bool.injEq, true_and, and_true, List.cons_append, List.nil_append]; done) | (simp only [List.cons.injEq, Prod.mk.injEq, Value.int.injEq, Value.bool.injEq, true_and, and_true, List.cons_append, List.nil_append]; omega))
    · rename_i hlt
      refine calls_mono (awake_any w') ?_
      rintro _ w6 ⟨rfl, hf6⟩
      (repeat' first | (simp only [RA, MI, S.dst, Nat.reduceAdd, Nat.reduceMul, Nat.reduceEqDiff, ↓reduceIte, reduceCtorEq, ne_eq, Nat.reduceLT, Nat.reduceLeDiff, gt_iff_lt, ge_iff_le, Int.reduceToNat, Nat.reduceSub, c3, x3, ints_ext, ints_set, true_and, ints_size, z23, str_eql, str_neq, decide_true, not_true_eq_false, Int.reduceEq, empty_eq, World.size_alloc]) | ((with_reducible first | apply bound_of | apply wr_i64 | apply wr_u8 | apply wr_u64); (first | omega | (simp only [LN] at *; omega)); (first | omega | (simp only [LN] at *; omega))) | ((with_reducible apply ld_row); (focus ((repeat' first | (with_reducible first | assumption | apply Own.set | apply Own.new | apply Own.newD | apply Own.drew | apply Row.drew | apply Row.set | apply Row.new | apply Row.newD | apply Own.alloc | apply Row.alloc | apply Own.ne | apply Row.ne | apply Own.row) | (first | omega | (simp only [LN] at *; omega))); done))) | ((with_reducible apply ldN_row); (focus ((repeat' first | (with_reducible first | assumption | apply Own.set | apply Own.new | apply Own.newD | apply Own.drew | apply Row.drew | apply Row.set | apply Row.new | apply Row.newD | apply Own.alloc | apply Row.alloc | apply Own.ne | apply Row.ne | apply Own.row) | (first | omega | (simp only [LN] at *; omega))); done)); (first | omega | (simp only [LN] at *; omega))) | ((with_reducible apply st_row); (focus ((repeat' first | (with_reducible first | assumption | apply Own.set | apply Own.new | apply Own.newD | apply Own.drew | apply Row.drew | apply Row.set | apply Row.new | apply Row.newD | apply Own.alloc | apply Row.alloc | apply Own.ne | apply Row.ne | apply Own.row) | (first | omega | (simp only [LN] at *; omega))); done)); (first | omega | (simp only [LN] at *; omega)); rfl) | ((with_reducible first | apply ints_at | apply le_andI | apply le_andN | apply ne_andI); (first | omega | (simp only [LN] at *; omega))) | (with_reducible refine ite_of (fun _ => ?_) (fun _ => ?_)))
      exact hfr.and hf6
end Go.Proofs.Ytomckpllbihikaa
