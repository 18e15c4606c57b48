/-
  Layer 6: lengths.
-/
import Derived.Test.YtomckpllbihikaaP1
set_option autoImplicit false
set_option linter.unusedSimpArgs false
set_option linter.unusedVariables false
namespace Go.Proofs.Ytomckpllbihikaa
open X

theorem runT_none {s : TS} (h : stepT s = none) (n : Nat) : runT n s = s := by
  cases n with
  | zero => rfl
  | succ n => simp [runT, h]

theorem stepT_some {m : List Int} {cs : Nat → List Nat} (h : WF m cs) {p q : Int} (hp : leastTo m (-1) 257 = p) (hq : leastTo m p 257 = q) (hb : 0 ≤ q) :
    ∃ a b : Nat, p = a ∧ q = b ∧ a < 257 ∧ b < 257 ∧ a ≠ b ∧ 0 < g m a ∧ 0 < g m b ∧ stepT (m, cs) = some (mrg m a b (cs a) (cs b), fun i => if i = a then cs a ++ cs b else cs i) := by
  obtain ⟨n1, s1⟩ := least_spec m (-1) 257
  obtain ⟨_, s2⟩ := least_spec m p 257
  rw [hp] at n1 s1
  rw [hq] at s2
  obtain ⟨b1, b2, b3, _⟩ := s2 hb
  have ha : 0 ≤ p := by
    rcases Int.lt_or_le p 0 with hn | hn
    · have := n1 hn _ b1 (by omega)
      omega
    · exact hn
  obtain ⟨a1, a2, _, _⟩ := s1 ha
  refine ⟨p.toNat, q.toNat, by omega, by omega, a1, b1, by omega, a2, b2, ?_⟩
  simp only [stepT, hp, hq]
  rw [if_neg (by omega)]

theorem stepT_none {m : List Int} {cs : Nat → List Nat} {p q : Int} (hp : leastTo m (-1) 257 = p) (hq : leastTo m p 257 = q) (hb : q < 0) : stepT (m, cs) = none := by
  simp only [stepT, hp, hq]
  rw [if_pos hb]

set_option maxRecDepth 10000 in
theorem lengths_any (w : World) (b : Nat) (m : List Int) (cs : Nat → List Nat) (h : WF m cs) (hb : Own w b (ints .i64 m)) (Z : TS) (hZ : runT 257 (m, cs) = Z) :
    Calls Try.prog 18 [.pointer (some ⟨b, 0, none⟩)].toArray w fun e w' => e = .returned (.tuple #[]) ∧ Own w' b (ints .i64 Z.1) ∧ Fr (· = b) w w' := by
  refine enter18 (by simp) ?_
  (repeat' first | (simp only [RA, MI, S.dst, Nat.reduceAdd, Nat.reduceMul, Nat.reduceEqDiff, ↓reduceIte, reduceCtorEq, ne_eq, Nat.reduceLT, Nat.reduceLeDiff, gt_iff_lt, ge_iff_le, Int.reduceToNat, Nat.reduceSub, c18, x18, ints_ext, ints_set, ad_add, Nat.zero_add, Nat.add_zero, Nat.mul_one, Int.toNat_natCast, decide_eq_false_iff_not, ne_eq, not_false_eq_true, Nat.reduceLT, Nat.reduceLeDiff]) | ((with_reducible first | apply bound_of | apply wr_i64 | apply wr_u8 | apply wr_u64); (first | omega | (simp only [LN] at *; omega)); (first | omega | (simp only [LN] at *; omega))) | ((with_reducible apply ld_row); (focus ((repeat' first | (with_reducible first | assumption | apply Own.set | apply Own.new | apply Own.newD | apply Own.drew | apply Row.drew | apply Row.set | apply Row.new | apply Row.newD | apply Own.alloc | apply Row.alloc | apply Own.ne | apply Row.ne | apply Own.row) | (first | omega | (simp only [LN] at *; omega))); done))) | ((with_reducible apply ldN_row); (focus ((repeat' first | (with_reducible first | assumption | apply Own.set | apply Own.new | apply Own.newD | apply Own.drew | apply Row.drew | apply Row.set | apply Row.new | apply Row.newD | apply Own.alloc | apply Row.alloc | apply Own.ne | apply Row.ne | apply Own.row) | (first | omega | (simp only [LN] at *; omega))); done)); (first | omega | (simp only [LN] at *; omega))) | ((with_reducible apply st_row); (focus ((repeat' first | (with_reducible first | assumption | apply Own.set | apply Own.new | apply Own.newD | apply Own.drew | apply Row.drew | apply Row.set | apply Row.new | apply Row.newD | apply Own.alloc | apply Row.alloc | apply Own.ne | apply Row.ne | apply Own.row) | (first | omega | (simp only [LN] at *; omega))); done)); (first | omega | (simp only [LN] at *; omega)); rfl) | ((with_reducible first | apply ints_at | apply le_andI | apply le_andN | apply ne_andI); (first | omega | (simp only [LN] at *; omega))) | (with_reducible refine ite_of (fun _ => ?_) (fun _ => ?_)))
  refine loop_of (σ := TS × Nat) (fun s => [(0, .pointer (some ⟨b, 0, none⟩))])
    (fun s w' => WF s.1.1 s.1.2 ∧ cnt s.1.1 ≤ s.2 ∧ runT s.2 s.1 = Z ∧ Own w' b (ints .i64 s.1.1) ∧ Fr (· = b) w w')
    (fun s => cnt s.1.1) ((m, cs), 257) rfl ⟨h, ?_, hZ, hb, .refl _ _⟩ ?_
  · have := (h.le 0 (by omega)); simp only; omega
  rintro ⟨⟨m', cs'⟩, n⟩ w' ⟨hw, hc, hr, hb, hf⟩
  dsimp only at *
  have hm := hw.len
  (repeat' first | (simp only [RA, MI, S.dst, Nat.reduceAdd, Nat.reduceMul, Nat.reduceEqDiff, ↓reduceIte, reduceCtorEq, ne_eq, Nat.reduceLT, Nat.reduceLeDiff, gt_iff_lt, ge_iff_le, Int.reduceToNat, Nat.reduceSub, c18, x18, ints_ext, ints_set, ad_add, Nat.zero_add, Nat.add_zero, Nat.mul_one, Int.toNat_natCast, decide_eq_false_iff_not, ne_eq, not_false_eq_true, Nat.reduceLT, Nat.reduceLeDiff]) | ((with_reducible first | apply bound_of | apply wr_i64 | apply wr_u8 | apply wr_u64); (first | omega | (simp only [LN] at *; omega)); (first | omega | (simp only [LN] at *; omega))) | ((with_reducible apply ld_row); (focus ((repeat' first | (with_reducible first | assumption | apply Own.set | apply Own.new | apply Own.newD | apply Own.drew | apply Row.drew | apply Row.set | apply Row.new | apply Row.newD | apply Own.alloc | apply Row.alloc | apply Own.ne | apply Row.ne | apply Own.row) | (first | omega | (simp only [LN] at *; omega))); done))) | ((with_reducible apply ldN_row); (focus ((repeat' first | (with_reducible first | assumption | apply Own.set | apply Own.new | apply Own.newD | apply Own.drew | apply Row.drew | apply Row.set | apply Row.new | apply Row.newD | apply Own.alloc | apply Row.alloc | apply Own.ne | apply Row.ne | apply Own.row) | (first | omega | (simp only [LN] at *; omega))); done)); (first | omega | (simp only [LN] at *; omega))) | ((with_reducible apply st_row); (focus ((repeat' first | (with_reducible first | assumption | apply Own.set | apply Own.new | apply Own.newD | apply Own.drew | apply Row.drew | apply Row.set | apply Row.new | apply Row.newD | apply Own.alloc | apply Row.alloc | apply Own.ne | apply Row.ne | apply Own.row) | (first | omega | (simp only [LN] at *; omega))); done)); (first | omega | (simp only [LN] at *; omega)); rfl) | ((with_reducible first | apply ints_at | apply le_andI | apply le_andN | apply ne_andI); (first | omega | (simp only [LN] at *; omega))) | (with_reducible refine ite_of (fun _ => ?_) (fun _ => ?_)))
  obtain ⟨p, hp⟩ : ∃ p, leastTo m' (-1) 257 = p := ⟨_, rfl⟩
  obtain ⟨q, hq⟩ : ∃ q, leastTo m' p 257 = q := ⟨_, rfl⟩
  refine calls_mono (least_any w' b m' (-1) hm hb.row p hp) ?_
  rintro _ _ ⟨rfl, rfl⟩
  (repeat' first | (simp only [RA, MI, S.dst, Nat.reduceAdd, Nat.reduceMul, Nat.reduceEqDiff, ↓reduceIte, reduceCtorEq, ne_eq, Nat.reduceLT, Nat.reduceLeDiff, gt_iff_lt, ge_iff_le, Int.reduceToNat, Nat.reduceSub, c18, x18, ints_ext, ints_set, ad_add, Nat.zero_add, Nat.add_zero, Nat.mul_one, Int.toNat_natCast, decide_eq_false_iff_not, ne_eq, not_false_eq_true, Nat.reduceLT, Nat.reduceLeDiff]) | ((with_reducible first | apply bound_of | apply wr_i64 | apply wr_u8 | apply wr_u64); (first | omega | (simp only [LN] at *; omega)); (first | omega | (simp only [LN] at *; omega))) | ((with_reducible apply ld_row); (focus ((repeat' first | (with_reducible first | assumption | apply Own.set | apply Own.new | apply Own.newD | apply Own.drew | apply Row.drew | apply Row.set | apply Row.new | apply Row.newD | apply Own.alloc | apply Row.alloc | apply Own.ne | apply Row.ne | apply Own.row) | (first | omega | (simp only [LN] at *; omega))); done))) | ((with_reducible apply ldN_row); (focus ((repeat' first | (with_reducible first | assumption | apply Own.set | apply Own.new | apply Own.newD | apply Own.drew | apply Row.drew | apply Row.set | apply Row.new | apply Row.newD | apply Own.alloc | apply Row.alloc | apply Own.ne | apply Row.ne | apply Own.row) | (first | omega | (simp only [LN] at *; omega))); done)); (first | omega | (simp only [LN] at *; omega))) | ((with_reducible apply st_row); (focus ((repeat' first | (with_reducible first | assumption | apply Own.set | apply Own.new | apply Own.newD | apply Own.drew | apply Row.drew | apply Row.set | apply Row.new | apply Row.newD | apply Own.alloc | apply Row.alloc | apply Own.ne | apply Row.ne | apply Own.row) | (first | omega | (simp only [LN] at *; omega))); done)); (first | omega | (simp only [LN] at *; omega)); rfl) | ((with_reducible first | apply ints_at | apply le_andI | apply le_andN | apply ne_andI); (first | omega | (simp only [LN] at *; omega))) | (with_reducible refine ite_of (fun _ => ?_) (fun _ => ?_)))
  refine calls_mono (least_any _ b m' _ hm hb.row q hq) ?_
  rintro _ _ ⟨rfl, rfl⟩
  (repeat' first | (simp only [RA, MI, S.dst, Nat.reduceAdd, Nat.reduceMul, Nat.reduceEqDiff, ↓reduceIte, reduceCtorEq, ne_eq, Nat.reduceLT, Nat.reduceLeDiff, gt_iff_lt, ge_iff_le, Int.reduceToNat, Nat.reduceSub, c18, x18, ints_ext, ints_set, ad_add, Nat.zero_add, Nat.add_zero, Nat.mul_one, Int.toNat_natCast, decide_eq_false_iff_not, ne_eq, not_false_eq_true, Nat.reduceLT, Nat.reduceLeDiff]) | ((with_reducible first | apply bound_of | apply wr_i64 | apply wr_u8 | apply wr_u64); (first | omega | (simp only [LN] at *; omega)); (first | omega | (simp only [LN] at *; omega))) | ((with_reducible apply ld_row); (focus ((repeat' first | (with_reducible first | assumption | apply Own.set | apply Own.new | apply Own.newD | apply Own.drew | apply Row.drew | apply Row.set | apply Row.new | apply Row.newD | apply Own.alloc | apply Row.alloc | apply Own.ne | apply Row.ne | apply Own.row) | (first | omega | (simp only [LN] at *; omega))); done))) | ((with_reducible apply ldN_row); (focus ((repeat' first | (with_reducible first | assumption | apply Own.set | apply Own.new | apply Own.newD | apply Own.drew | apply Row.drew | apply Row.set | apply Row.new | apply Row.newD | apply Own.alloc | apply Row.alloc | apply Own.ne | apply Row.ne | apply Own.row) | (first | omega | (simp only [LN] at *; omega))); done)); (first | omega | (simp only [LN] at *; omega))) | ((with_reducible apply st_row); (focus ((repeat' first | (with_reducible first | assumption | apply Own.set | apply Own.new | apply Own.newD | apply Own.drew | apply Row.drew | apply Row.set | apply Row.new | apply Row.newD | apply Own.alloc | apply Row.alloc | apply Own.ne | apply Row.ne | apply Own.row) | (first | omega | (simp only [LN] at *; omega))); done)); (first | omega | (simp only [LN] at *; omega)); rfl) | ((with_reducible first | apply ints_at | apply le_andI | apply le_andN | apply ne_andI); (first | omega | (simp only [LN] at *; omega))) | (with_reducible refine ite_of (fun _ => ?_) (fun _ => ?_)))
  · rename_i hn
    refine ⟨trivial, ?_, hf⟩
    rw [← hr, runT_none (stepT_none hp hq hn)]
    exact hb
  · rename_i hn
    obtain ⟨x, y, rfl, rfl, hx, hy, hxy, px, py, hst⟩ := stepT_some hw hp hq (by omega)
    obtain ⟨⟨rx, erx⟩, cx, nx⟩ := hw.ch x hx px
    obtain ⟨⟨ry, ery⟩, cy, ny⟩ := hw.ch y hy py
    have bx := le_sum (m'.take 257) (fun i hi => by rw [g_take0 _ _ _ (by simp at hi; omega)]; exact hw.nn i (by simp at hi; omega))
    have bx1 := bx x (by simp; omega)
    have bx2 := bx y (by simp; omega)
    rw [g_take0 _ _ _ (by omega)] at bx1 bx2
    have hsum := hw.sum
    unfold tot at hsum
    clear bx
    (repeat' first | (simp only [RA, MI, S.dst, Nat.reduceAdd, Nat.reduceMul, Nat.reduceEqDiff, ↓reduceIte, reduceCtorEq, ne_eq, Nat.reduceLT, Nat.reduceLeDiff, gt_iff_lt, ge_iff_le, Int.reduceToNat, Nat.reduceSub, c18, x18, ints_ext, ints_set, ad_add, Nat.zero_add, Nat.add_zero, Nat.mul_one, Int.toNat_natCast, decide_eq_false_iff_not, ne_eq, not_false_eq_true, Nat.reduceLT, Nat.reduceLeDiff]) | ((with_reducible first | apply bound_of | apply wr_i64 | apply wr_u8 | apply wr_u64); (first | omega | (simp only [LN] at *; omega)); (first | omega | (simp only [LN] at *; omega))) | ((with_reducible apply ld_row); (focus ((repeat' first | (with_reducible first | assumption | apply Own.set | apply Own.new | apply Own.newD | apply Own.drew | apply Row.drew | apply Row.set | apply Row.new | apply Row.newD | apply Own.alloc | apply Row.alloc | apply Own.ne | apply Row.ne | apply Own.row) | (first | omega | (simp only [LN] at *; omega))); done))) | ((with_reducible apply ldN_row); (focus ((repeat' first | (with_reducible first | assumption | apply Own.set | apply Own.new | apply Own.newD | apply Own.drew | apply Row.drew | apply Row.set | apply Row.new | apply Row.newD | apply Own.alloc | apply Row.alloc | apply Own.ne | apply Row.ne | apply Own.row) | (first | omega | (simp only [LN] at *; omega))); done)); (first | omega | (simp only [LN] at *; omega))) | ((with_reducible apply st_row); (focus ((repeat' first | (with_reducible first | assumption | apply Own.set | apply Own.new | apply Own.newD | apply Own.drew | apply Row.drew | apply Row.set | apply Row.new | apply Row.newD | apply Own.alloc | apply Row.alloc | apply Own.ne | apply Row.ne | apply Own.row) | (first | omega | (simp only [LN] at *; omega))); done)); (first | omega | (simp only [LN] at *; omega)); rfl) | ((with_reducible first | apply ints_at | apply le_andI | apply le_andN | apply ne_andI); (first | omega | (simp only [LN] at *; omega))) | (with_reducible refine ite_of (fun _ => ?_) (fun _ => ?_)))
    have hm2 : ((m'.set x (g m' x + g m' y)).set y 0).length = 771 := by simpa using hm
    have hi2 : ∀ k, 257 ≤ k → g ((m'.set x (g m' x + g m' y)).set y 0) k = g m' k := fun k hk => by
      rw [g_set _ _ _ _ (by simp; omega), if_neg (by omega), g_set _ _ _ _ (by omega), if_neg (by omega)]
    have hle := hw.le
    have lx := chain_lt cx
    have ly := chain_lt cy
    have cx2 : chain ((m'.set x (g m' x + g m' y)).set y 0) (x :: rx) := erx ▸ chain_congr cx fun k _ => hi2 _ (by omega)
    have lenx : rx.length + 1 ≤ 257 := nodup_lt 257 (x :: rx) (erx ▸ nx) fun k hk => lx k (erx ▸ hk)
    have leny : ry.length + 1 ≤ 257 := nodup_lt 257 (y :: ry) (ery ▸ ny) fun k hk => ly k (ery ▸ hk)
    refine calls_mono (longer_any _ b _ x rx hm2 cx2 (by (focus ((repeat' first | (with_reducible first | assumption | apply Own.set | apply Own.new | apply Own.newD | apply Own.drew | apply Row.drew | apply Row.set | apply Row.new | apply Row.newD | apply Own.alloc | apply Row.alloc | apply Own.ne | apply Row.ne | apply Own.row) | (first | omega | (simp only [LN] at *; omega))); done))) ?_) ?_
    · intro k hk
      have := hle k hk
      rw [hi2 _ (by omega)]; omega
    rintro _ w2 ⟨rfl, hb2, hf2⟩
    rw [← erx] at hb2
    have hm3 : (bump ((m'.set x (g m' x + g m' y)).set y 0) (cs' x)).length = 771 := by rw [bump_len]; exact hm2
    have hg3 := fun k => bump_g (cs' x) _ k hm2 lx nx
    have cy3 : chain (bump ((m'.set x (g m' x + g m' y)).set y 0) (cs' x)) (y :: ry) := ery ▸ chain_congr cy fun k hk => by
      have := ly k hk
      rw [hg3, hi2 _ (by omega), if_neg]
      · omega
      · intro h; have := lx _ h.2; omega
    (repeat' first | (simp only [RA, MI, S.dst, Nat.reduceAdd, Nat.reduceMul, Nat.reduceEqDiff, ↓reduceIte, reduceCtorEq, ne_eq, Nat.reduceLT, Nat.reduceLeDiff, gt_iff_lt, ge_iff_le, Int.reduceToNat, Nat.reduceSub, c18, x18, ints_ext, ints_set, ad_add, Nat.zero_add, Nat.add_zero, Nat.mul_one, Int.toNat_natCast, decide_eq_false_iff_not, ne_eq, not_false_eq_true, Nat.reduceLT, Nat.reduceLeDiff]) | ((with_reducible first | apply bound_of | apply wr_i64 | apply wr_u8 | apply wr_u64); (first | omega | (simp only [LN] at *; omega)); (first | omega | (simp only [LN] at *; omega))) | ((with_reducible apply ld_row); (focus ((repeat' first | (with_reducible first | assumption | apply Own.set | apply Own.new | apply Own.newD | apply Own.drew | apply Row.drew | apply Row.set | apply Row.new | apply Row.newD | apply Own.alloc | apply Row.alloc | apply Own.ne | apply Row.ne | apply Own.row) | (first | omega | (simp only [LN] at *; omega))); done))) | ((with_reducible apply ldN_row); (focus ((repeat' first | (with_reducible first | assumption | apply Own.set | apply Own.new | apply Own.newD | apply Own.drew | apply Row.drew | apply Row.set | apply Row.new | apply Row.newD | apply Own.alloc | apply Row.alloc | apply Own.ne | apply Row.ne | apply Own.row) | (first | omega | (simp only [LN] at *; omega))); done)); (first | omega | (simp only [LN] at *; omega))) | ((with_reducible apply st_row); (focus ((repeat' first | (with_reducible first | assumption | apply Own.set | apply Own.new | apply Own.newD | apply Own.drew | apply Row.drew | apply Row.set | apply Row.new | apply Row.newD | apply Own.alloc | apply Row.alloc | apply Own.ne | apply Row.ne | apply Own.row) | (first | omega | (simp only [LN] at *; omega))); done)); (first | omega | (simp only [LN] at *; omega)); rfl) | ((with_reducible first | apply ints_at | apply le_andI | apply le_andN | apply ne_andI); (first | omega | (simp only [LN] at *; omega))) | (with_reducible refine ite_of (fun _ => ?_) (fun _ => ?_)))
    refine calls_mono (longer_any _ b _ y ry hm3 cy3 hb2 ?_) ?_
    · intro k hk
      have := hle k hk
      rw [hg3, hi2 _ (by omega)]
      split <;> omega
    rintro _ w3 ⟨rfl, hb3, hf3⟩
    rw [← ery] at hb3
    have hm4 : (bump (bump ((m'.set x (g m' x + g m' y)).set y 0) (cs' x)) (cs' y)).length = 771 := by rw [bump_len]; exact hm3
    have hll : (x :: rx).getLast (by simp) = (cs' x).getLast?.getD 0 := by rw [erx, List.getLast?_eq_some_getLast (by simp)]; rfl
    rw [hll]
    have hl7 := lx _ (mem_of_last (l := cs' x) (by rw [erx]; simp))
    (repeat' first | (simp only [RA, MI, S.dst, Nat.reduceAdd, Nat.reduceMul, Nat.reduceEqDiff, ↓reduceIte, reduceCtorEq, ne_eq, Nat.reduceLT, Nat.reduceLeDiff, gt_iff_lt, ge_iff_le, Int.reduceToNat, Nat.reduceSub, c18, x18, ints_ext, ints_set, ad_add, Nat.zero_add, Nat.add_zero, Nat.mul_one, Int.toNat_natCast, decide_eq_false_iff_not, ne_eq, not_false_eq_true, Nat.reduceLT, Nat.reduceLeDiff]) | ((with_reducible first | apply bound_of | apply wr_i64 | apply wr_u8 | apply wr_u64); (first | omega | (simp only [LN] at *; omega)); (first | omega | (simp only [LN] at *; omega))) | ((with_reducible apply ld_row); (focus ((repeat' first | (with_reducible first | assumption | apply Own.set | apply Own.new | apply Own.newD | apply Own.drew | apply Row.drew | apply Row.set | apply Row.new | apply Row.newD | apply Own.alloc | apply Row.alloc | apply Own.ne | apply Row.ne | apply Own.row) | (first | omega | (simp only [LN] at *; omega))); done))) | ((with_reducible apply ldN_row); (focus ((repeat' first | (with_reducible first | assumption | apply Own.set | apply Own.new | apply Own.newD | apply Own.drew | apply Row.drew | apply Row.set | apply Row.new | apply Row.newD | apply Own.alloc | apply Row.alloc | apply Own.ne | apply Row.ne | apply Own.row) | (first | omega | (simp only [LN] at *; omega))); done)); (first | omega | (simp only [LN] at *; omega))) | ((with_reducible apply st_row); (focus ((repeat' first | (with_reducible first | assumption | apply Own.set | apply Own.new | apply Own.newD | apply Own.drew | apply Row.drew | apply Row.set | apply Row.new | apply Row.newD | apply Own.alloc | apply Row.alloc | apply Own.ne | apply Row.ne | apply Own.row) | (first | omega | (simp only [LN] at *; omega))); done)); (first | omega | (simp only [LN] at *; omega)); rfl) | ((with_reducible first | apply ints_at | apply le_andI | apply le_andN | apply ne_andI); (first | omega | (simp only [LN] at *; omega))) | (with_reducible refine ite_of (fun _ => ?_) (fun _ => ?_)))
    obtain ⟨hwf, hct⟩ := wf_step hw hx hy hxy px py
    refine ⟨((mrg m' x y (cs' x) (cs' y), fun i => if i = x then cs' x ++ cs' y else cs' i), n - 1), trivial, ⟨hwf, by dsimp only; omega, ?_, ?_, ?_⟩, by dsimp only; omega⟩
    · cases n with
      | zero => omega
      | succ n => rw [← hr]; simp only [runT, hst, Nat.add_sub_cancel]
    · exact hb3.set _
    · refine Fr.setRow _ _ ?_ (fun _ => rfl)
      refine Fr.trans ?_ (hf2.trans hf3)
      exact (hf.drew.setRow b _ fun _ => rfl).setRow b _ fun _ => rfl
end Go.Proofs.Ytomckpllbihikaa
