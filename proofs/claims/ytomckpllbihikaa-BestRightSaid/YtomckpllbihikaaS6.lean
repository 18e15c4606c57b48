/-
  stable, SortStableFunc.
-/
import Derived.Test.YtomckpllbihikaaS5
set_option autoImplicit false
set_option linter.unusedSimpArgs false
set_option linter.unusedVariables false
namespace Go.Proofs.Ytomckpllbihikaa
open X

theorem g_mem {z : List Int} {k : Nat} (h : k < z.length) : g z k ∈ z := by
  simp only [g, List.getD_eq_getElem?_getD, List.getElem?_eq_getElem h, Option.getD_some]; exact List.getElem_mem h
theorem mem_g {z : List Int} {x : Int} (h : x ∈ z) : ∃ k, k < z.length ∧ g z k = x := by
  obtain ⟨k, hk, rfl⟩ := List.mem_iff_getElem.1 h
  exact ⟨k, hk, by simp [g, List.getD_eq_getElem?_getD, List.getElem?_eq_getElem hk]⟩
theorem perm_dom {D : Int → Prop} {o z : List Int} {n : Nat} (hp : z.Perm o) (ho : o.length = n) (hD : ∀ k, k < n → D (g o k)) (k : Nat) (hk : k < n) : D (g z k) := by
  have hl : z.length = n := hp.length_eq.trans ho
  obtain ⟨q, q1, q2⟩ := mem_g (hp.mem_iff.1 (g_mem (by omega : k < z.length)))
  rw [← q2]; exact hD q (by omega)

/-- All blocks of bs places are sorted. -/
def Lev (K : Int → Int) (o z : List Int) (bs n : Nat) : Prop := ∀ u, u * bs < n → Seg K o z (u * bs) (min (u * bs + bs) n)

/-- How far a pass of merges is: all blocks of 2 * bs places that end at a are sorted, behind them those of bs places. -/
structure Pass (K : Int → Int) (o z : List Int) (bs n t : Nat) : Prop where
  len : z.length = n
  perm : z.Perm o
  le : t * (2 * bs) ≤ n
  lo : ∀ u, u < t → Seg K o z (u * (2 * bs)) (u * (2 * bs) + 2 * bs)
  hi : ∀ u, 2 * t ≤ u → u * bs < n → Seg K o z (u * bs) (min (u * bs + bs) n)
theorem Pass.same {K : Int → Int} {o y z : List Int} {bs n t : Nat} (h : Pass K o y bs n t) (hbs : 0 < bs) (hl : z.length = n) (hp : z.Perm o) (he : t * (2 * bs) + 2 * bs ≤ n) (ho : ∀ k, k < n → (k < t * (2 * bs) ∨ t * (2 * bs) + 2 * bs ≤ k) → g z k = g y k)
    (hs : Seg K o z (t * (2 * bs)) (t * (2 * bs) + 2 * bs)) : Pass K o z bs n (t + 1) := by
  refine ⟨hl, hp, by rw [Nat.add_mul, Nat.one_mul]; exact he, fun u hu => ?_, fun u hu hn => ?_⟩
  · rcases Nat.lt_or_ge u t with x | x
    · have h1 : (u + 1) * (2 * bs) ≤ t * (2 * bs) := Nat.mul_le_mul_right _ (by omega)
      rw [Nat.add_mul, Nat.one_mul] at h1
      exact (h.lo u x).same fun k x1 x2 => ho k (by omega) (by omega)
    · obtain rfl : u = t := by omega
      exact hs
  · have h1 : (2 * (t + 1)) * bs ≤ u * bs := Nat.mul_le_mul_right _ hu
    have h2 : (2 * (t + 1)) * bs = t * (2 * bs) + 2 * bs := by rw [Nat.mul_assoc, Nat.mul_left_comm, Nat.add_mul, Nat.one_mul]
    exact (h.hi u (by omega) hn).same fun k x1 x2 => ho k (by omega) (by omega)
theorem Pass.two {K : Int → Int} {o z : List Int} {bs n t : Nat} (h : Pass K o z bs n t) (hbs : 0 < bs) (he : t * (2 * bs) + bs < n) : Seg K o z (t * (2 * bs)) (t * (2 * bs) + bs) ∧ Seg K o z (t * (2 * bs) + bs) (min (t * (2 * bs) + 2 * bs) n) := by
  have e1 : (2 * t) * bs = t * (2 * bs) := by rw [Nat.mul_assoc, Nat.mul_left_comm]
  have e2 : (2 * t + 1) * bs = t * (2 * bs) + bs := by rw [Nat.add_mul, e1, Nat.one_mul]
  have h1 := h.hi (2 * t) (by omega) (by omega)
  have h2 := h.hi (2 * t + 1) (by omega) (by omega)
  rw [e1, Nat.min_eq_left (by omega)] at h1
  rw [e2, show t * (2 * bs) + bs + bs = t * (2 * bs) + 2 * bs by omega] at h2
  exact ⟨h1, h2⟩
theorem Pass.one {K : Int → Int} {o z : List Int} {bs n t : Nat} (h : Pass K o z bs n t) (hbs : 0 < bs) (he : n ≤ t * (2 * bs) + bs) (ha : t * (2 * bs) < n) : Seg K o z (t * (2 * bs)) n := by
  have e1 : (2 * t) * bs = t * (2 * bs) := by rw [Nat.mul_assoc, Nat.mul_left_comm]
  have h1 := h.hi (2 * t) (by omega) (by omega)
  rw [e1, Nat.min_eq_right (by omega)] at h1
  exact h1
theorem Pass.lev {K : Int → Int} {o y z : List Int} {bs n t : Nat} (h : Pass K o y bs n t) (hbs : 0 < bs) (he : n < t * (2 * bs) + 2 * bs) (ho : ∀ k, k < n → k < t * (2 * bs) → g z k = g y k) (hs : t * (2 * bs) < n → Seg K o z (t * (2 * bs)) n) : Lev K o z (2 * bs) n := by
  intro u hu
  rcases Nat.lt_or_ge u t with x | x
  · have h1 : (u + 1) * (2 * bs) ≤ t * (2 * bs) := Nat.mul_le_mul_right _ (by omega)
    rw [Nat.add_mul, Nat.one_mul] at h1
    have h3 := h.le
    have y : u * (2 * bs) + 2 * bs ≤ n := by omega
    rw [Nat.min_eq_left y]
    exact (h.lo u x).same fun k x1 x2 => ho k (by omega) (by omega)
  · have h1 : t * (2 * bs) ≤ u * (2 * bs) := Nat.mul_le_mul_right _ x
    rcases Nat.lt_or_ge t u with y | y
    · have h2 : (t + 1) * (2 * bs) ≤ u * (2 * bs) := Nat.mul_le_mul_right _ y
      rw [Nat.add_mul, Nat.one_mul] at h2
      omega
    · obtain rfl : u = t := by omega
      rw [Nat.min_eq_right (by omega)]
      exact hs hu

def StablePost (J : World → Prop) (K : Int → Int) (w : World) (bk n : Nat) (o : List Int) (rest : List Value) (r : Ending) (w' : World) : Prop :=
  r = .returned (.tuple #[]) ∧ ∃ Z : List Int, Own w' bk (Z.map (Value.int .i64) ++ rest).toArray ∧ Z.length = n ∧ Z.Perm o ∧ Rise K Z 0 n ∧ J w' ∧ Fr (· = bk) w w'

set_option maxHeartbeats 1000000 in
set_option maxRecDepth 10000 in
theorem stable_any {cf : Value} {J : World → Prop} {D : Int → Prop} {lt : Int → Int → Bool} {K : Int → Int} (hcf : Cmp cf J D lt) (ht : Tells D lt K) (w : World) (bk n cap : Nat) (o : List Int) (rest : List Value) (hk : Keeps J bk) (hJ : J w) (hn : o.length = n) (hn2 : n < 100000)
    (hD : ∀ k, k < n → D (g o k)) (hup : ∀ i j, i < j → j < n → g o i < g o j) (hb : Own w bk (o.map (Value.int .i64) ++ rest).toArray) :
    Calls Try.prog 28 [.slice (some ⟨bk, 0, none⟩) n cap, .int .i64 (n : Int), cf].toArray w (StablePost J K w bk n o rest) := by
  refine enter28 (by simp) ?_
  (repeat' first | (simp only [RA, MI, S.dst, Nat.reduceAdd, Nat.reduceMul, Nat.reduceEqDiff, ↓reduceIte, reduceCtorEq, ne_eq, Nat.reduceLT, Nat.reduceLeDiff, gt_iff_lt, ge_iff_le, Int.reduceToNat, Nat.reduceSub, c28, x28, true_and]) | ((with_reducible first | apply bound_of | apply wr_i64 | apply wr_u8 | apply wr_u64); (first | omega | (simp only [LN] at *; omega)); (first | omega | (simp only [LN] at *; omega))) | ((with_reducible apply ld_row); (focus ((repeat' first | (with_reducible first | assumption | apply Own.set | apply Own.new | apply Own.newD | apply Own.drew | apply Row.drew | apply Row.set | apply Row.new | apply Row.newD | apply Own.alloc | apply Row.alloc | apply Own.ne | apply Row.ne | apply Own.row) | (first | omega | (simp only [LN] at *; omega))); done))) | ((with_reducible apply ldN_row); (focus ((repeat' first | (with_reducible first | assumption | apply Own.set | apply Own.new | apply Own.newD | apply Own.drew | apply Row.drew | apply Row.set | apply Row.new | apply Row.newD | apply Own.alloc | apply Row.alloc | apply Own.ne | apply Row.ne | apply Own.row) | (first | omega | (simp only [LN] at *; omega))); done)); (first | omega | (simp only [LN] at *; omega))) | ((with_reducible apply st_row); (focus ((repeat' first | (with_reducible first | assumption | apply Own.set | apply Own.new | apply Own.newD | apply Own.drew | apply Row.drew | apply Row.set | apply Row.new | apply Row.newD | apply Own.alloc | apply Row.alloc | apply Own.ne | apply Row.ne | apply Own.row) | (first | omega | (simp only [LN] at *; omega))); done)); (first | omega | (simp only [LN] at *; omega)); rfl) | ((with_reducible first | apply ints_at | apply le_andI | apply le_andN | apply ne_andI); (first | omega | (simp only [LN] at *; omega))) | (with_reducible refine ite_of (fun _ => ?_) (fun _ => ?_)))
  refine loop_of (σ := Nat × List Int) (fun t => [(0, .slice (some ⟨bk, 0, none⟩) n cap), (1, .int .i64 (n : Int)), (2, cf), (6, .int .i64 20), (7, .int .i64 ((20 * t.1 : Nat) : Int)), (8, .int .i64 ((20 * t.1 + 20 : Nat) : Int))])
    (fun t w' => 20 * t.1 ≤ n ∧ t.2.length = n ∧ t.2.Perm o ∧ (∀ u, u < t.1 → Seg K o t.2 (20 * u) (20 * u + 20)) ∧ (∀ k, 20 * t.1 ≤ k → k < n → g t.2 k = g o k) ∧ Own w' bk (t.2.map (Value.int .i64) ++ rest).toArray ∧ J w' ∧ Fr (· = bk) w w')
    (fun t => n + 40 - 20 * t.1) (0, o) rfl ⟨by simp, hn, .refl _, fun u hu => absurd hu (Nat.not_lt_zero _), fun _ _ _ => rfl, hb, hJ, .refl _ _⟩ ?_
  clear hb hJ
  rintro ⟨t, z⟩ w' ⟨h1, hz, hp, hs, hzo, hb, hJ, hf⟩
  dsimp only at *
  have hzD := perm_dom hp hn hD
  have hzup : ∀ e, e ≤ n → ∀ i j, 20 * t ≤ i → i < j → j < e → g z i < g z j := fun e he i j x1 x2 x3 => by
    rw [hzo i x1 (by omega), hzo j (by omega) (by omega)]; exact hup i j x2 (by omega)
  (repeat' first | (simp only [RA, MI, S.dst, Nat.reduceAdd, Nat.reduceMul, Nat.reduceEqDiff, ↓reduceIte, reduceCtorEq, ne_eq, Nat.reduceLT, Nat.reduceLeDiff, gt_iff_lt, ge_iff_le, Int.reduceToNat, Nat.reduceSub, c28, x28, true_and]) | ((with_reducible first | apply bound_of | apply wr_i64 | apply wr_u8 | apply wr_u64); (first | omega | (simp only [LN] at *; omega)); (first | omega | (simp only [LN] at *; omega))) | ((with_reducible apply ld_row); (focus ((repeat' first | (with_reducible first | assumption | apply Own.set | apply Own.new | apply Own.newD | apply Own.drew | apply Row.drew | apply Row.set | apply Row.new | apply Row.newD | apply Own.alloc | apply Row.alloc | apply Own.ne | apply Row.ne | apply Own.row) | (first | omega | (simp only [LN] at *; omega))); done))) | ((with_reducible apply ldN_row); (focus ((repeat' first | (with_reducible first | assumption | apply Own.set | apply Own.new | apply Own.newD | apply Own.drew | apply Row.drew | apply Row.set | apply Row.new | apply Row.newD | apply Own.alloc | apply Row.alloc | apply Own.ne | apply Row.ne | apply Own.row) | (first | omega | (simp only [LN] at *; omega))); done)); (first | omega | (simp only [LN] at *; omega))) | ((with_reducible apply st_row); (focus ((repeat' first | (with_reducible first | assumption | apply Own.set | apply Own.new | apply Own.newD | apply Own.drew | apply Row.drew | apply Row.set | apply Row.new | apply Row.newD | apply Own.alloc | apply Row.alloc | apply Own.ne | apply Row.ne | apply Own.row) | (first | omega | (simp only [LN] at *; omega))); done)); (first | omega | (simp only [LN] at *; omega)); rfl) | ((with_reducible first | apply ints_at | apply le_andI | apply le_andN | apply ne_andI); (first | omega | (simp only [LN] at *; omega))) | (with_reducible refine ite_of (fun _ => ?_) (fun _ => ?_)))
  · rename_i hle
    obtain ⟨s1, s2, s3, s4⟩ := insTo_seg ht hn hz (e := 20 * t + 20) (a := 20 * t) (by omega) (by omega) hp hzD (hzup _ (by omega)) (fun q x1 x2 => hzo q x1 (by omega))
    refine calls_mono (insertion_any hcf w' bk n cap (20 * t) (20 * t + 20) z rest hk hJ hz (by omega) hzD hb h1 (by omega) _ rfl) ?_
    rintro _ w2 ⟨rfl, hb2, hl2, hD2, hJ2, hf2⟩
    obtain ⟨y, hy⟩ : ∃ y, insTo lt (20 * t) (20 * t + 20 - (20 * t + 1)) z (20 * t + 1) = y := ⟨_, rfl⟩
    rw [hy] at hb2 hl2 s1 s2 s4
    simp only [hy] at s3 hD2
    (repeat' first | (simp only [RA, MI, S.dst, Nat.reduceAdd, Nat.reduceMul, Nat.reduceEqDiff, ↓reduceIte, reduceCtorEq, ne_eq, Nat.reduceLT, Nat.reduceLeDiff, gt_iff_lt, ge_iff_le, Int.reduceToNat, Nat.reduceSub, c28, x28, true_and]) | ((with_reducible first | apply bound_of | apply wr_i64 | apply wr_u8 | apply wr_u64); (first | omega | (simp only [LN] at *; omega)); (first | omega | (simp only [LN] at *; omega))) | ((with_reducible apply ld_row); (focus ((repeat' first | (with_reducible first | assumption | apply Own.set | apply Own.new | apply Own.newD | apply Own.drew | apply Row.drew | apply Row.set | apply Row.new | apply Row.newD | apply Own.alloc | apply Row.alloc | apply Own.ne | apply Row.ne | apply Own.row) | (first | omega | (simp only [LN] at *; omega))); done))) | ((with_reducible apply ldN_row); (focus ((repeat' first | (with_reducible first | assumption | apply Own.set | apply Own.new | apply Own.newD | apply Own.drew | apply Row.drew | apply Row.set | apply Row.new | apply Row.newD | apply Own.alloc | apply Row.alloc | apply Own.ne | apply Row.ne | apply Own.row) | (first | omega | (simp only [LN] at *; omega))); done)); (first | omega | (simp only [LN] at *; omega))) | ((with_reducible apply st_row); (focus ((repeat' first | (with_reducible first | assumption | apply Own.set | apply Own.new | apply Own.newD | apply Own.drew | apply Row.drew | apply Row.set | apply Row.new | apply Row.newD | apply Own.alloc | apply Row.alloc | apply Own.ne | apply Row.ne | apply Own.row) | (first | omega | (simp only [LN] at *; omega))); done)); (first | omega | (simp only [LN] at *; omega)); rfl) | ((with_reducible first | apply ints_at | apply le_andI | apply le_andN | apply ne_andI); (first | omega | (simp only [LN] at *; omega))) | (with_reducible refine ite_of (fun _ => ?_) (fun _ => ?_)))
    refine ⟨(t + 1, y), ?_, ⟨by dsimp only; omega, s1, s2, fun u hu => ?_, fun k x1 x2 => ?_, hb2, hJ2, hf.trans hf2⟩, by dsimp only; omega⟩
    · (first | rfl | (simp only [List.cons.injEq, Prod.mk.injEq, Value.int.injEq, Value.bool.injEq, true_and, and_true, List.cons_append, List.nil_append]; done) | (simp only [List.cons.injEq, Prod.mk.injEq, Value.int.injEq, Value.bool.injEq, true_and, and_true, List.cons_append, List.nil_append]; omega))
    · rcases Nat.lt_or_ge u t with x | x
      · exact (hs u x).same fun k x1 x2 => s3 k (by omega) (by omega)
      · obtain rfl : u = t := by omega
        exact s4
    · dsimp only at x1
      rw [s3 k x2 (by omega)]; exact hzo k (by omega) x2
  · rename_i hle
    obtain ⟨s1, s2, s3, s4⟩ := insTo_seg ht hn hz (e := n) (a := 20 * t) (by omega) (by omega) hp hzD (hzup _ (by omega)) (fun q x1 x2 => hzo q x1 (by omega))
    refine calls_mono (insertion_any hcf w' bk n cap (20 * t) n z rest hk hJ hz (by omega) hzD hb h1 (by omega) _ rfl) ?_
    rintro _ w2 ⟨rfl, hb2, hl2, hD2, hJ2, hf2⟩
    obtain ⟨y, hy⟩ : ∃ y, insTo lt (20 * t) (n - (20 * t + 1)) z (20 * t + 1) = y := ⟨_, rfl⟩
    rw [hy] at hb2 hl2 s1 s2 s4
    simp only [hy] at s3 hD2
    have hl : Lev K o y 20 n := by
      intro u hu
      rcases Nat.lt_or_ge u t with x | x
      · rw [Nat.min_eq_left (by omega), Nat.mul_comm]
        exact (hs u x).same fun k x1 x2 => s3 k (by omega) (by omega)
      · obtain rfl : u = t := by omega
        rw [Nat.min_eq_right (by omega), Nat.mul_comm]; exact s4
    have hf3 := hf.trans hf2
    clear hb hJ hzo hs hzD hzup hp hz s1 s3 s4 hy hf hf2 hD2
    (repeat' first | (simp only [RA, MI, S.dst, Nat.reduceAdd, Nat.reduceMul, Nat.reduceEqDiff, ↓reduceIte, reduceCtorEq, ne_eq, Nat.reduceLT, Nat.reduceLeDiff, gt_iff_lt, ge_iff_le, Int.reduceToNat, Nat.reduceSub, c28, x28, true_and]) | ((with_reducible first | apply bound_of | apply wr_i64 | apply wr_u8 | apply wr_u64); (first | omega | (simp only [LN] at *; omega)); (first | omega | (simp only [LN] at *; omega))) | ((with_reducible apply ld_row); (focus ((repeat' first | (with_reducible first | assumption | apply Own.set | apply Own.new | apply Own.newD | apply Own.drew | apply Row.drew | apply Row.set | apply Row.new | apply Row.newD | apply Own.alloc | apply Row.alloc | apply Own.ne | apply Row.ne | apply Own.row) | (first | omega | (simp only [LN] at *; omega))); done))) | ((with_reducible apply ldN_row); (focus ((repeat' first | (with_reducible first | assumption | apply Own.set | apply Own.new | apply Own.newD | apply Own.drew | apply Row.drew | apply Row.set | apply Row.new | apply Row.newD | apply Own.alloc | apply Row.alloc | apply Own.ne | apply Row.ne | apply Own.row) | (first | omega | (simp only [LN] at *; omega))); done)); (first | omega | (simp only [LN] at *; omega))) | ((with_reducible apply st_row); (focus ((repeat' first | (with_reducible first | assumption | apply Own.set | apply Own.new | apply Own.newD | apply Own.drew | apply Row.drew | apply Row.set | apply Row.new | apply Row.newD | apply Own.alloc | apply Row.alloc | apply Own.ne | apply Row.ne | apply Own.row) | (first | omega | (simp only [LN] at *; omega))); done)); (first | omega | (simp only [LN] at *; omega)); rfl) | ((with_reducible first | apply ints_at | apply le_andI | apply le_andN | apply ne_andI); (first | omega | (simp only [LN] at *; omega))) | (with_reducible refine ite_of (fun _ => ?_) (fun _ => ?_)))
    refine loop_of (σ := Nat × List Int) (fun t => [(0, .slice (some ⟨bk, 0, none⟩) n cap), (1, .int .i64 (n : Int)), (2, cf), (6, .int .i64 (t.1 : Int))])
      (fun t w' => 20 ≤ t.1 ∧ t.1 ≤ 2 * n + 20 ∧ t.2.length = n ∧ t.2.Perm o ∧ Lev K o t.2 t.1 n ∧ Own w' bk (t.2.map (Value.int .i64) ++ rest).toArray ∧ J w' ∧ Fr (· = bk) w w')
      (fun t => 2 * n + 40 - t.1) (20, y) rfl ⟨by simp, by simp, hl2, s2, hl, hb2, hJ2, hf3⟩ ?_
    clear hb2 hJ2 hf3 hl s2 hl2 hle h1
    rintro ⟨bs, z⟩ w' ⟨h1, h2, hz, hp, hl, hb, hJ, hf⟩
    dsimp only at *
    (repeat' first | (simp only [RA, MI, S.dst, Nat.reduceAdd, Nat.reduceMul, Nat.reduceEqDiff, ↓reduceIte, reduceCtorEq, ne_eq, Nat.reduceLT, Nat.reduceLeDiff, gt_iff_lt, ge_iff_le, Int.reduceToNat, Nat.reduceSub, c28, x28, true_and]) | ((with_reducible first | apply bound_of | apply wr_i64 | apply wr_u8 | apply wr_u64); (first | omega | (simp only [LN] at *; omega)); (first | omega | (simp only [LN] at *; omega))) | ((with_reducible apply ld_row); (focus ((repeat' first | (with_reducible first | assumption | apply Own.set | apply Own.new | apply Own.newD | apply Own.drew | apply Row.drew | apply Row.set | apply Row.new | apply Row.newD | apply Own.alloc | apply Row.alloc | apply Own.ne | apply Row.ne | apply Own.row) | (first | omega | (simp only [LN] at *; omega))); done))) | ((with_reducible apply ldN_row); (focus ((repeat' first | (with_reducible first | assumption | apply Own.set | apply Own.new | apply Own.newD | apply Own.drew | apply Row.drew | apply Row.set | apply Row.new | apply Row.newD | apply Own.alloc | apply Row.alloc | apply Own.ne | apply Row.ne | apply Own.row) | (first | omega | (simp only [LN] at *; omega))); done)); (first | omega | (simp only [LN] at *; omega))) | ((with_reducible apply st_row); (focus ((repeat' first | (with_reducible first | assumption | apply Own.set | apply Own.new | apply Own.newD | apply Own.drew | apply Row.drew | apply Row.set | apply Row.new | apply Row.newD | apply Own.alloc | apply Row.alloc | apply Own.ne | apply Row.ne | apply Own.row) | (first | omega | (simp only [LN] at *; omega))); done)); (first | omega | (simp only [LN] at *; omega)); rfl) | ((with_reducible first | apply ints_at | apply le_andI | apply le_andN | apply ne_andI); (first | omega | (simp only [LN] at *; omega))) | (with_reducible refine ite_of (fun _ => ?_) (fun _ => ?_)))
    · rename_i hbn
      refine loop_of (σ := Nat × Nat × List Int) (fun t => [(0, .slice (some ⟨bk, 0, none⟩) n cap), (1, .int .i64 (n : Int)), (2, cf), (6, .int .i64 (bs : Int)), (7, .int .i64 (t.2.1 : Int)), (8, .int .i64 ((t.2.1 + 2 * bs : Nat) : Int))])
        (fun t w' => t.2.1 = t.1 * (2 * bs) ∧ Pass K o t.2.2 bs n t.1 ∧ Own w' bk (t.2.2.map (Value.int .i64) ++ rest).toArray ∧ J w' ∧ Fr (· = bk) w w')
        (fun t => n + 1 - t.2.1) (0, 0, z) ?_ ⟨by simp, ⟨hz, hp, by simp, fun u hu => absurd hu (Nat.not_lt_zero _), fun u _ hu => hl u hu⟩, hb, hJ, hf⟩ ?_
      · (first | rfl | (simp only [List.cons.injEq, Prod.mk.injEq, Value.int.injEq, Value.bool.injEq, true_and, and_true, List.cons_append, List.nil_append]; done) | (simp only [List.cons.injEq, Prod.mk.injEq, Value.int.injEq, Value.bool.injEq, true_and, and_true, List.cons_append, List.nil_append]; omega))
      clear hb hJ hf hl hp hz
      rintro ⟨t, a, z⟩ w' ⟨ha, hP, hb, hJ, hf⟩
      dsimp only at *
      have han := hP.le
      rw [← ha] at han
      have hzD := perm_dom hP.perm hn hD
      (repeat' first | (simp only [RA, MI, S.dst, Nat.reduceAdd, Nat.reduceMul, Nat.reduceEqDiff, ↓reduceIte, reduceCtorEq, ne_eq, Nat.reduceLT, Nat.reduceLeDiff, gt_iff_lt, ge_iff_le, Int.reduceToNat, Nat.reduceSub, c28, x28, true_and]) | ((with_reducible first | apply bound_of | apply wr_i64 | apply wr_u8 | apply wr_u64); (first | omega | (simp only [LN] at *; omega)); (first | omega | (simp only [LN] at *; omega))) | ((with_reducible apply ld_row); (focus ((repeat' first | (with_reducible first | assumption | apply Own.set | apply Own.new | apply Own.newD | apply Own.drew | apply Row.drew | apply Row.set | apply Row.new | apply Row.newD | apply Own.alloc | apply Row.alloc | apply Own.ne | apply Row.ne | apply Own.row) | (first | omega | (simp only [LN] at *; omega))); done))) | ((with_reducible apply ldN_row); (focus ((repeat' first | (with_reducible first | assumption | apply Own.set | apply Own.new | apply Own.newD | apply Own.drew | apply Row.drew | apply Row.set | apply Row.new | apply Row.newD | apply Own.alloc | apply Row.alloc | apply Own.ne | apply Row.ne | apply Own.row) | (first | omega | (simp only [LN] at *; omega))); done)); (first | omega | (simp only [LN] at *; omega))) | ((with_reducible apply st_row); (focus ((repeat' first | (with_reducible first | assumption | apply Own.set | apply Own.new | apply Own.newD | apply Own.drew | apply Row.drew | apply Row.set | apply Row.new | apply Row.newD | apply Own.alloc | apply Row.alloc | apply Own.ne | apply Row.ne | apply Own.row) | (first | omega | (simp only [LN] at *; omega))); done)); (first | omega | (simp only [LN] at *; omega)); rfl) | ((with_reducible first | apply ints_at | apply le_andI | apply le_andN | apply ne_andI); (first | omega | (simp only [LN] at *; omega))) | (with_reducible refine ite_of (fun _ => ?_) (fun _ => ?_)))
      · rename_i hle
        obtain ⟨g1, g2⟩ := hP.two (by omega) (by omega)
        rw [← ha] at g1 g2
        rw [Nat.min_eq_left (by omega)] at g2
        have c1 : (a : Int) + bs = ((a + bs : Nat) : Int) := by omega
        try rw [c1]
        refine calls_mono (symMerge_any hcf bk n cap rest hk (by omega) n w' a (a + bs) (a + 2 * bs) z (by omega) hJ hP.len hzD hb (by omega) (by omega) (by omega) g1.rise g2.rise (Seg.agree ht hD hup (by omega) g1 g2)) ?_
        rintro _ w2 ⟨rfl, y, hb2, hy, hp2, ho2, r2, hm2, hD2, hJ2, hf2⟩
        have hseg : Seg K o y a (a + 2 * bs) := ⟨r2, fun k x1 x2 => by
          obtain ⟨q, q1, q2, q3⟩ := hm2 k x1 x2
          rcases Nat.lt_or_ge q (a + bs) with v | v
          · obtain ⟨r, r1, r2, r3⟩ := g1.mem q q1 v; exact ⟨r, r1, by omega, q3.trans r3⟩
          · obtain ⟨r, r1, r2, r3⟩ := g2.mem q v q2; exact ⟨r, by omega, r2, q3.trans r3⟩⟩
        (repeat' first | (simp only [RA, MI, S.dst, Nat.reduceAdd, Nat.reduceMul, Nat.reduceEqDiff, ↓reduceIte, reduceCtorEq, ne_eq, Nat.reduceLT, Nat.reduceLeDiff, gt_iff_lt, ge_iff_le, Int.reduceToNat, Nat.reduceSub, c28, x28, true_and]) | ((with_reducible first | apply bound_of | apply wr_i64 | apply wr_u8 | apply wr_u64); (first | omega | (simp only [LN] at *; omega)); (first | omega | (simp only [LN] at *; omega))) | ((with_reducible apply ld_row); (focus ((repeat' first | (with_reducible first | assumption | apply Own.set | apply Own.new | apply Own.newD | apply Own.drew | apply Row.drew | apply Row.set | apply Row.new | apply Row.newD | apply Own.alloc | apply Row.alloc | apply Own.ne | apply Row.ne | apply Own.row) | (first | omega | (simp only [LN] at *; omega))); done))) | ((with_reducible apply ldN_row); (focus ((repeat' first | (with_reducible first | assumption | apply Own.set | apply Own.new | apply Own.newD | apply Own.drew | apply Row.drew | apply Row.set | apply Row.new | apply Row.newD | apply Own.alloc | apply Row.alloc | apply Own.ne | apply Row.ne | apply Own.row) | (first | omega | (simp only [LN] at *; omega))); done)); (first | omega | (simp only [LN] at *; omega))) | ((with_reducible apply st_row); (focus ((repeat' first | (with_reducible first | assumption | apply Own.set | apply Own.new | apply Own.newD | apply Own.drew | apply Row.drew | apply Row.set | apply Row.new | apply Row.newD | apply Own.alloc | apply Row.alloc | apply Own.ne | apply Row.ne | apply Own.row) | (first | omega | (simp only [LN] at *; omega))); done)); (first | omega | (simp only [LN] at *; omega)); rfl) | ((with_reducible first | apply ints_at | apply le_andI | apply le_andN | apply ne_andI); (first | omega | (simp only [LN] at *; omega))) | (with_reducible refine ite_of (fun _ => ?_) (fun _ => ?_)))
        refine ⟨(t + 1, a + 2 * bs, y), ?_, ⟨by dsimp only; rw [Nat.add_mul, Nat.one_mul, ← ha], ?_, hb2, hJ2, hf.trans hf2⟩, by dsimp only; omega⟩
        · (first | rfl | (simp only [List.cons.injEq, Prod.mk.injEq, Value.int.injEq, Value.bool.injEq, true_and, and_true, List.cons_append, List.nil_append]; done) | (simp only [List.cons.injEq, Prod.mk.injEq, Value.int.injEq, Value.bool.injEq, true_and, and_true, List.cons_append, List.nil_append]; omega))
        · refine hP.same (by omega) hy (hp2.trans hP.perm) (by omega) (by rw [← ha]; exact ho2) (by rw [← ha]; exact hseg)
      · rename_i hle hmn
        obtain ⟨g1, g2⟩ := hP.two (by omega) (by omega)
        rw [← ha] at g1 g2
        rw [Nat.min_eq_right (by omega)] at g2
        have c1 : (a : Int) + bs = ((a + bs : Nat) : Int) := by omega
        try rw [c1]
        refine calls_mono (symMerge_any hcf bk n cap rest hk (by omega) n w' a (a + bs) n z (by omega) hJ hP.len hzD hb (by omega) (by omega) (by omega) g1.rise g2.rise (Seg.agree ht hD hup (by omega) g1 g2)) ?_
        rintro _ w2 ⟨rfl, y, hb2, hy, hp2, ho2, r2, hm2, hD2, hJ2, hf2⟩
        have hseg : Seg K o y a n := ⟨r2, fun k x1 x2 => by
          obtain ⟨q, q1, q2, q3⟩ := hm2 k x1 x2
          rcases Nat.lt_or_ge q (a + bs) with v | v
          · obtain ⟨r, r1, r2, r3⟩ := g1.mem q q1 v; exact ⟨r, r1, by omega, q3.trans r3⟩
          · obtain ⟨r, r1, r2, r3⟩ := g2.mem q v q2; exact ⟨r, by omega, r2, q3.trans r3⟩⟩
        (repeat' first | (simp only [RA, MI, S.dst, Nat.reduceAdd, Nat.reduceMul, Nat.reduceEqDiff, ↓reduceIte, reduceCtorEq, ne_eq, Nat.reduceLT, Nat.reduceLeDiff, gt_iff_lt, ge_iff_le, Int.reduceToNat, Nat.reduceSub, c28, x28, true_and]) | ((with_reducible first | apply bound_of | apply wr_i64 | apply wr_u8 | apply wr_u64); (first | omega | (simp only [LN] at *; omega)); (first | omega | (simp only [LN] at *; omega))) | ((with_reducible apply ld_row); (focus ((repeat' first | (with_reducible first | assumption | apply Own.set | apply Own.new | apply Own.newD | apply Own.drew | apply Row.drew | apply Row.set | apply Row.new | apply Row.newD | apply Own.alloc | apply Row.alloc | apply Own.ne | apply Row.ne | apply Own.row) | (first | omega | (simp only [LN] at *; omega))); done))) | ((with_reducible apply ldN_row); (focus ((repeat' first | (with_reducible first | assumption | apply Own.set | apply Own.new | apply Own.newD | apply Own.drew | apply Row.drew | apply Row.set | apply Row.new | apply Row.newD | apply Own.alloc | apply Row.alloc | apply Own.ne | apply Row.ne | apply Own.row) | (first | omega | (simp only [LN] at *; omega))); done)); (first | omega | (simp only [LN] at *; omega))) | ((with_reducible apply st_row); (focus ((repeat' first | (with_reducible first | assumption | apply Own.set | apply Own.new | apply Own.newD | apply Own.drew | apply Row.drew | apply Row.set | apply Row.new | apply Row.newD | apply Own.alloc | apply Row.alloc | apply Own.ne | apply Row.ne | apply Own.row) | (first | omega | (simp only [LN] at *; omega))); done)); (first | omega | (simp only [LN] at *; omega)); rfl) | ((with_reducible first | apply ints_at | apply le_andI | apply le_andN | apply ne_andI); (first | omega | (simp only [LN] at *; omega))) | (with_reducible refine ite_of (fun _ => ?_) (fun _ => ?_)))
        refine ⟨(2 * bs, y), ?_, ⟨by dsimp only; omega, by dsimp only; omega, hy, hp2.trans hP.perm, hP.lev (by omega) (by omega) (fun k x1 x2 => ho2 k x1 (by omega)) (fun _ => by rw [← ha]; exact hseg), hb2, hJ2, hf.trans hf2⟩, by dsimp only; omega⟩
        · (first | rfl | (simp only [List.cons.injEq, Prod.mk.injEq, Value.int.injEq, Value.bool.injEq, true_and, and_true, List.cons_append, List.nil_append]; done) | (simp only [List.cons.injEq, Prod.mk.injEq, Value.int.injEq, Value.bool.injEq, true_and, and_true, List.cons_append, List.nil_append]; omega))
      · rename_i hle hmn
        (repeat' first | (simp only [RA, MI, S.dst, Nat.reduceAdd, Nat.reduceMul, Nat.reduceEqDiff, ↓reduceIte, reduceCtorEq, ne_eq, Nat.reduceLT, Nat.reduceLeDiff, gt_iff_lt, ge_iff_le, Int.reduceToNat, Nat.reduceSub, c28, x28, true_and]) | ((with_reducible first | apply bound_of | apply wr_i64 | apply wr_u8 | apply wr_u64); (first | omega | (simp only [LN] at *; omega)); (first | omega | (simp only [LN] at *; omega))) | ((with_reducible apply ld_row); (focus ((repeat' first | (with_reducible first | assumption | apply Own.set | apply Own.new | apply Own.newD | apply Own.drew | apply Row.drew | apply Row.set | apply Row.new | apply Row.newD | apply Own.alloc | apply Row.alloc | apply Own.ne | apply Row.ne | apply Own.row) | (first | omega | (simp only [LN] at *; omega))); done))) | ((with_reducible apply ldN_row); (focus ((repeat' first | (with_reducible first | assumption | apply Own.set | apply Own.new | apply Own.newD | apply Own.drew | apply Row.drew | apply Row.set | apply Row.new | apply Row.newD | apply Own.alloc | apply Row.alloc | apply Own.ne | apply Row.ne | apply Own.row) | (first | omega | (simp only [LN] at *; omega))); done)); (first | omega | (simp only [LN] at *; omega))) | ((with_reducible apply st_row); (focus ((repeat' first | (with_reducible first | assumption | apply Own.set | apply Own.new | apply Own.newD | apply Own.drew | apply Row.drew | apply Row.set | apply Row.new | apply Row.newD | apply Own.alloc | apply Row.alloc | apply Own.ne | apply Row.ne | apply Own.row) | (first | omega | (simp only [LN] at *; omega))); done)); (first | omega | (simp only [LN] at *; omega)); rfl) | ((with_reducible first | apply ints_at | apply le_andI | apply le_andN | apply ne_andI); (first | omega | (simp only [LN] at *; omega))) | (with_reducible refine ite_of (fun _ => ?_) (fun _ => ?_)))
        refine ⟨(2 * bs, z), ?_, ⟨by dsimp only; omega, by dsimp only; omega, hP.len, hP.perm, hP.lev (by omega) (by omega) (fun k x1 x2 => rfl) (fun h => hP.one (by omega) (by omega) h), hb, hJ, hf⟩, by dsimp only; omega⟩
        (first | rfl | (simp only [List.cons.injEq, Prod.mk.injEq, Value.int.injEq, Value.bool.injEq, true_and, and_true, List.cons_append, List.nil_append]; done) | (simp only [List.cons.injEq, Prod.mk.injEq, Value.int.injEq, Value.bool.injEq, true_and, and_true, List.cons_append, List.nil_append]; omega))
    · rename_i hbn
      refine ⟨rfl, z, hb, hz, hp, ?_, hJ, hf⟩
      intro i j x1 x2 x3
      have := hl 0 (by omega)
      rw [Nat.zero_mul, Nat.zero_add, Nat.min_eq_right (by omega)] at this
      exact this.rise i j x1 x2 x3

theorem sortStable_any {cf : Value} {J : World → Prop} {D : Int → Prop} {lt : Int → Int → Bool} {K : Int → Int} (hcf : Cmp cf J D lt) (ht : Tells D lt K) (w : World) (bk n cap : Nat) (o : List Int) (rest : List Value) (hk : Keeps J bk) (hJ : J w) (hn : o.length = n) (hn2 : n < 100000)
    (hD : ∀ k, k < n → D (g o k)) (hup : ∀ i j, i < j → j < n → g o i < g o j) (hb : Own w bk (o.map (Value.int .i64) ++ rest).toArray) :
    Calls Try.prog 20 [.slice (some ⟨bk, 0, none⟩) n cap, cf].toArray w (StablePost J K w bk n o rest) := by
  refine enter20 (by simp) ?_
  (repeat' first | (simp only [RA, MI, S.dst, Nat.reduceAdd, Nat.reduceMul, Nat.reduceEqDiff, ↓reduceIte, reduceCtorEq, ne_eq, Nat.reduceLT, Nat.reduceLeDiff, gt_iff_lt, ge_iff_le, Int.reduceToNat, Nat.reduceSub, c20, x20, true_and]) | ((with_reducible first | apply bound_of | apply wr_i64 | apply wr_u8 | apply wr_u64); (first | omega | (simp only [LN] at *; omega)); (first | omega | (simp only [LN] at *; omega))) | ((with_reducible apply ld_row); (focus ((repeat' first | (with_reducible first | assumption | apply Own.set | apply Own.new | apply Own.newD | apply Own.drew | apply Row.drew | apply Row.set | apply Row.new | apply Row.newD | apply Own.alloc | apply Row.alloc | apply Own.ne | apply Row.ne | apply Own.row) | (first | omega | (simp only [LN] at *; omega))); done))) | ((with_reducible apply ldN_row); (focus ((repeat' first | (with_reducible first | assumption | apply Own.set | apply Own.new | apply Own.newD | apply Own.drew | apply Row.drew | apply Row.set | apply Row.new | apply Row.newD | apply Own.alloc | apply Row.alloc | apply Own.ne | apply Row.ne | apply Own.row) | (first | omega | (simp only [LN] at *; omega))); done)); (first | omega | (simp only [LN] at *; omega))) | ((with_reducible apply st_row); (focus ((repeat' first | (with_reducible first | assumption | apply Own.set | apply Own.new | apply Own.newD | apply Own.drew | apply Row.drew | apply Row.set | apply Row.new | apply Row.newD | apply Own.alloc | apply Row.alloc | apply Own.ne | apply Row.ne | apply Own.row) | (first | omega | (simp only [LN] at *; omega))); done)); (first | omega | (simp only [LN] at *; omega)); rfl) | ((with_reducible first | apply ints_at | apply le_andI | apply le_andN | apply ne_andI); (first | omega | (simp only [LN] at *; omega))) | (with_reducible refine ite_of (fun _ => ?_) (fun _ => ?_)))
  refine calls_mono (stable_any hcf ht w bk n cap o rest hk hJ hn hn2 hD hup hb) ?_
  rintro _ w2 ⟨rfl, h⟩
  (repeat' first | (simp only [RA, MI, S.dst, Nat.reduceAdd, Nat.reduceMul, Nat.reduceEqDiff, ↓reduceIte, reduceCtorEq, ne_eq, Nat.reduceLT, Nat.reduceLeDiff, gt_iff_lt, ge_iff_le, Int.reduceToNat, Nat.reduceSub, c20, x20, true_and]) | ((with_reducible first | apply bound_of | apply wr_i64 | apply wr_u8 | apply wr_u64); (first | omega | (simp only [LN] at *; omega)); (first | omega | (simp only [LN] at *; omega))) | ((with_reducible apply ld_row); (focus ((repeat' first | (with_reducible first | assumption | apply Own.set | apply Own.new | apply Own.newD | apply Own.drew | apply Row.drew | apply Row.set | apply Row.new | apply Row.newD | apply Own.alloc | apply Row.alloc | apply Own.ne | apply Row.ne | apply Own.row) | (first | omega | (simp only [LN] at *; omega))); done))) | ((with_reducible apply ldN_row); (focus ((repeat' first | (with_reducible first | assumption | apply Own.set | apply Own.new | apply Own.newD | apply Own.drew | apply Row.drew | apply Row.set | apply Row.new | apply Row.newD | apply Own.alloc | apply Row.alloc | apply Own.ne | apply Row.ne | apply Own.row) | (first | omega | (simp only [LN] at *; omega))); done)); (first | omega | (simp only [LN] at *; omega))) | ((with_reducible apply st_row); (focus ((repeat' first | (with_reducible first | assumption | apply Own.set | apply Own.new | apply Own.newD | apply Own.drew | apply Row.drew | apply Row.set | apply Row.new | apply Row.newD | apply Own.alloc | apply Row.alloc | apply Own.ne | apply Row.ne | apply Own.row) | (first | omega | (simp only [LN] at *; omega))); done)); (first | omega | (simp only [LN] at *; omega)); rfl) | ((with_reducible first | apply ints_at | apply le_andI | apply le_andN | apply ne_andI); (first | omega | (simp only [LN] at *; omega))) | (with_reducible refine ite_of (fun _ => ?_) (fun _ => ?_)))
  exact ⟨rfl, h⟩
end Go.Proofs.Ytomckpllbihikaa
