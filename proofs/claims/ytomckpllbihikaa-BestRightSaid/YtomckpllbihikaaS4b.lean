/-
  symMerge's rests: what is left to do behind the search.
-/
import Derived.Test.YtomckpllbihikaaS4a
set_option autoImplicit false
set_option linter.unusedSimpArgs false
set_option linter.unusedVariables false
namespace Go.Proofs.Ytomckpllbihikaa
open X

/-- symMerge does what it should, for parts of s elements at most. -/
def MergeIh (f : Nat) (caps : Array Value) (J : World → Prop) (D : Int → Prop) (lt : Int → Int → Bool) (K : Int → Int) (bk n cap : Nat) (rest : List Value) (s : Nat) : Prop :=
  ∀ (w : World) (a m b : Nat) (d : List Int) (hs : b - a ≤ s) (hJ : J w) (hn : d.length = n) (hD : ∀ k, k < n → D (g d k)) (hb : Own w bk (d.map (Value.int .i64) ++ rest).toArray) (ha : a < m) (hm : m < b) (he : b ≤ n)
      (h1 : Rise K d a m) (h2 : Rise K d m b) (h3 : Agree lt K d a m b),
    Calls Try.prog 33 [.slice (some ⟨bk, 0, none⟩) n cap, .int .i64 (a : Int), .int .i64 (m : Int), .int .i64 (b : Int), .func (.func f) #[] caps].toArray w (MergePost J D K w bk n a b d rest)

set_option maxHeartbeats 1000000 in
set_option maxRecDepth 10000 in
theorem tail3 {f : Nat} {caps : Array Value} {J : World → Prop} {D : Int → Prop} {lt : Int → Int → Bool} {K : Int → Int} {bk n cap s : Nat} {rest : List Value} (hn2 : n < 1000000) (ih : MergeIh f caps J D lt K bk n cap rest s) {w : World} {a mid b : Nat} {d : List Int} (hs : b - a ≤ s + 1) (hmm : a < mid ∧ mid < b) (he : b ≤ n)
    (y : List Int) (e : Nat) (w2 : World) (hP : Part D K d y n a mid b) (he1 : mid ≤ e) (he2 : e ≤ b) (r1 : Rise K y a mid) (r2 : Rise K y mid e) (r3 : Rise K y e b) (ag : Agree lt K y mid e b) (hb2 : Own w2 bk (y.map (Value.int .i64) ++ rest).toArray) (hJ2 : J w2) (hf2 : Fr (· = bk) w w2) :
    vc Try.prog t33_3 (endPost [] (MergePost J D K w bk n a b d rest)) [(0, .slice (some ⟨bk, 0, none⟩) n cap), (3, .int .i64 (b : Int)), (4, .func (.func f) #[] caps), (18, .int .i64 (mid : Int)), (24, .int .i64 (e : Int))] w2 := by
  unfold t33_3
  have fin : ∀ (x : List Int) (w3 : World), Part D K d x n a mid b → Rise K x a mid → Rise K x mid b → Own w3 bk (x.map (Value.int .i64) ++ rest).toArray → J w3 → Fr (· = bk) w w3 → MergePost J D K w bk n a b d rest (.returned (.tuple #[])) w3 :=
    fun x w3 p1 p2 p3 p4 p5 p6 => ⟨rfl, x, p4, p1.len, p1.perm, p1.out, p1.rise p2 p3, p1.mem, p1.dom, p5, p6⟩
  (repeat' first | (simp only [RA, MI, S.dst, Nat.reduceAdd, Nat.reduceMul, Nat.reduceEqDiff, ↓reduceIte, reduceCtorEq, ne_eq, Nat.reduceLT, Nat.reduceLeDiff, gt_iff_lt, ge_iff_le, Int.reduceToNat, Nat.reduceSub, x33, c33_cut, true_and, ints_ext, ints_set, half]) | (first | ((with_reducible apply app_at); (first | omega | (simp only [LN] at *; omega))) | ((with_reducible apply app_st); (focus ((repeat' first | (with_reducible first | assumption | apply Own.set | apply Own.new | apply Own.newD | apply Own.drew | apply Row.drew | apply Row.set | apply Row.new | apply Row.newD | apply Own.alloc | apply Row.alloc | apply Own.ne | apply Row.ne | apply Own.row) | (first | omega | (simp only [LN] at *; omega))); done)); (first | omega | (simp only [LN] at *; omega)))) | ((with_reducible first | apply bound_of | apply wr_i64 | apply wr_u8 | apply wr_u64); (first | omega | (simp only [LN] at *; omega)); (first | omega | (simp only [LN] at *; omega))) | ((with_reducible apply ld_row); (focus ((repeat' first | (with_reducible first | assumption | apply Own.set | apply Own.new | apply Own.newD | apply Own.drew | apply Row.drew | apply Row.set | apply Row.new | apply Row.newD | apply Own.alloc | apply Row.alloc | apply Own.ne | apply Row.ne | apply Own.row) | (first | omega | (simp only [LN] at *; omega))); done))) | ((with_reducible apply ldN_row); (focus ((repeat' first | (with_reducible first | assumption | apply Own.set | apply Own.new | apply Own.newD | apply Own.drew | apply Row.drew | apply Row.set | apply Row.new | apply Row.newD | apply Own.alloc | apply Row.alloc | apply Own.ne | apply Row.ne | apply Own.row) | (first | omega | (simp only [LN] at *; omega))); done)); (first | omega | (simp only [LN] at *; omega))) | ((with_reducible apply st_row); (focus ((repeat' first | (with_reducible first | assumption | apply Own.set | apply Own.new | apply Own.newD | apply Own.drew | apply Row.drew | apply Row.set | apply Row.new | apply Row.newD | apply Own.alloc | apply Row.alloc | apply Own.ne | apply Row.ne | apply Own.row) | (first | omega | (simp only [LN] at *; omega))); done)); (first | omega | (simp only [LN] at *; omega)); rfl) | ((with_reducible first | apply ints_at | apply le_andI | apply le_andN | apply ne_andI); (first | omega | (simp only [LN] at *; omega))) | (with_reducible refine ite_of (fun _ => ?_) (fun _ => ?_)))
  · rename_i g1 g2
    refine calls_mono (ih w2 mid e b y (by omega) hJ2 hP.len hP.dom hb2 (by omega) (by omega) he r2 r3 ag) ?_
    rintro _ w3 ⟨rfl, x, hb3, hx, hp3, ho3, r4, hm3, hD3, hJ3, hf3⟩
    (repeat' first | (simp only [RA, MI, S.dst, Nat.reduceAdd, Nat.reduceMul, Nat.reduceEqDiff, ↓reduceIte, reduceCtorEq, ne_eq, Nat.reduceLT, Nat.reduceLeDiff, gt_iff_lt, ge_iff_le, Int.reduceToNat, Nat.reduceSub, x33, c33_cut, true_and, ints_ext, ints_set, half]) | (first | ((with_reducible apply app_at); (first | omega | (simp only [LN] at *; omega))) | ((with_reducible apply app_st); (focus ((repeat' first | (with_reducible first | assumption | apply Own.set | apply Own.new | apply Own.newD | apply Own.drew | apply Row.drew | apply Row.set | apply Row.new | apply Row.newD | apply Own.alloc | apply Row.alloc | apply Own.ne | apply Row.ne | apply Own.row) | (first | omega | (simp only [LN] at *; omega))); done)); (first | omega | (simp only [LN] at *; omega)))) | ((with_reducible first | apply bound_of | apply wr_i64 | apply wr_u8 | apply wr_u64); (first | omega | (simp only [LN] at *; omega)); (first | omega | (simp only [LN] at *; omega))) | ((with_reducible apply ld_row); (focus ((repeat' first | (with_reducible first | assumption | apply Own.set | apply Own.new | apply Own.newD | apply Own.drew | apply Row.drew | apply Row.set | apply Row.new | apply Row.newD | apply Own.alloc | apply Row.alloc | apply Own.ne | apply Row.ne | apply Own.row) | (first | omega | (simp only [LN] at *; omega))); done))) | ((with_reducible apply ldN_row); (focus ((repeat' first | (with_reducible first | assumption | apply Own.set | apply Own.new | apply Own.newD | apply Own.drew | apply Row.drew | apply Row.set | apply Row.new | apply Row.newD | apply Own.alloc | apply Row.alloc | apply Own.ne | apply Row.ne | apply Own.row) | (first | omega | (simp only [LN] at *; omega))); done)); (first | omega | (simp only [LN] at *; omega))) | ((with_reducible apply st_row); (focus ((repeat' first | (with_reducible first | assumption | apply Own.set | apply Own.new | apply Own.newD | apply Own.drew | apply Row.drew | apply Row.set | apply Row.new | apply Row.newD | apply Own.alloc | apply Row.alloc | apply Own.ne | apply Row.ne | apply Own.row) | (first | omega | (simp only [LN] at *; omega))); done)); (first | omega | (simp only [LN] at *; omega)); rfl) | ((with_reducible first | apply ints_at | apply le_andI | apply le_andN | apply ne_andI); (first | omega | (simp only [LN] at *; omega))) | (with_reducible refine ite_of (fun _ => ?_) (fun _ => ?_)))
    exact fin x w3 (hP.right (by omega) hx hp3 ho3 hm3 hD3) (r1.same fun k k1 k2 => ho3 k (by omega) (by omega)) r4 hb3 hJ3 (hf2.trans hf3)
  · rename_i g1 g2
    have : e = b := by omega
    subst this
    exact fin y w2 hP r1 r2 hb2 hJ2 hf2
  · rename_i g1
    have : e = mid := by omega
    subst this
    exact fin y w2 hP r1 r3 hb2 hJ2 hf2

set_option maxHeartbeats 1000000 in
set_option maxRecDepth 10000 in
theorem tail2 {f : Nat} {caps : Array Value} {J : World → Prop} {D : Int → Prop} {lt : Int → Int → Bool} {K : Int → Int} {bk n cap s : Nat} {rest : List Value} (hn2 : n < 1000000) (ih : MergeIh f caps J D lt K bk n cap rest s) {w : World} {a mid b : Nat} {d : List Int} (hs : b - a ≤ s + 1) (hmm : a < mid ∧ mid < b) (he : b ≤ n)
    (y : List Int) (s0 e : Nat) (w2 : World) (hP : Part D K d y n a mid b) (he1 : mid ≤ e) (he2 : e ≤ b) (hs1 : a ≤ s0) (hs2 : s0 ≤ mid) (l1 : Rise K y a s0) (l2 : Rise K y s0 mid) (lag : Agree lt K y a s0 mid) (r2 : Rise K y mid e) (r3 : Rise K y e b) (ag : Agree lt K y mid e b)
    (hb2 : Own w2 bk (y.map (Value.int .i64) ++ rest).toArray) (hJ2 : J w2) (hf2 : Fr (· = bk) w w2) :
    vc Try.prog t33_2 (endPost [] (MergePost J D K w bk n a b d rest)) [(0, .slice (some ⟨bk, 0, none⟩) n cap), (1, .int .i64 (a : Int)), (3, .int .i64 (b : Int)), (4, .func (.func f) #[] caps), (18, .int .i64 (mid : Int)), (20, .int .i64 (s0 : Int)), (24, .int .i64 (e : Int))] w2 := by
  unfold t33_2
  (repeat' first | (simp only [RA, MI, S.dst, Nat.reduceAdd, Nat.reduceMul, Nat.reduceEqDiff, ↓reduceIte, reduceCtorEq, ne_eq, Nat.reduceLT, Nat.reduceLeDiff, gt_iff_lt, ge_iff_le, Int.reduceToNat, Nat.reduceSub, x33, c33_cut, true_and, ints_ext, ints_set, half]) | (first | ((with_reducible apply app_at); (first | omega | (simp only [LN] at *; omega))) | ((with_reducible apply app_st); (focus ((repeat' first | (with_reducible first | assumption | apply Own.set | apply Own.new | apply Own.newD | apply Own.drew | apply Row.drew | apply Row.set | apply Row.new | apply Row.newD | apply Own.alloc | apply Row.alloc | apply Own.ne | apply Row.ne | apply Own.row) | (first | omega | (simp only [LN] at *; omega))); done)); (first | omega | (simp only [LN] at *; omega)))) | ((with_reducible first | apply bound_of | apply wr_i64 | apply wr_u8 | apply wr_u64); (first | omega | (simp only [LN] at *; omega)); (first | omega | (simp only [LN] at *; omega))) | ((with_reducible apply ld_row); (focus ((repeat' first | (with_reducible first | assumption | apply Own.set | apply Own.new | apply Own.newD | apply Own.drew | apply Row.drew | apply Row.set | apply Row.new | apply Row.newD | apply Own.alloc | apply Row.alloc | apply Own.ne | apply Row.ne | apply Own.row) | (first | omega | (simp only [LN] at *; omega))); done))) | ((with_reducible apply ldN_row); (focus ((repeat' first | (with_reducible first | assumption | apply Own.set | apply Own.new | apply Own.newD | apply Own.drew | apply Row.drew | apply Row.set | apply Row.new | apply Row.newD | apply Own.alloc | apply Row.alloc | apply Own.ne | apply Row.ne | apply Own.row) | (first | omega | (simp only [LN] at *; omega))); done)); (first | omega | (simp only [LN] at *; omega))) | ((with_reducible apply st_row); (focus ((repeat' first | (with_reducible first | assumption | apply Own.set | apply Own.new | apply Own.newD | apply Own.drew | apply Row.drew | apply Row.set | apply Row.new | apply Row.newD | apply Own.alloc | apply Row.alloc | apply Own.ne | apply Row.ne | apply Own.row) | (first | omega | (simp only [LN] at *; omega))); done)); (first | omega | (simp only [LN] at *; omega)); rfl) | ((with_reducible first | apply ints_at | apply le_andI | apply le_andN | apply ne_andI); (first | omega | (simp only [LN] at *; omega))) | (with_reducible refine ite_of (fun _ => ?_) (fun _ => ?_)))
  · rename_i g1 g2
    refine calls_mono (ih w2 a s0 mid y (by omega) hJ2 hP.len hP.dom hb2 (by omega) (by omega) (by omega) l1 l2 lag) ?_
    rintro _ w3 ⟨rfl, x, hb3, hx, hp3, ho3, r4, hm3, hD3, hJ3, hf3⟩
    (repeat' first | (simp only [RA, MI, S.dst, Nat.reduceAdd, Nat.reduceMul, Nat.reduceEqDiff, ↓reduceIte, reduceCtorEq, ne_eq, Nat.reduceLT, Nat.reduceLeDiff, gt_iff_lt, ge_iff_le, Int.reduceToNat, Nat.reduceSub, x33, c33_cut, true_and, ints_ext, ints_set, half]) | (first | ((with_reducible apply app_at); (first | omega | (simp only [LN] at *; omega))) | ((with_reducible apply app_st); (focus ((repeat' first | (with_reducible first | assumption | apply Own.set | apply Own.new | apply Own.newD | apply Own.drew | apply Row.drew | apply Row.set | apply Row.new | apply Row.newD | apply Own.alloc | apply Row.alloc | apply Own.ne | apply Row.ne | apply Own.row) | (first | omega | (simp only [LN] at *; omega))); done)); (first | omega | (simp only [LN] at *; omega)))) | ((with_reducible first | apply bound_of | apply wr_i64 | apply wr_u8 | apply wr_u64); (first | omega | (simp only [LN] at *; omega)); (first | omega | (simp only [LN] at *; omega))) | ((with_reducible apply ld_row); (focus ((repeat' first | (with_reducible first | assumption | apply Own.set | apply Own.new | apply Own.newD | apply Own.drew | apply Row.drew | apply Row.set | apply Row.new | apply Row.newD | apply Own.alloc | apply Row.alloc | apply Own.ne | apply Row.ne | apply Own.row) | (first | omega | (simp only [LN] at *; omega))); done))) | ((with_reducible apply ldN_row); (focus ((repeat' first | (with_reducible first | assumption | apply Own.set | apply Own.new | apply Own.newD | apply Own.drew | apply Row.drew | apply Row.set | apply Row.new | apply Row.newD | apply Own.alloc | apply Row.alloc | apply Own.ne | apply Row.ne | apply Own.row) | (first | omega | (simp only [LN] at *; omega))); done)); (first | omega | (simp only [LN] at *; omega))) | ((with_reducible apply st_row); (focus ((repeat' first | (with_reducible first | assumption | apply Own.set | apply Own.new | apply Own.newD | apply Own.drew | apply Row.drew | apply Row.set | apply Row.new | apply Row.newD | apply Own.alloc | apply Row.alloc | apply Own.ne | apply Row.ne | apply Own.row) | (first | omega | (simp only [LN] at *; omega))); done)); (first | omega | (simp only [LN] at *; omega)); rfl) | ((with_reducible first | apply ints_at | apply le_andI | apply le_andN | apply ne_andI); (first | omega | (simp only [LN] at *; omega))) | (with_reducible refine ite_of (fun _ => ?_) (fun _ => ?_)))
    exact tail3 hn2 ih hs hmm he x e w3 (hP.left (by omega) hx hp3 ho3 hm3 hD3) he1 he2 r4 (r2.same fun k k1 k2 => ho3 k (by omega) (by omega)) (r3.same fun k k1 k2 => ho3 k (by omega) (by omega)) (ag.same (by omega) fun k k1 k2 => ho3 k (by omega) (by omega)) hb3 hJ3 (hf2.trans hf3)
  · rename_i g1 g2
    have : s0 = mid := by omega
    subst this
    have core := tail3 (cap := cap) hn2 ih hs hmm he y e w2 hP he1 he2 l1 r2 r3 ag hb2 hJ2 hf2
    unfold t33_3 at core ⊢
    simp only [RA, MI, S.dst, Nat.reduceAdd, Nat.reduceMul, Nat.reduceEqDiff, ↓reduceIte, reduceCtorEq, ne_eq, Nat.reduceLT, Nat.reduceLeDiff, gt_iff_lt, ge_iff_le, Int.reduceToNat, Nat.reduceSub, x33, c33_cut, true_and, ints_ext, ints_set, half] at core ⊢
    exact core
  · rename_i g1
    have : s0 = a := by omega
    subst this
    have core := tail3 (cap := cap) hn2 ih hs hmm he y e w2 hP he1 he2 l2 r2 r3 ag hb2 hJ2 hf2
    unfold t33_3 at core ⊢
    simp only [RA, MI, S.dst, Nat.reduceAdd, Nat.reduceMul, Nat.reduceEqDiff, ↓reduceIte, reduceCtorEq, ne_eq, Nat.reduceLT, Nat.reduceLeDiff, gt_iff_lt, ge_iff_le, Int.reduceToNat, Nat.reduceSub, x33, c33_cut, true_and, ints_ext, ints_set, half] at core ⊢
    exact core

/-- What holds of z, d with the places from s0 up to m and those from m up to e exchanged. -/
theorem sym_part {D : Int → Prop} {lt : Int → Int → Bool} {K : Int → Int} {d z : List Int} {n a m b mid s0 e : Nat} (hm : a < m ∧ m < b ∧ b ≤ n) (hsum : s0 + e = mid + m) (hs : a ≤ s0 ∧ s0 ≤ m ∧ m ≤ e ∧ e ≤ b) (hmid : s0 ≤ mid ∧ mid ≤ e) (hl : z.length = n) (hp : z.Perm d) (hD : ∀ k, k < n → D (g d k))
    (h1 : Rise K d a m) (h2 : Rise K d m b) (h3 : Agree lt K d a m b) (hz : ∀ k, k < n → g z k = roR d s0 m e k)
    (f1 : ∀ i j, a ≤ i → i < s0 → e ≤ j → j < b → K (g d i) < K (g d j)) (f2 : ∀ i j, m ≤ i → i < e → s0 ≤ j → j < m → K (g d i) < K (g d j)) :
    Part D K d z n a mid b ∧ Rise K z a s0 ∧ Rise K z s0 mid ∧ Agree lt K z a s0 mid ∧ Rise K z mid e ∧ Rise K z e b ∧ Agree lt K z mid e b := by
  have z1 : ∀ k, k < n → (k < s0 ∨ e ≤ k) → g z k = g d k := fun k hk h => by
    rw [hz k hk]; unfold roR; rw [if_neg (by omega), if_neg (by omega)]
  have z2 : ∀ k, s0 ≤ k → k < mid → g z k = g d (k + (m - s0)) := fun k x1 x2 => by
    rw [hz k (by omega)]; unfold roR; rw [if_pos (by omega)]
  have z3 : ∀ k, mid ≤ k → k < e → g z k = g d (k - (e - m)) := fun k x1 x2 => by
    rw [hz k (by omega)]; unfold roR; rw [if_neg (by omega), if_pos (by omega)]
  have pl : ∀ k, k < n → ∃ q, g z k = g d q ∧ q < n ∧ (a ≤ k → k < b → a ≤ q ∧ q < b) := by
    intro k hk
    rcases Nat.lt_or_ge k s0 with x | x
    · exact ⟨k, z1 k hk (.inl x), hk, by omega⟩
    rcases Nat.lt_or_ge k mid with y | y
    · exact ⟨_, z2 k x y, by omega, by omega⟩
    rcases Nat.lt_or_ge k e with y2 | y2
    · exact ⟨_, z3 k y y2, by omega, by omega⟩
    · exact ⟨k, z1 k hk (.inr y2), hk, by omega⟩
  refine ⟨⟨hl, hp, fun k hk h => z1 k hk (by omega), fun k x1 x2 => ?_, fun k hk => ?_, fun i j x1 x2 x3 x4 => ?_⟩, fun i j x1 x2 x3 => ?_, fun i j x1 x2 x3 => ?_, fun i j x1 x2 x3 x4 => ?_, fun i j x1 x2 x3 => ?_, fun i j x1 x2 x3 => ?_, fun i j x1 x2 x3 x4 => ?_⟩
  · obtain ⟨q, y1, y2, y3⟩ := pl k (by omega)
    exact ⟨q, (y3 x1 x2).1, (y3 x1 x2).2, y1⟩
  · obtain ⟨q, y1, y2, y3⟩ := pl k hk
    rw [y1]; exact hD q y2
  · rcases Nat.lt_or_ge i s0 with x | x <;> rcases Nat.lt_or_ge j e with y | y
    · rw [z1 i (by omega) (.inl x), z3 j x3 y]; exact h1 _ _ x1 (by omega) (by omega)
    · rw [z1 i (by omega) (.inl x), z1 j (by omega) (.inr y)]; exact f1 _ _ x1 x y x4
    · rw [z2 i x x2, z3 j x3 y]; exact f2 _ _ (by omega) (by omega) (by omega) (by omega)
    · rw [z2 i x x2, z1 j (by omega) (.inr y)]; exact h2 _ _ (by omega) (by omega) (by omega)
  · rw [z1 i (by omega) (by omega), z1 j (by omega) (by omega)]; exact h1 _ _ (by omega) (by omega) (by omega)
  · rw [z2 i (by omega) (by omega), z2 j (by omega) (by omega)]; exact h2 _ _ (by omega) (by omega) (by omega)
  · rw [z1 i (by omega) (by omega), z2 j (by omega) (by omega)]; exact h3 _ _ (by omega) (by omega) (by omega) (by omega)
  · rw [z3 i (by omega) (by omega), z3 j (by omega) (by omega)]; exact h1 _ _ (by omega) (by omega) (by omega)
  · rw [z1 i (by omega) (by omega), z1 j (by omega) (by omega)]; exact h2 _ _ (by omega) (by omega) (by omega)
  · rw [z3 i (by omega) (by omega), z1 j (by omega) (by omega)]; exact h3 _ _ (by omega) (by omega) (by omega) (by omega)

set_option maxHeartbeats 1000000 in
set_option maxRecDepth 10000 in
theorem tail1 {f : Nat} {caps : Array Value} {J : World → Prop} {D : Int → Prop} {lt : Int → Int → Bool} {K : Int → Int} {bk n cap s : Nat} {rest : List Value} (hk : Keeps J bk) (hn2 : n < 1000000) (ih : MergeIh f caps J D lt K bk n cap rest s) {w : World} {a m mid b : Nat} {d : List Int} (hs : b - a ≤ s + 1) (hmm : a < mid ∧ mid < b) (hm : a < m ∧ m < b) (he : b ≤ n)
    (hn : d.length = n) (hD : ∀ k, k < n → D (g d k)) (h1 : Rise K d a m) (h2 : Rise K d m b) (h3 : Agree lt K d a m b) (s0 e : Nat) (w2 : World) (hsum : s0 + e = mid + m) (hs0 : a ≤ s0 ∧ s0 ≤ m ∧ m ≤ e ∧ e ≤ b) (hmid : s0 ≤ mid ∧ mid ≤ e)
    (f1 : ∀ i j, a ≤ i → i < s0 → e ≤ j → j < b → K (g d i) < K (g d j)) (f2 : ∀ i j, m ≤ i → i < e → s0 ≤ j → j < m → K (g d i) < K (g d j))
    (hb2 : Own w2 bk (d.map (Value.int .i64) ++ rest).toArray) (hJ2 : J w2) (hf2 : Fr (· = bk) w w2) :
    vc Try.prog t33_1 (endPost [] (MergePost J D K w bk n a b d rest)) [(0, .slice (some ⟨bk, 0, none⟩) n cap), (1, .int .i64 (a : Int)), (2, .int .i64 (m : Int)), (3, .int .i64 (b : Int)), (4, .func (.func f) #[] caps), (18, .int .i64 (mid : Int)), (20, .int .i64 (s0 : Int)), (24, .int .i64 (e : Int))] w2 := by
  unfold t33_1
  (repeat' first | (simp only [RA, MI, S.dst, Nat.reduceAdd, Nat.reduceMul, Nat.reduceEqDiff, ↓reduceIte, reduceCtorEq, ne_eq, Nat.reduceLT, Nat.reduceLeDiff, gt_iff_lt, ge_iff_le, Int.reduceToNat, Nat.reduceSub, x33, c33_cut, true_and, ints_ext, ints_set, half]) | (first | ((with_reducible apply app_at); (first | omega | (simp only [LN] at *; omega))) | ((with_reducible apply app_st); (focus ((repeat' first | (with_reducible first | assumption | apply Own.set | apply Own.new | apply Own.newD | apply Own.drew | apply Row.drew | apply Row.set | apply Row.new | apply Row.newD | apply Own.alloc | apply Row.alloc | apply Own.ne | apply Row.ne | apply Own.row) | (first | omega | (simp only [LN] at *; omega))); done)); (first | omega | (simp only [LN] at *; omega)))) | ((with_reducible first | apply bound_of | apply wr_i64 | apply wr_u8 | apply wr_u64); (first | omega | (simp only [LN] at *; omega)); (first | omega | (simp only [LN] at *; omega))) | ((with_reducible apply ld_row); (focus ((repeat' first | (with_reducible first | assumption | apply Own.set | apply Own.new | apply Own.newD | apply Own.drew | apply Row.drew | apply Row.set | apply Row.new | apply Row.newD | apply Own.alloc | apply Row.alloc | apply Own.ne | apply Row.ne | apply Own.row) | (first | omega | (simp only [LN] at *; omega))); done))) | ((with_reducible apply ldN_row); (focus ((repeat' first | (with_reducible first | assumption | apply Own.set | apply Own.new | apply Own.newD | apply Own.drew | apply Row.drew | apply Row.set | apply Row.new | apply Row.newD | apply Own.alloc | apply Row.alloc | apply Own.ne | apply Row.ne | apply Own.row) | (first | omega | (simp only [LN] at *; omega))); done)); (first | omega | (simp only [LN] at *; omega))) | ((with_reducible apply st_row); (focus ((repeat' first | (with_reducible first | assumption | apply Own.set | apply Own.new | apply Own.newD | apply Own.drew | apply Row.drew | apply Row.set | apply Row.new | apply Row.newD | apply Own.alloc | apply Row.alloc | apply Own.ne | apply Row.ne | apply Own.row) | (first | omega | (simp only [LN] at *; omega))); done)); (first | omega | (simp only [LN] at *; omega)); rfl) | ((with_reducible first | apply ints_at | apply le_andI | apply le_andN | apply ne_andI); (first | omega | (simp only [LN] at *; omega))) | (with_reducible refine ite_of (fun _ => ?_) (fun _ => ?_)))
  · rename_i g1 g2
    refine calls_mono (rotate_any _ w2 bk n cap s0 m e d rest hn hn2 hb2 (by omega) (by omega) (by omega)) ?_
    rintro _ w3 ⟨rfl, z, hb3, hz, hp3, hg3, hf3⟩
    (repeat' first | (simp only [RA, MI, S.dst, Nat.reduceAdd, Nat.reduceMul, Nat.reduceEqDiff, ↓reduceIte, reduceCtorEq, ne_eq, Nat.reduceLT, Nat.reduceLeDiff, gt_iff_lt, ge_iff_le, Int.reduceToNat, Nat.reduceSub, x33, c33_cut, true_and, ints_ext, ints_set, half]) | (first | ((with_reducible apply app_at); (first | omega | (simp only [LN] at *; omega))) | ((with_reducible apply app_st); (focus ((repeat' first | (with_reducible first | assumption | apply Own.set | apply Own.new | apply Own.newD | apply Own.drew | apply Row.drew | apply Row.set | apply Row.new | apply Row.newD | apply Own.alloc | apply Row.alloc | apply Own.ne | apply Row.ne | apply Own.row) | (first | omega | (simp only [LN] at *; omega))); done)); (first | omega | (simp only [LN] at *; omega)))) | ((with_reducible first | apply bound_of | apply wr_i64 | apply wr_u8 | apply wr_u64); (first | omega | (simp only [LN] at *; omega)); (first | omega | (simp only [LN] at *; omega))) | ((with_reducible apply ld_row); (focus ((repeat' first | (with_reducible first | assumption | apply Own.set | apply Own.new | apply Own.newD | apply Own.drew | apply Row.drew | apply Row.set | apply Row.new | apply Row.newD | apply Own.alloc | apply Row.alloc | apply Own.ne | apply Row.ne | apply Own.row) | (first | omega | (simp only [LN] at *; omega))); done))) | ((with_reducible apply ldN_row); (focus ((repeat' first | (with_reducible first | assumption | apply Own.set | apply Own.new | apply Own.newD | apply Own.drew | apply Row.drew | apply Row.set | apply Row.new | apply Row.newD | apply Own.alloc | apply Row.alloc | apply Own.ne | apply Row.ne | apply Own.row) | (first | omega | (simp only [LN] at *; omega))); done)); (first | omega | (simp only [LN] at *; omega))) | ((with_reducible apply st_row); (focus ((repeat' first | (with_reducible first | assumption | apply Own.set | apply Own.new | apply Own.newD | apply Own.drew | apply Row.drew | apply Row.set | apply Row.new | apply Row.newD | apply Own.alloc | apply Row.alloc | apply Own.ne | apply Row.ne | apply Own.row) | (first | omega | (simp only [LN] at *; omega))); done)); (first | omega | (simp only [LN] at *; omega)); rfl) | ((with_reducible first | apply ints_at | apply le_andI | apply le_andN | apply ne_andI); (first | omega | (simp only [LN] at *; omega))) | (with_reducible refine ite_of (fun _ => ?_) (fun _ => ?_)))
    obtain ⟨p1, p2, p3, p4, p5, p6, p7⟩ := sym_part (by omega) hsum hs0 hmid hz hp3 hD h1 h2 h3 hg3 f1 f2
    exact tail2 hn2 ih hs hmm he z s0 e w3 p1 hmid.2 hs0.2.2.2 hs0.1 hmid.1 p2 p3 p4 p5 p6 p7 hb3 (hk _ _ hJ2 hf3) (hf2.trans hf3)
  · rename_i g1 g2
    have hem : e = m := by omega
    obtain ⟨p1, p2, p3, p4, p5, p6, p7⟩ := sym_part (z := d) (by omega) hsum hs0 hmid hn (.refl _) hD h1 h2 h3 (fun k hk => by
      unfold roR; repeat' split
      all_goals first | (exfalso; omega) | rfl | (congr 1 <;> omega)) f1 f2
    have core := tail2 (cap := cap) hn2 ih hs hmm he d s0 e w2 p1 hmid.2 hs0.2.2.2 hs0.1 hmid.1 p2 p3 p4 p5 p6 p7 hb2 hJ2 hf2
    unfold t33_2 at core ⊢
    simp only [RA, MI, S.dst, Nat.reduceAdd, Nat.reduceMul, Nat.reduceEqDiff, ↓reduceIte, reduceCtorEq, ne_eq, Nat.reduceLT, Nat.reduceLeDiff, gt_iff_lt, ge_iff_le, Int.reduceToNat, Nat.reduceSub, x33, c33_cut, true_and, ints_ext, ints_set, half] at core ⊢
    exact core
  · rename_i g1
    have hsm : s0 = m := by omega
    obtain ⟨p1, p2, p3, p4, p5, p6, p7⟩ := sym_part (z := d) (by omega) hsum hs0 hmid hn (.refl _) hD h1 h2 h3 (fun k hk => by
      unfold roR; repeat' split
      all_goals first | (exfalso; omega) | rfl | (congr 1 <;> omega)) f1 f2
    have core := tail2 (cap := cap) hn2 ih hs hmm he d s0 e w2 p1 hmid.2 hs0.2.2.2 hs0.1 hmid.1 p2 p3 p4 p5 p6 p7 hb2 hJ2 hf2
    unfold t33_2 at core ⊢
    simp only [RA, MI, S.dst, Nat.reduceAdd, Nat.reduceMul, Nat.reduceEqDiff, ↓reduceIte, reduceCtorEq, ne_eq, Nat.reduceLT, Nat.reduceLeDiff, gt_iff_lt, ge_iff_le, Int.reduceToNat, Nat.reduceSub, x33, c33_cut, true_and, ints_ext, ints_set, half] at core ⊢
    exact core
end Go.Proofs.Ytomckpllbihikaa
