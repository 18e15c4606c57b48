/-
  Layer 5: huff.New, Code.
-/
import Derived.Test.YtomckpllbihikaaB1
import Derived.Test.YtomckpllbihikaaXR
set_option autoImplicit false
set_option linter.unusedSimpArgs false
set_option linter.unusedVariables false
namespace Go.Proofs.Ytomckpllbihikaa
open X

/-- A table's cells: counts, symbols; then 256 codes of two numbers, 17 first codes, 17 places. -/
def hcells (cnt : List Int) (s : ByteArray) (m : List Int) : Array Value := (cnt.map (Value.int .u8) ++ (.string s :: m.map (Value.int .i64))).toArray
def sb (s : ByteArray) (i : Nat) : Nat := (s.data.toList.getD i 0).toNat
theorem sb_fold (s : ByteArray) (i : Nat) : (s.data.toList.getD i 0).toNat = sb s i := rfl
theorem sb_lt (s : ByteArray) (i : Nat) : sb s i < 256 := UInt8.toNat_lt _

theorem hc_size (cnt : List Int) (s : ByteArray) (m : List Int) : (hcells cnt s m).size = cnt.length + 1 + m.length := by simp [hcells]; omega
theorem hc_at {cnt : List Int} {s : ByteArray} {m : List Int} (hc : cnt.length = 16) {i : Nat} {K : Value → Prop} (h : 17 ≤ i) (hi : i - 17 < m.length) (hk : K (.int .i64 (g m (i - 17)))) : At (hcells cnt s m) i K := by
  refine at_of (v := .int .i64 (g m (i - 17))) ?_ hk
  obtain ⟨j, rfl⟩ : ∃ j, i = 17 + j := ⟨i - 17, by omega⟩
  have hj : j < m.length := by omega
  have e : 17 + j - 17 = j := by omega
  rw [e]
  simp only [hcells, List.getElem?_toArray]
  rw [List.getElem?_append_right (by simp; omega)]
  have e2 : 17 + j - (cnt.map (Value.int .u8)).length = j + 1 := by simp; omega
  rw [e2, List.getElem?_cons_succ]
  simp [g, List.getD, hj]
theorem hc_set {cnt : List Int} {s : ByteArray} {m : List Int} (hc : cnt.length = 16) {i : Nat} (h : 17 ≤ i) (v : Int) : (hcells cnt s m).setIfInBounds i (.int .i64 v) = hcells cnt s (m.set (i - 17) v) := by
  obtain ⟨j, rfl⟩ : ∃ j, i = 17 + j := ⟨i - 17, by omega⟩
  have e : 17 + j - 17 = j := by omega
  rw [e]
  apply Array.ext'
  simp only [hcells, List.setIfInBounds_toArray]
  rw [List.set_append_right _ _ (by simp; omega)]
  have e2 : 17 + j - (cnt.map (Value.int .u8)).length = j + 1 := by simp; omega
  rw [e2, List.set_cons_succ, ← List.map_set]
theorem hc_st {cnt : List Int} {s : ByteArray} {m : List Int} (hc : cnt.length = 16) {w : World} {b i : Nat} {v : Int} {K : World → Prop} (ho : Own w b (hcells cnt s m)) (h : 17 ≤ i) (hi : i - 17 < m.length)
    (hk : K (w.setRow b (hcells cnt s (m.set (i - 17) v)))) : St w ⟨b, i, none⟩ (.int .i64 v) K :=
  st_row ho (by rw [hc_size]; omega) rfl (by rw [hc_set hc h]; exact hk)
theorem over_two (C : Array Value) (o : Nat) (u v : Value) (h : o + 2 ≤ C.size) : over C o [u, v] = (C.setIfInBounds o u).setIfInBounds (o + 1) v := by
  apply Array.ext_getElem?
  intro k
  have hs : C.toList.length = C.size := rfl
  simp only [over, List.getElem?_toArray, Array.getElem?_setIfInBounds, Array.size_setIfInBounds]
  rcases Nat.lt_or_ge k o with h1 | h1
  · rw [List.append_assoc, List.getElem?_append_left (by simp; omega), if_neg (by omega), if_neg (by omega), List.getElem?_take, if_pos h1]; simp
  · rw [List.append_assoc, List.getElem?_append_right (by simp; omega)]
    have e : k - (C.toList.take o).length = k - o := by simp; omega
    rw [e]
    obtain ⟨j, rfl⟩ : ∃ j, k = o + j := ⟨k - o, by omega⟩
    have e2 : o + j - o = j := by omega
    rw [e2]
    match j with
    | 0 => rw [if_neg (by omega), if_pos (by omega), if_pos (by omega)]; rfl
    | 1 => rw [if_pos rfl, if_pos (by omega)]; rfl
    | j + 2 =>
      rw [if_neg (by omega), if_neg (by omega)]
      simp only [List.cons_append, List.nil_append, List.getElem?_cons_succ, List.length_cons, List.length_nil, List.getElem?_drop]
      have e3 : o + (0 + 1 + 1) + j = o + (j + 2) := by omega
      rw [e3]; simp
theorem hc_stN {cnt : List Int} {s : ByteArray} {m : List Int} (hc : cnt.length = 16) {w : World} {b i : Nat} {u v : Int} {K : World → Prop} (ho : Own w b (hcells cnt s m)) (h : 17 ≤ i) (hi : i - 17 + 1 < m.length)
    (hk : K (w.setRow b (hcells cnt s ((m.set (i - 17) u).set (i - 17 + 1) v)))) : StN w ⟨b, i, none⟩ [.int .i64 u, .int .i64 v] K := by
  have hsz := hc_size cnt s m
  refine stN_row ho (by simp; omega) (by intro x hx; simp at hx; rcases hx with rfl | rfl <;> rfl) ?_
  rw [over_two _ _ _ _ (by omega), hc_set hc h, hc_set hc (by omega)]
  have e : i + 1 - 17 = i - 17 + 1 := by omega
  rw [e]; exact hk

theorem list16 {α : Type} (l : List α) (h : l.length = 16) : ∃ a0 a1 a2 a3 a4 a5 a6 a7 a8 a9 b0 b1 b2 b3 b4 b5, l = [a0, a1, a2, a3, a4, a5, a6, a7, a8, a9, b0, b1, b2, b3, b4, b5] := by
  match l, h with
  | [a0, a1, a2, a3, a4, a5, a6, a7, a8, a9, b0, b1, b2, b3, b4, b5], _ => exact ⟨_, _, _, _, _, _, _, _, _, _, _, _, _, _, _, _, rfl⟩
theorem hc_build0 (a0 a1 a2 a3 a4 a5 a6 a7 a8 a9 b0 b1 b2 b3 b4 b5 : Int) (s : ByteArray) :
    putc (putc (zcells Try.prog 62) 0 (ints .u8 [a0, a1, a2, a3, a4, a5, a6, a7, a8, a9, b0, b1, b2, b3, b4, b5])) 16 #[.string s] = hcells [a0, a1, a2, a3, a4, a5, a6, a7, a8, a9, b0, b1, b2, b3, b4, b5] s (List.replicate 546 0) := by kernel_rfl
theorem hc_zsize : (zcells Try.prog 62).size = 563 := by kernel_rfl
theorem putc_size (v : Array Value) (off : Nat) (cs : Array Value) : (putc cs off v).size = cs.size := by
  unfold putc
  rw [← Array.foldl_toList]
  generalize v.zipIdx.toList = l
  induction l generalizing cs with
  | nil => rfl
  | cons x l ih => rw [List.foldl_cons, ih]; simp
theorem hc_build {cnt : List Int} (hc : cnt.length = 16) {s : ByteArray} : putc (putc (zcells Try.prog 62) 0 (ints .u8 cnt)) 16 #[.string s] = hcells cnt s (List.replicate 546 0) := by
  obtain ⟨a0, a1, a2, a3, a4, a5, a6, a7, a8, a9, b0, b1, b2, b3, b4, b5, rfl⟩ := list16 cnt hc
  exact hc_build0 _ _ _ _ _ _ _ _ _ _ _ _ _ _ _ _ _

/-- The codes of one length: next code, place, table. -/
def hIn (s : ByteArray) (n : Nat) : Nat → Nat → Nat → List Int → Option (Nat × Nat × List Int)
  | 0, nx, at', m => some (nx, at', m)
  | c + 1, nx, at', m => if s.size ≤ at' ∨ 2 ^ n - 1 ≤ nx ∨ 0 < g m (2 * sb s at' + 1) then none
    else hIn s n c (nx + 1) (at' + 1) ((m.set (2 * sb s at') nx).set (2 * sb s at' + 1) n)
def hOut (cnt : List Int) (s : ByteArray) : Nat → Nat → Nat → List Int → Option (Nat × Nat × List Int)
  | 0, nx, at', m => some (nx, at', m)
  | r + 1, nx, at', m => match hIn s (16 - r) (g cnt (15 - r)).toNat (2 * nx) at' ((m.set (512 + (16 - r)) (2 * nx : Nat)).set (529 + (16 - r)) at') with
    | none => none
    | some (nx, at', m) => hOut cnt s r nx at' m
def hNew (cnt : List Int) (s : ByteArray) : Option (List Int) :=
  match hOut cnt s 16 0 0 (List.replicate 546 0) with
  | none => none
  | some (_, at', m) => if at' = 0 ∨ at' ≠ s.size then none else some m

def NewPost (w : World) (cnt : List Int) (s : ByteArray) : Option (List Int) → Ending → World → Prop
  | none => fun e w' => e = .returned (.tuple #[.pointer none, .int .i64 5]) ∧ Fr no w w'
  | some m => fun e w' => ∃ b, w.heap.size ≤ b ∧ e = .returned (.tuple #[.pointer (some ⟨b, 0, none⟩), .int .i64 0]) ∧ m.length = 546 ∧ Own w' b (hcells cnt s m) ∧ Fr no w w'

theorem code_sz : (zcells Try.prog 58).size = 2 := by kernel_rfl
theorem code_put (a b : Value) : putc (putc (zcells Try.prog 58) 0 #[a]) 1 #[b] = #[a, b] := by kernel_rfl
theorem sh_one (nx : Nat) : ((nx : Int) * 2 ^ min 1 IntKind.i64.bits) = ((2 * nx : Nat) : Int) := by
  have : min 1 IntKind.i64.bits = 1 := by decide
  rw [this]; omega
theorem sh_by (n : Nat) : ((1 : Int) * 2 ^ min n IntKind.i64.bits) = ((2 ^ min n 64 : Nat) : Int) := by
  rw [Int.one_mul, Int.natCast_pow]; rfl

set_option maxRecDepth 10000 in
theorem New_any (w : World) (cnt : List Int) (s : ByteArray) (hc : cnt.length = 16) (hcb : ∀ i, 0 ≤ g cnt i ∧ g cnt i ≤ 255) (hs : s.size < 4000000000000000000) (Z : Option (List Int)) (hZ : hNew cnt s = Z) :
    Calls Try.prog 11 [.agg (ints .u8 cnt), .string s].toArray w (NewPost w cnt s Z) := by
  refine enter11 (by simp) ?_
  have hx : cnt.take 16 = cnt := List.take_of_length_le (by omega)
  (repeat' first | (simp only [RA, MI, S.dst, Nat.reduceAdd, Nat.reduceMul, Nat.reduceEqDiff, ↓reduceIte, reduceCtorEq, ne_eq, Nat.reduceLT, Nat.reduceLeDiff, gt_iff_lt, ge_iff_le, Int.reduceToNat, Nat.reduceSub, c11, x11, ints_ext, ints_set, sb_fold, sh_one, sh_by, code_sz, code_put, putc_size, hc_zsize, ints_size, true_and]) | (first | ((with_reducible apply hc_at); assumption; (first | omega | (simp only [LN] at *; omega)); (first | omega | (simp only [LN] at *; omega))) | ((with_reducible apply hc_st); assumption; (focus ((repeat' first | (with_reducible first | assumption | apply Own.set | apply Own.new | apply Own.newD | apply Own.drew | apply Row.drew | apply Row.set | apply Row.new | apply Row.newD | apply Own.alloc | apply Row.alloc | apply Own.ne | apply Row.ne | apply Own.row) | (first | omega | (simp only [LN] at *; omega))); done)); (first | omega | (simp only [LN] at *; omega)); (first | omega | (simp only [LN] at *; omega))) | ((with_reducible apply hc_stN); assumption; (focus ((repeat' first | (with_reducible first | assumption | apply Own.set | apply Own.new | apply Own.newD | apply Own.drew | apply Row.drew | apply Row.set | apply Row.new | apply Row.newD | apply Own.alloc | apply Row.alloc | apply Own.ne | apply Row.ne | apply Own.row) | (first | omega | (simp only [LN] at *; omega))); done)); (first | omega | (simp only [LN] at *; omega)); (first | omega | (simp only [LN] at *; omega)))) | ((with_reducible first | apply bound_of | apply wr_i64 | apply wr_u8 | apply wr_u64); (first | omega | (simp only [LN] at *; omega)); (first | omega | (simp only [LN] at *; omega))) | ((with_reducible apply ld_row); (focus ((repeat' first | (with_reducible first | assumption | apply Own.set | apply Own.new | apply Own.newD | apply Own.drew | apply Row.drew | apply Row.set | apply Row.new | apply Row.newD | apply Own.alloc | apply Row.alloc | apply Own.ne | apply Row.ne | apply Own.row) | (first | omega | (simp only [LN] at *; omega))); done))) | ((with_reducible apply ldN_row); (focus ((repeat' first | (with_reducible first | assumption | apply Own.set | apply Own.new | apply Own.newD | apply Own.drew | apply Row.drew | apply Row.set | apply Row.new | apply Row.newD | apply Own.alloc | apply Row.alloc | apply Own.ne | apply Row.ne | apply Own.row) | (first | omega | (simp only [LN] at *; omega))); done)); (first | omega | (simp only [LN] at *; omega))) | ((with_reducible apply st_row); (focus ((repeat' first | (with_reducible first | assumption | apply Own.set | apply Own.new | apply Own.newD | apply Own.drew | apply Row.drew | apply Row.set | apply Row.new | apply Row.newD | apply Own.alloc | apply Row.alloc | apply Own.ne | apply Row.ne | apply Own.row) | (first | omega | (simp only [LN] at *; omega))); done)); (first | omega | (simp only [LN] at *; omega)); rfl) | ((with_reducible first | apply ints_at | apply le_andI | apply le_andN | apply ne_andI); (first | omega | (simp only [LN] at *; omega))) | (with_reducible refine ite_of (fun _ => ?_) (fun _ => ?_)))
  simp only [hx]
  refine ⟨hc, ?_⟩
  rw [hc_build hc]
  have hbx : Own ((w.alloc (Obj.cells (ints .u8 cnt) 23)).alloc (Obj.cells (hcells cnt s (List.replicate 546 0)) 62)) w.heap.size (ints .u8 cnt) := by (focus ((repeat' first | (with_reducible first | assumption | apply Own.set | apply Own.new | apply Own.newD | apply Own.drew | apply Row.drew | apply Row.set | apply Row.new | apply Row.newD | apply Own.alloc | apply Row.alloc | apply Own.ne | apply Row.ne | apply Own.row) | (first | omega | (simp only [LN] at *; omega))); done))
  have hbt : Own ((w.alloc (Obj.cells (ints .u8 cnt) 23)).alloc (Obj.cells (hcells cnt s (List.replicate 546 0)) 62)) (w.alloc (Obj.cells (ints .u8 cnt) 23)).heap.size (hcells cnt s (List.replicate 546 0)) := by (focus ((repeat' first | (with_reducible first | assumption | apply Own.set | apply Own.new | apply Own.newD | apply Own.drew | apply Row.drew | apply Row.set | apply Row.new | apply Row.newD | apply Own.alloc | apply Row.alloc | apply Own.ne | apply Row.ne | apply Own.row) | (first | omega | (simp only [LN] at *; omega))); done))
  have hfr : Fr no w ((w.alloc (Obj.cells (ints .u8 cnt) 23)).alloc (Obj.cells (hcells cnt s (List.replicate 546 0)) 62)) := ((Fr.refl _ _).alloc _).alloc _
  have hlt : w.heap.size < (w.alloc (Obj.cells (ints .u8 cnt) 23)).heap.size := by simp
  generalize (w.alloc (Obj.cells (ints .u8 cnt) 23)).heap.size = bt at *
  generalize hw1 : ((w.alloc (Obj.cells (ints .u8 cnt) 23)).alloc (Obj.cells (hcells cnt s (List.replicate 546 0)) 62)) = w1 at *
  clear hw1
  refine loop_of (σ := Nat × Nat × Nat × List Int)
    (fun t => [(1, .string s), (2, .pointer (some ⟨w.heap.size, 0, none⟩)), (6, .pointer (some ⟨bt, 0, none⟩)), (7, .int .i64 (t.2.1 : Int)), (8, .int .i64 (t.2.2.1 : Int)), (9, .int .i64 ((17 - t.1 : Nat) : Int))])
    (fun t w' => t.1 ≤ 16 ∧ t.2.1 ≤ 2 ^ (16 - t.1) ∧ t.2.2.1 ≤ s.size ∧ t.2.2.2.length = 546 ∧ Own w' w.heap.size (ints .u8 cnt) ∧ Own w' bt (hcells cnt s t.2.2.2) ∧ Fr no w w' ∧
      (match hOut cnt s t.1 t.2.1 t.2.2.1 t.2.2.2 with | none => none | some (_, at', m) => if at' = 0 ∨ at' ≠ s.size then none else some m) = Z)
    (fun t => t.1) (16, 0, 0, List.replicate 546 0) rfl ⟨Nat.le_refl _, by simp, by simp, by simp, hbx, hbt, hfr, hZ⟩ ?_
  rintro ⟨r, nx, at', m⟩ w' ⟨h1, h2, h3, h4, hbx, hbt, hfr, hr⟩
  dsimp only at *
  (repeat' first | (simp only [RA, MI, S.dst, Nat.reduceAdd, Nat.reduceMul, Nat.reduceEqDiff, ↓reduceIte, reduceCtorEq, ne_eq, Nat.reduceLT, Nat.reduceLeDiff, gt_iff_lt, ge_iff_le, Int.reduceToNat, Nat.reduceSub, c11, x11, ints_ext, ints_set, sb_fold, sh_one, sh_by, code_sz, code_put, putc_size, hc_zsize, ints_size, true_and]) | (first | ((with_reducible apply hc_at); assumption; (first | omega | (simp only [LN] at *; omega)); (first | omega | (simp only [LN] at *; omega))) | ((with_reducible apply hc_st); assumption; (focus ((repeat' first | (with_reducible first | assumption | apply Own.set | apply Own.new | apply Own.newD | apply Own.drew | apply Row.drew | apply Row.set | apply Row.new | apply Row.newD | apply Own.alloc | apply Row.alloc | apply Own.ne | apply Row.ne | apply Own.row) | (first | omega | (simp only [LN] at *; omega))); done)); (first | omega | (simp only [LN] at *; omega)); (first | omega | (simp only [LN] at *; omega))) | ((with_reducible apply hc_stN); assumption; (focus ((repeat' first | (with_reducible first | assumption | apply Own.set | apply Own.new | apply Own.newD | apply Own.drew | apply Row.drew | apply Row.set | apply Row.new | apply Row.newD | apply Own.alloc | apply Row.alloc | apply Own.ne | apply Row.ne | apply Own.row) | (first | omega | (simp only [LN] at *; omega))); done)); (first | omega | (simp only [LN] at *; omega)); (first | omega | (simp only [LN] at *; omega)))) | ((with_reducible first | apply bound_of | apply wr_i64 | apply wr_u8 | apply wr_u64); (first | omega | (simp only [LN] at *; omega)); (first | omega | (simp only [LN] at *; omega))) | ((with_reducible apply ld_row); (focus ((repeat' first | (with_reducible first | assumption | apply Own.set | apply Own.new | apply Own.newD | apply Own.drew | apply Row.drew | apply Row.set | apply Row.new | apply Row.newD | apply Own.alloc | apply Row.alloc | apply Own.ne | apply Row.ne | apply Own.row) | (first | omega | (simp only [LN] at *; omega))); done))) | ((with_reducible apply ldN_row); (focus ((repeat' first | (with_reducible first | assumption | apply Own.set | apply Own.new | apply Own.newD | apply Own.drew | apply Row.drew | apply Row.set | apply Row.new | apply Row.newD | apply Own.alloc | apply Row.alloc | apply Own.ne | apply Row.ne | apply Own.row) | (first | omega | (simp only [LN] at *; omega))); done)); (first | omega | (simp only [LN] at *; omega))) | ((with_reducible apply st_row); (focus ((repeat' first | (with_reducible first | assumption | apply Own.set | apply Own.new | apply Own.newD | apply Own.drew | apply Row.drew | apply Row.set | apply Row.new | apply Row.newD | apply Own.alloc | apply Row.alloc | apply Own.ne | apply Row.ne | apply Own.row) | (first | omega | (simp only [LN] at *; omega))); done)); (first | omega | (simp only [LN] at *; omega)); rfl) | ((with_reducible first | apply ints_at | apply le_andI | apply le_andN | apply ne_andI); (first | omega | (simp only [LN] at *; omega))) | (with_reducible refine ite_of (fun _ => ?_) (fun _ => ?_)))
  · rename_i hle
    obtain ⟨r, rfl⟩ : ∃ r', r = r' + 1 := ⟨r - 1, by omega⟩
    have hn : 17 - (r + 1) = 16 - r := by omega
    have hp1 : 2 ^ (16 - (r + 1)) ≤ 2 ^ 16 := Nat.pow_le_pow_right (by decide) (by omega)
    have hp2 : 2 * nx ≤ 2 ^ (16 - r) := by
      have : 16 - r = (16 - (r + 1)) + 1 := by omega
      rw [this, Nat.pow_succ]; omega
    have hp3 : 2 ^ (16 - r) ≤ 65536 := Nat.le_trans (Nat.pow_le_pow_right (by decide) (by omega : 16 - r ≤ 16)) (by decide)
    have hmn : min (16 - r) 64 = 16 - r := by omega
    have hr' : r = 16 - (16 - r) := by omega
    simp only [hOut] at hr
    rw [hn] at hle ⊢
    generalize hN : 16 - r = N at *
    (repeat' first | (simp only [RA, MI, S.dst, Nat.reduceAdd, Nat.reduceMul, Nat.reduceEqDiff, ↓reduceIte, reduceCtorEq, ne_eq, Nat.reduceLT, Nat.reduceLeDiff, gt_iff_lt, ge_iff_le, Int.reduceToNat, Nat.reduceSub, c11, x11, ints_ext, ints_set, sb_fold, sh_one, sh_by, code_sz, code_put, putc_size, hc_zsize, ints_size, true_and]) | (first | ((with_reducible apply hc_at); assumption; (first | omega | (simp only [LN] at *; omega)); (first | omega | (simp only [LN] at *; omega))) | ((with_reducible apply hc_st); assumption; (focus ((repeat' first | (with_reducible first | assumption | apply Own.set | apply Own.new | apply Own.newD | apply Own.drew | apply Row.drew | apply Row.set | apply Row.new | apply Row.newD | apply Own.alloc | apply Row.alloc | apply Own.ne | apply Row.ne | apply Own.row) | (first | omega | (simp only [LN] at *; omega))); done)); (first | omega | (simp only [LN] at *; omega)); (first | omega | (simp only [LN] at *; omega))) | ((with_reducible apply hc_stN); assumption; (focus ((repeat' first | (with_reducible first | assumption | apply Own.set | apply Own.new | apply Own.newD | apply Own.drew | apply Row.drew | apply Row.set | apply Row.new | apply Row.newD | apply Own.alloc | apply Row.alloc | apply Own.ne | apply Row.ne | apply Own.row) | (first | omega | (simp only [LN] at *; omega))); done)); (first | omega | (simp only [LN] at *; omega)); (first | omega | (simp only [LN] at *; omega)))) | ((with_reducible first | apply bound_of | apply wr_i64 | apply wr_u8 | apply wr_u64); (first | omega | (simp only [LN] at *; omega)); (first | omega | (simp only [LN] at *; omega))) | ((with_reducible apply ld_row); (focus ((repeat' first | (with_reducible first | assumption | apply Own.set | apply Own.new | apply Own.newD | apply Own.drew | apply Row.drew | apply Row.set | apply Row.new | apply Row.newD | apply Own.alloc | apply Row.alloc | apply Own.ne | apply Row.ne | apply Own.row) | (first | omega | (simp only [LN] at *; omega))); done))) | ((with_reducible apply ldN_row); (focus ((repeat' first | (with_reducible first | assumption | apply Own.set | apply Own.new | apply Own.newD | apply Own.drew | apply Row.drew | apply Row.set | apply Row.new | apply Row.newD | apply Own.alloc | apply Row.alloc | apply Own.ne | apply Row.ne | apply Own.row) | (first | omega | (simp only [LN] at *; omega))); done)); (first | omega | (simp only [LN] at *; omega))) | ((with_reducible apply st_row); (focus ((repeat' first | (with_reducible first | assumption | apply Own.set | apply Own.new | apply Own.newD | apply Own.drew | apply Row.drew | apply Row.set | apply Row.new | apply Row.newD | apply Own.alloc | apply Row.alloc | apply Own.ne | apply Row.ne | apply Own.row) | (first | omega | (simp only [LN] at *; omega))); done)); (first | omega | (simp only [LN] at *; omega)); rfl) | ((with_reducible first | apply ints_at | apply le_andI | apply le_andN | apply ne_andI); (first | omega | (simp only [LN] at *; omega))) | (with_reducible refine ite_of (fun _ => ?_) (fun _ => ?_)))
    have i1 : ((N : Int) - 1).toNat = 15 - r := by omega
    have i2 : 529 + N - 17 = 512 + N := by omega
    have i3 : 546 + N - 17 = 529 + N := by omega
    simp only [i1, i2, i3]
    (repeat' first | (simp only [RA, MI, S.dst, Nat.reduceAdd, Nat.reduceMul, Nat.reduceEqDiff, ↓reduceIte, reduceCtorEq, ne_eq, Nat.reduceLT, Nat.reduceLeDiff, gt_iff_lt, ge_iff_le, Int.reduceToNat, Nat.reduceSub, c11, x11, ints_ext, ints_set, sb_fold, sh_one, sh_by, code_sz, code_put, putc_size, hc_zsize, ints_size, true_and]) | (first | ((with_reducible apply hc_at); assumption; (first | omega | (simp only [LN] at *; omega)); (first | omega | (simp only [LN] at *; omega))) | ((with_reducible apply hc_st); assumption; (focus ((repeat' first | (with_reducible first | assumption | apply Own.set | apply Own.new | apply Own.newD | apply Own.drew | apply Row.drew | apply Row.set | apply Row.new | apply Row.newD | apply Own.alloc | apply Row.alloc | apply Own.ne | apply Row.ne | apply Own.row) | (first | omega | (simp only [LN] at *; omega))); done)); (first | omega | (simp only [LN] at *; omega)); (first | omega | (simp only [LN] at *; omega))) | ((with_reducible apply hc_stN); assumption; (focus ((repeat' first | (with_reducible first | assumption | apply Own.set | apply Own.new | apply Own.newD | apply Own.drew | apply Row.drew | apply Row.set | apply Row.new | apply Row.newD | apply Own.alloc | apply Row.alloc | apply Own.ne | apply Row.ne | apply Own.row) | (first | omega | (simp only [LN] at *; omega))); done)); (first | omega | (simp only [LN] at *; omega)); (first | omega | (simp only [LN] at *; omega)))) | ((with_reducible first | apply bound_of | apply wr_i64 | apply wr_u8 | apply wr_u64); (first | omega | (simp only [LN] at *; omega)); (first | omega | (simp only [LN] at *; omega))) | ((with_reducible apply ld_row); (focus ((repeat' first | (with_reducible first | assumption | apply Own.set | apply Own.new | apply Own.newD | apply Own.drew | apply Row.drew | apply Row.set | apply Row.new | apply Row.newD | apply Own.alloc | apply Row.alloc | apply Own.ne | apply Row.ne | apply Own.row) | (first | omega | (simp only [LN] at *; omega))); done))) | ((with_reducible apply ldN_row); (focus ((repeat' first | (with_reducible first | assumption | apply Own.set | apply Own.new | apply Own.newD | apply Own.drew | apply Row.drew | apply Row.set | apply Row.new | apply Row.newD | apply Own.alloc | apply Row.alloc | apply Own.ne | apply Row.ne | apply Own.row) | (first | omega | (simp only [LN] at *; omega))); done)); (first | omega | (simp only [LN] at *; omega))) | ((with_reducible apply st_row); (focus ((repeat' first | (with_reducible first | assumption | apply Own.set | apply Own.new | apply Own.newD | apply Own.drew | apply Row.drew | apply Row.set | apply Row.new | apply Row.newD | apply Own.alloc | apply Row.alloc | apply Own.ne | apply Row.ne | apply Own.row) | (first | omega | (simp only [LN] at *; omega))); done)); (first | omega | (simp only [LN] at *; omega)); rfl) | ((with_reducible first | apply ints_at | apply le_andI | apply le_andN | apply ne_andI); (first | omega | (simp only [LN] at *; omega))) | (with_reducible refine ite_of (fun _ => ?_) (fun _ => ?_)))
    have hcn := hcb (15 - r)
    refine loop_of (σ := Nat × Nat × Nat × List Int)
      (fun t => [(1, .string s), (2, .pointer (some ⟨w.heap.size, 0, none⟩)), (6, .pointer (some ⟨bt, 0, none⟩)), (7, .int .i64 (t.2.1 : Int)), (8, .int .i64 (t.2.2.1 : Int)), (9, .int .i64 (N : Int)),
        (35, .int .u8 (g cnt (15 - r))), (36, .int .u8 (g cnt (15 - r) - t.1))])
      (fun t w' => t.1 ≤ (g cnt (15 - r)).toNat ∧ t.2.1 ≤ 2 ^ N ∧ t.2.2.1 ≤ s.size ∧ t.2.2.2.length = 546 ∧ Own w' w.heap.size (ints .u8 cnt) ∧ Own w' bt (hcells cnt s t.2.2.2) ∧ Fr no w w' ∧
        (match (match hIn s N t.1 t.2.1 t.2.2.1 t.2.2.2 with | none => none | some (nx, at', m) => hOut cnt s r nx at' m) with | none => none | some (_, at', m) => if at' = 0 ∨ at' ≠ s.size then none else some m) = Z)
      (fun t => t.1) ((g cnt (15 - r)).toNat, 2 * nx, at', (m.set (512 + N) (2 * nx : Nat)).set (529 + N) at') ?_ ⟨Nat.le_refl _, hp2, h3, by simp [h4], ?_, ?_, ?_, hr⟩ ?_
    · simp only [List.cons.injEq, Prod.mk.injEq, Value.int.injEq, true_and, and_true]; omega
    · (focus ((repeat' first | (with_reducible first | assumption | apply Own.set | apply Own.new | apply Own.newD | apply Own.drew | apply Row.drew | apply Row.set | apply Row.new | apply Row.newD | apply Own.alloc | apply Row.alloc | apply Own.ne | apply Row.ne | apply Own.row) | (first | omega | (simp only [LN] at *; omega))); done))
    · (focus ((repeat' first | (with_reducible first | assumption | apply Own.set | apply Own.new | apply Own.newD | apply Own.drew | apply Row.drew | apply Row.set | apply Row.new | apply Row.newD | apply Own.alloc | apply Row.alloc | apply Own.ne | apply Row.ne | apply Own.row) | (first | omega | (simp only [LN] at *; omega))); done))
    · repeat' first | (apply Fr.setRow) | (apply Fr.drew) | exact hfr
      all_goals intro hb; omega
    clear hr hbx hbt hfr h4 h3 hp2 h2
    rintro ⟨c, nx, at', m⟩ w' ⟨h1, h2, h3, h4, hbx, hbt, hfr, hr⟩
    dsimp only at *
    generalize hCN : g cnt (15 - r) = CN at *
    have hsb := sb_lt s at'
    have e1 : 17 + sb s at' * 2 + 1 - 17 = 2 * sb s at' + 1 := by omega
    have e2 : 17 + sb s at' * 2 - 17 = 2 * sb s at' := by omega
    have hP1 : 1 ≤ 2 ^ N := Nat.pow_pos (by decide)
    (repeat' first | (simp only [RA, MI, S.dst, Nat.reduceAdd, Nat.reduceMul, Nat.reduceEqDiff, ↓reduceIte, reduceCtorEq, ne_eq, Nat.reduceLT, Nat.reduceLeDiff, gt_iff_lt, ge_iff_le, Int.reduceToNat, Nat.reduceSub, c11, x11, ints_ext, ints_set, sb_fold, sh_one, sh_by, code_sz, code_put, putc_size, hc_zsize, ints_size, true_and]) | (first | ((with_reducible apply hc_at); assumption; (first | omega | (simp only [LN] at *; omega)); (first | omega | (simp only [LN] at *; omega))) | ((with_reducible apply hc_st); assumption; (focus ((repeat' first | (with_reducible first | assumption | apply Own.set | apply Own.new | apply Own.newD | apply Own.drew | apply Row.drew | apply Row.set | apply Row.new | apply Row.newD | apply Own.alloc | apply Row.alloc | apply Own.ne | apply Row.ne | apply Own.row) | (first | omega | (simp only [LN] at *; omega))); done)); (first | omega | (simp only [LN] at *; omega)); (first | omega | (simp only [LN] at *; omega))) | ((with_reducible apply hc_stN); assumption; (focus ((repeat' first | (with_reducible first | assumption | apply Own.set | apply Own.new | apply Own.newD | apply Own.drew | apply Row.drew | apply Row.set | apply Row.new | apply Row.newD | apply Own.alloc | apply Row.alloc | apply Own.ne | apply Row.ne | apply Own.row) | (first | omega | (simp only [LN] at *; omega))); done)); (first | omega | (simp only [LN] at *; omega)); (first | omega | (simp only [LN] at *; omega)))) | ((with_reducible first | apply bound_of | apply wr_i64 | apply wr_u8 | apply wr_u64); (first | omega | (simp only [LN] at *; omega)); (first | omega | (simp only [LN] at *; omega))) | ((with_reducible apply ld_row); (focus ((repeat' first | (with_reducible first | assumption | apply Own.set | apply Own.new | apply Own.newD | apply Own.drew | apply Row.drew | apply Row.set | apply Row.new | apply Row.newD | apply Own.alloc | apply Row.alloc | apply Own.ne | apply Row.ne | apply Own.row) | (first | omega | (simp only [LN] at *; omega))); done))) | ((with_reducible apply ldN_row); (focus ((repeat' first | (with_reducible first | assumption | apply Own.set | apply Own.new | apply Own.newD | apply Own.drew | apply Row.drew | apply Row.set | apply Row.new | apply Row.newD | apply Own.alloc | apply Row.alloc | apply Own.ne | apply Row.ne | apply Own.row) | (first | omega | (simp only [LN] at *; omega))); done)); (first | omega | (simp only [LN] at *; omega))) | ((with_reducible apply st_row); (focus ((repeat' first | (with_reducible first | assumption | apply Own.set | apply Own.new | apply Own.newD | apply Own.drew | apply Row.drew | apply Row.set | apply Row.new | apply Row.newD | apply Own.alloc | apply Row.alloc | apply Own.ne | apply Row.ne | apply Own.row) | (first | omega | (simp only [LN] at *; omega))); done)); (first | omega | (simp only [LN] at *; omega)); rfl) | ((with_reducible first | apply ints_at | apply le_andI | apply le_andN | apply ne_andI); (first | omega | (simp only [LN] at *; omega))) | (with_reducible refine ite_of (fun _ => ?_) (fun _ => ?_)))
    · rename_i hcc hat
      obtain ⟨c, rfl⟩ : ∃ c', c = c' + 1 := ⟨c - 1, by omega⟩
      rw [hmn]
      simp only [hIn] at hr
      (repeat' first | (simp only [RA, MI, S.dst, Nat.reduceAdd, Nat.reduceMul, Nat.reduceEqDiff, ↓reduceIte, reduceCtorEq, ne_eq, Nat.reduceLT, Nat.reduceLeDiff, gt_iff_lt, ge_iff_le, Int.reduceToNat, Nat.reduceSub, c11, x11, ints_ext, ints_set, sb_fold, sh_one, sh_by, code_sz, code_put, putc_size, hc_zsize, ints_size, true_and]) | (first | ((with_reducible apply hc_at); assumption; (first | omega | (simp only [LN] at *; omega)); (first | omega | (simp only [LN] at *; omega))) | ((with_reducible apply hc_st); assumption; (focus ((repeat' first | (with_reducible first | assumption | apply Own.set | apply Own.new | apply Own.newD | apply Own.drew | apply Row.drew | apply Row.set | apply Row.new | apply Row.newD | apply Own.alloc | apply Row.alloc | apply Own.ne | apply Row.ne | apply Own.row) | (first | omega | (simp only [LN] at *; omega))); done)); (first | omega | (simp only [LN] at *; omega)); (first | omega | (simp only [LN] at *; omega))) | ((with_reducible apply hc_stN); assumption; (focus ((repeat' first | (with_reducible first | assumption | apply Own.set | apply Own.new | apply Own.newD | apply Own.drew | apply Row.drew | apply Row.set | apply Row.new | apply Row.newD | apply Own.alloc | apply Row.alloc | apply Own.ne | apply Row.ne | apply Own.row) | (first | omega | (simp only [LN] at *; omega))); done)); (first | omega | (simp only [LN] at *; omega)); (first | omega | (simp only [LN] at *; omega)))) | ((with_reducible first | apply bound_of | apply wr_i64 | apply wr_u8 | apply wr_u64); (first | omega | (simp only [LN] at *; omega)); (first | omega | (simp only [LN] at *; omega))) | ((with_reducible apply ld_row); (focus ((repeat' first | (with_reducible first | assumption | apply Own.set | apply Own.new | apply Own.newD | apply Own.drew | apply Row.drew | apply Row.set | apply Row.new | apply Row.newD | apply Own.alloc | apply Row.alloc | apply Own.ne | apply Row.ne | apply Own.row) | (first | omega | (simp only [LN] at *; omega))); done))) | ((with_reducible apply ldN_row); (focus ((repeat' first | (with_reducible first | assumption | apply Own.set | apply Own.new | apply Own.newD | apply Own.drew | apply Row.drew | apply Row.set | apply Row.new | apply Row.newD | apply Own.alloc | apply Row.alloc | apply Own.ne | apply Row.ne | apply Own.row) | (first | omega | (simp only [LN] at *; omega))); done)); (first | omega | (simp only [LN] at *; omega))) | ((with_reducible apply st_row); (focus ((repeat' first | (with_reducible first | assumption | apply Own.set | apply Own.new | apply Own.newD | apply Own.drew | apply Row.drew | apply Row.set | apply Row.new | apply Row.newD | apply Own.alloc | apply Row.alloc | apply Own.ne | apply Row.ne | apply Own.row) | (first | omega | (simp only [LN] at *; omega))); done)); (first | omega | (simp only [LN] at *; omega)); rfl) | ((with_reducible first | apply ints_at | apply le_andI | apply le_andN | apply ne_andI); (first | omega | (simp only [LN] at *; omega))) | (with_reducible refine ite_of (fun _ => ?_) (fun _ => ?_)))
      · rename_i hnx hgt
        rw [e1] at hgt
        rw [if_pos (.inr (.inr hgt))] at hr
        obtain rfl := hr
        exact ⟨rfl, hfr.drew⟩
      · rename_i hnx hgt
        rw [e1] at hgt
        rw [if_neg (by rintro (h | h | h) <;> first | omega | exact hgt h)] at hr
        rw [e2]
        refine ⟨(c, nx + 1, at' + 1, ((m.set (2 * sb s at') nx).set (2 * sb s at' + 1) N)), ?_, ⟨?_, ?_, ?_, ?_, ?_, ?_, ?_, hr⟩, ?_⟩
        · (first | rfl | (simp only [List.cons.injEq, Prod.mk.injEq, Value.int.injEq, Value.bool.injEq, true_and, and_true, List.cons_append, List.nil_append]; done) | (simp only [List.cons.injEq, Prod.mk.injEq, Value.int.injEq, Value.bool.injEq, true_and, and_true, List.cons_append, List.nil_append]; omega))
        · dsimp only; omega
        · dsimp only; omega
        · dsimp only; omega
        · simp [h4]
        · (focus ((repeat' first | (with_reducible first | assumption | apply Own.set | apply Own.new | apply Own.newD | apply Own.drew | apply Row.drew | apply Row.set | apply Row.new | apply Row.newD | apply Own.alloc | apply Row.alloc | apply Own.ne | apply Row.ne | apply Own.row) | (first | omega | (simp only [LN] at *; omega))); done))
        · (focus ((repeat' first | (with_reducible first | assumption | apply Own.set | apply Own.new | apply Own.newD | apply Own.drew | apply Row.drew | apply Row.set | apply Row.new | apply Row.newD | apply Own.alloc | apply Row.alloc | apply Own.ne | apply Row.ne | apply Own.row) | (first | omega | (simp only [LN] at *; omega))); done))
        · (focus ((repeat' first | (with_reducible first | assumption | apply Fr.drew | apply Fr.alloc | apply Fr.setRow | exact Fr.refl _ _) | (intro _; rfl) | (intro hb; simp only [X.no] at *; omega)); done))
        · dsimp only; omega
      · rename_i hnx
        rw [if_pos (.inr (.inl (by omega)))] at hr
        obtain rfl := hr
        exact ⟨rfl, hfr.drew⟩
    · rename_i hcc hat
      obtain ⟨c, rfl⟩ : ∃ c', c = c' + 1 := ⟨c - 1, by omega⟩
      simp only [hIn] at hr
      rw [if_pos (.inl (by omega))] at hr
      obtain rfl := hr
      exact ⟨rfl, hfr.drew⟩
    · rename_i hcc
      obtain rfl : c = 0 := by omega
      simp only [hIn] at hr
      refine ⟨(r, nx, at', m), ?_, ⟨?_, ?_, h3, h4, hbx, hbt, hfr, hr⟩, ?_⟩
      · (first | rfl | (simp only [List.cons.injEq, Prod.mk.injEq, Value.int.injEq, Value.bool.injEq, true_and, and_true, List.cons_append, List.nil_append]; done) | (simp only [List.cons.injEq, Prod.mk.injEq, Value.int.injEq, Value.bool.injEq, true_and, and_true, List.cons_append, List.nil_append]; omega))
      · dsimp only; omega
      · dsimp only; rw [hN]; exact h2
      · dsimp only; omega
  · rename_i hle hat h0
    obtain rfl : r = 0 := by omega
    simp only [hOut] at hr
    rw [if_pos (.inr (by omega))] at hr
    obtain rfl := hr
    exact ⟨rfl, hfr⟩
  · rename_i hle hat h0
    obtain rfl : r = 0 := by omega
    simp only [hOut] at hr
    rw [if_neg (by omega)] at hr
    obtain rfl := hr
    exact ⟨bt, by omega, rfl, h4, hbt, hfr⟩
  · rename_i hle hat
    obtain rfl : r = 0 := by omega
    simp only [hOut] at hr
    rw [if_pos (.inl (by omega))] at hr
    obtain rfl := hr
    exact ⟨rfl, hfr⟩
end Go.Proofs.Ytomckpllbihikaa
