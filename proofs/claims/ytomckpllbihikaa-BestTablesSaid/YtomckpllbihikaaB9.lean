/-
  Layer 5: the document's Codes, of a table that New takes.
-/
import Derived.Test.YtomckpllbihikaaB8
import Derived.Test.YtomckpllbihikaaP1
set_option autoImplicit false
set_option linter.unusedSimpArgs false
set_option linter.unusedVariables false
namespace Go.Proofs.Ytomckpllbihikaa
open X

theorem CInv.le {m : List Int} {L : List (Nat × Nat × Nat)} (h : CInv m L) : L.length ≤ 256 := by
  have := nodup_lt 256 (L.map (·.1)) h.nod fun x hx => by
    obtain ⟨⟨x', b, n⟩, h1, rfl⟩ := List.mem_map.1 hx
    exact (h.mem _ _ _ h1).1
  simpa using this
theorem put43 (a b c : Value) : putc (putc (putc (zcells Try.prog 43) 0 #[a]) 1 #[b]) 2 #[c] = #[a, b, c] := by kernel_rfl
theorem zr43 : zrep (zcells Try.prog 43) 3 = zcells Try.prog 43 := by kernel_rfl
theorem put43s (a b c : Value) : putc (zcells Try.prog 43) 0 #[a, b, c] = #[a, b, c] := by kernel_rfl

def CodesPost (w : World) (M : List Int) (e : Ending) (w' : World) : Prop :=
  ∃ L b cap rest, CInv M L ∧ w.heap.size ≤ b ∧ e = .returned (.tuple #[.slice (some ⟨b, 0, none⟩) L.length cap, .bool true]) ∧ Own w' b ((fl L).map (Value.int .i64) ++ rest).toArray ∧ Fr no w w'

set_option maxRecDepth 10000 in
theorem Codes_any (w : World) (cnt : List Int) (s : ByteArray) (hc : cnt.length = 16) (hcb : ∀ i, 0 ≤ g cnt i ∧ g cnt i ≤ 255) (hs : s.size < 4000000000000000000) (M : List Int) (hZ : hNew cnt s = some M) :
    Calls Try.prog 15 [.agg (ints .u8 cnt), .string s].toArray w (CodesPost w M) := by
  obtain ⟨nxf, h16, hs0⟩ : ∃ nxf, hOut cnt s 16 0 0 (List.replicate 546 0) = some (nxf, s.size, M) ∧ s.size ≠ 0 := by
    unfold hNew at hZ
    split at hZ
    · cases hZ
    · rename_i nx at' m he
      split at hZ
      · cases hZ
      · rename_i hn
        simp only [Option.some.injEq] at hZ; subst hZ
        simp only [not_or, Decidable.not_not] at hn
        exact ⟨nx, by rw [he, hn.2], by rw [← hn.2]; exact hn.1⟩
  refine enter15 (by simp) ?_
  (repeat' first | (simp only [RA, MI, S.dst, Nat.reduceAdd, Nat.reduceMul, Nat.reduceEqDiff, ↓reduceIte, reduceCtorEq, ne_eq, Nat.reduceLT, Nat.reduceLeDiff, gt_iff_lt, ge_iff_le, Int.reduceToNat, Nat.reduceSub, c15, x15, ints_ext, ints_set, true_and, z43_size, sb_fold, put43, zr43, put43s, putc_size]) | (first | ((with_reducible apply app_at); (first | omega | (simp only [LN] at *; omega)))) | ((with_reducible first | apply bound_of | apply wr_i64 | apply wr_u8 | apply wr_u64); (first | omega | (simp only [LN] at *; omega)); (first | omega | (simp only [LN] at *; omega))) | ((with_reducible apply ld_row); (focus ((repeat' first | (with_reducible first | assumption | apply Own.set | apply Own.new | apply Own.newD | apply Own.drew | apply Row.drew | apply Row.set | apply Row.new | apply Row.newD | apply Own.alloc | apply Row.alloc | apply Own.ne | apply Row.ne | apply Own.row) | (first | omega | (simp only [LN] at *; omega))); done))) | ((with_reducible apply ldN_row); (focus ((repeat' first | (with_reducible first | assumption | apply Own.set | apply Own.new | apply Own.newD | apply Own.drew | apply Row.drew | apply Row.set | apply Row.new | apply Row.newD | apply Own.alloc | apply Row.alloc | apply Own.ne | apply Row.ne | apply Own.row) | (first | omega | (simp only [LN] at *; omega))); done)); (first | omega | (simp only [LN] at *; omega))) | ((with_reducible apply st_row); (focus ((repeat' first | (with_reducible first | assumption | apply Own.set | apply Own.new | apply Own.newD | apply Own.drew | apply Row.drew | apply Row.set | apply Row.new | apply Row.newD | apply Own.alloc | apply Row.alloc | apply Own.ne | apply Row.ne | apply Own.row) | (first | omega | (simp only [LN] at *; omega))); done)); (first | omega | (simp only [LN] at *; omega)); rfl) | ((with_reducible first | apply ints_at | apply le_andI | apply le_andN | apply ne_andI); (first | omega | (simp only [LN] at *; omega))) | (with_reducible refine ite_of (fun _ => ?_) (fun _ => ?_)))
  have hbx : Own (w.alloc (Obj.cells (ints .u8 cnt) 23)) w.heap.size (ints .u8 cnt) := by (focus ((repeat' first | (with_reducible first | assumption | apply Own.set | apply Own.new | apply Own.newD | apply Own.drew | apply Row.drew | apply Row.set | apply Row.new | apply Row.newD | apply Own.alloc | apply Row.alloc | apply Own.ne | apply Row.ne | apply Own.row) | (first | omega | (simp only [LN] at *; omega))); done))
  have hfr : Fr no w (w.alloc (Obj.cells (ints .u8 cnt) 23)) := by (focus ((repeat' first | (with_reducible first | assumption | apply Fr.drew | apply Fr.alloc | apply Fr.setRow | exact Fr.refl _ _) | (intro _; rfl) | (intro hb; simp only [X.no] at *; omega)); done))
  have hsz : w.heap.size + 1 ≤ (w.alloc (Obj.cells (ints .u8 cnt) 23)).heap.size := by simp
  generalize (w.alloc (Obj.cells (ints .u8 cnt) 23)) = w1 at *
  refine loop_of (σ := Nat × Nat × List Int × List (Nat × Nat × Nat) × Value)
    (fun t => [(1, .string s), (2, .pointer (some ⟨w.heap.size, 0, none⟩)), (6, t.2.2.2.2), (7, .int .i64 (t.2.1 : Int)), (8, .int .i64 ((17 - t.1 : Nat) : Int))])
    (fun t w' => t.1 ≤ 16 ∧ t.2.1 ≤ 2 ^ (16 - t.1) ∧ t.2.2.1.length = 546 ∧ CInv t.2.2.1 t.2.2.2.1 ∧ hOut cnt s t.1 t.2.1 t.2.2.2.1.length t.2.2.1 = some (nxf, s.size, M) ∧ Own w' w.heap.size (ints .u8 cnt) ∧
      Vec w' t.2.2.2.2 3 ((fl t.2.2.2.1).map (Value.int .i64)) (w.heap.size + 1) ∧ w.heap.size + 1 ≤ w'.heap.size ∧ Fr no w w')
    (fun t => t.1) (16, 0, List.replicate 546 0, [], .slice none 0 0) rfl ⟨Nat.le_refl _, by simp, List.length_replicate, .base, h16, hbx, .nil _ _ _, hsz, hfr⟩ ?_
  clear hbx hfr hsz w1 h16
  rintro ⟨r, nx, m, L, v⟩ w' ⟨h1, h2, h4, hI, ho, hbx, hv, hsz, hfr⟩
  dsimp only at *
  (repeat' first | (simp only [RA, MI, S.dst, Nat.reduceAdd, Nat.reduceMul, Nat.reduceEqDiff, ↓reduceIte, reduceCtorEq, ne_eq, Nat.reduceLT, Nat.reduceLeDiff, gt_iff_lt, ge_iff_le, Int.reduceToNat, Nat.reduceSub, c15, x15, ints_ext, ints_set, true_and, z43_size, sb_fold, put43, zr43, put43s, putc_size]) | (first | ((with_reducible apply app_at); (first | omega | (simp only [LN] at *; omega)))) | ((with_reducible first | apply bound_of | apply wr_i64 | apply wr_u8 | apply wr_u64); (first | omega | (simp only [LN] at *; omega)); (first | omega | (simp only [LN] at *; omega))) | ((with_reducible apply ld_row); (focus ((repeat' first | (with_reducible first | assumption | apply Own.set | apply Own.new | apply Own.newD | apply Own.drew | apply Row.drew | apply Row.set | apply Row.new | apply Row.newD | apply Own.alloc | apply Row.alloc | apply Own.ne | apply Row.ne | apply Own.row) | (first | omega | (simp only [LN] at *; omega))); done))) | ((with_reducible apply ldN_row); (focus ((repeat' first | (with_reducible first | assumption | apply Own.set | apply Own.new | apply Own.newD | apply Own.drew | apply Row.drew | apply Row.set | apply Row.new | apply Row.newD | apply Own.alloc | apply Row.alloc | apply Own.ne | apply Row.ne | apply Own.row) | (first | omega | (simp only [LN] at *; omega))); done)); (first | omega | (simp only [LN] at *; omega))) | ((with_reducible apply st_row); (focus ((repeat' first | (with_reducible first | assumption | apply Own.set | apply Own.new | apply Own.newD | apply Own.drew | apply Row.drew | apply Row.set | apply Row.new | apply Row.newD | apply Own.alloc | apply Row.alloc | apply Own.ne | apply Row.ne | apply Own.row) | (first | omega | (simp only [LN] at *; omega))); done)); (first | omega | (simp only [LN] at *; omega)); rfl) | ((with_reducible first | apply ints_at | apply le_andI | apply le_andN | apply ne_andI); (first | omega | (simp only [LN] at *; omega))) | (with_reducible refine ite_of (fun _ => ?_) (fun _ => ?_)))
  · rename_i hle
    obtain ⟨r, rfl⟩ : ∃ r', r = r' + 1 := ⟨r - 1, by omega⟩
    have hn : 17 - (r + 1) = 16 - r := by omega
    have hp1 : 2 ^ (16 - (r + 1)) ≤ 2 ^ 16 := Nat.pow_le_pow_right (by decide) (by omega)
    have hp2 : 2 * nx ≤ 2 ^ (16 - r) := by
      have : 16 - r = (16 - (r + 1)) + 1 := by omega
      rw [this, Nat.pow_succ]; omega
    have hp3 : 2 ^ (16 - r) ≤ 65536 := Nat.le_trans (Nat.pow_le_pow_right (by decide) (by omega : 16 - r ≤ 16)) (by decide)
    simp only [hOut] at ho
    rw [hn] at hle ⊢
    have hI2 := (hI.far h4 (512 + (16 - r)) (by omega) (by omega) ((2 * nx : Nat) : Int)).far (by simpa using h4) (529 + (16 - r)) (by omega) (by omega) (L.length : Int)
    generalize hN : 16 - r = N at *
    have i1 : ((N : Int) - 1).toNat = 15 - r := by omega
    have hcn := hcb (15 - r)
    (repeat' first | (simp only [RA, MI, S.dst, Nat.reduceAdd, Nat.reduceMul, Nat.reduceEqDiff, ↓reduceIte, reduceCtorEq, ne_eq, Nat.reduceLT, Nat.reduceLeDiff, gt_iff_lt, ge_iff_le, Int.reduceToNat, Nat.reduceSub, c15, x15, ints_ext, ints_set, true_and, z43_size, sb_fold, put43, zr43, put43s, putc_size]) | (first | ((with_reducible apply app_at); (first | omega | (simp only [LN] at *; omega)))) | ((with_reducible first | apply bound_of | apply wr_i64 | apply wr_u8 | apply wr_u64); (first | omega | (simp only [LN] at *; omega)); (first | omega | (simp only [LN] at *; omega))) | ((with_reducible apply ld_row); (focus ((repeat' first | (with_reducible first | assumption | apply Own.set | apply Own.new | apply Own.newD | apply Own.drew | apply Row.drew | apply Row.set | apply Row.new | apply Row.newD | apply Own.alloc | apply Row.alloc | apply Own.ne | apply Row.ne | apply Own.row) | (first | omega | (simp only [LN] at *; omega))); done))) | ((with_reducible apply ldN_row); (focus ((repeat' first | (with_reducible first | assumption | apply Own.set | apply Own.new | apply Own.newD | apply Own.drew | apply Row.drew | apply Row.set | apply Row.new | apply Row.newD | apply Own.alloc | apply Row.alloc | apply Own.ne | apply Row.ne | apply Own.row) | (first | omega | (simp only [LN] at *; omega))); done)); (first | omega | (simp only [LN] at *; omega))) | ((with_reducible apply st_row); (focus ((repeat' first | (with_reducible first | assumption | apply Own.set | apply Own.new | apply Own.newD | apply Own.drew | apply Row.drew | apply Row.set | apply Row.new | apply Row.newD | apply Own.alloc | apply Row.alloc | apply Own.ne | apply Row.ne | apply Own.row) | (first | omega | (simp only [LN] at *; omega))); done)); (first | omega | (simp only [LN] at *; omega)); rfl) | ((with_reducible first | apply ints_at | apply le_andI | apply le_andN | apply ne_andI); (first | omega | (simp only [LN] at *; omega))) | (with_reducible refine ite_of (fun _ => ?_) (fun _ => ?_)))
    refine loop_of (σ := Nat × Nat × List Int × List (Nat × Nat × Nat) × Value)
      (fun t => [(1, .string s), (2, .pointer (some ⟨w.heap.size, 0, none⟩)), (6, t.2.2.2.2), (7, .int .i64 (t.2.1 : Int)), (8, .int .i64 (N : Int)), (9, .int .i64 (g cnt (15 - r) - t.1))])
      (fun t w' => t.1 ≤ (g cnt (15 - r)).toNat ∧ t.2.1 ≤ 2 ^ N ∧ t.2.2.1.length = 546 ∧ CInv t.2.2.1 t.2.2.2.1 ∧
        (match hIn s N t.1 t.2.1 t.2.2.2.1.length t.2.2.1 with | none => none | some (nx, at', m) => hOut cnt s r nx at' m) = some (nxf, s.size, M) ∧ Own w' w.heap.size (ints .u8 cnt) ∧
        Vec w' t.2.2.2.2 3 ((fl t.2.2.2.1).map (Value.int .i64)) (w.heap.size + 1) ∧ w.heap.size + 1 ≤ w'.heap.size ∧ Fr no w w')
      (fun t => t.1) ((g cnt (15 - r)).toNat, 2 * nx, ((m.set (512 + N) (2 * nx : Nat)).set (529 + N) L.length), L, v) ?_ ⟨Nat.le_refl _, hp2, by simp [h4], hI2, ho, hbx, hv, hsz, hfr⟩ ?_
    · simp only [List.cons.injEq, Prod.mk.injEq, Value.int.injEq, true_and, and_true]; omega
    clear hI2 ho hbx hv hsz hfr hI h4 h2 hp2
    rintro ⟨c, nx, m, L, v⟩ w' ⟨h1, h2, h4, hI, ho, hbx, hv, hsz, hfr⟩
    dsimp only at *
    (repeat' first | (simp only [RA, MI, S.dst, Nat.reduceAdd, Nat.reduceMul, Nat.reduceEqDiff, ↓reduceIte, reduceCtorEq, ne_eq, Nat.reduceLT, Nat.reduceLeDiff, gt_iff_lt, ge_iff_le, Int.reduceToNat, Nat.reduceSub, c15, x15, ints_ext, ints_set, true_and, z43_size, sb_fold, put43, zr43, put43s, putc_size]) | (first | ((with_reducible apply app_at); (first | omega | (simp only [LN] at *; omega)))) | ((with_reducible first | apply bound_of | apply wr_i64 | apply wr_u8 | apply wr_u64); (first | omega | (simp only [LN] at *; omega)); (first | omega | (simp only [LN] at *; omega))) | ((with_reducible apply ld_row); (focus ((repeat' first | (with_reducible first | assumption | apply Own.set | apply Own.new | apply Own.newD | apply Own.drew | apply Row.drew | apply Row.set | apply Row.new | apply Row.newD | apply Own.alloc | apply Row.alloc | apply Own.ne | apply Row.ne | apply Own.row) | (first | omega | (simp only [LN] at *; omega))); done))) | ((with_reducible apply ldN_row); (focus ((repeat' first | (with_reducible first | assumption | apply Own.set | apply Own.new | apply Own.newD | apply Own.drew | apply Row.drew | apply Row.set | apply Row.new | apply Row.newD | apply Own.alloc | apply Row.alloc | apply Own.ne | apply Row.ne | apply Own.row) | (first | omega | (simp only [LN] at *; omega))); done)); (first | omega | (simp only [LN] at *; omega))) | ((with_reducible apply st_row); (focus ((repeat' first | (with_reducible first | assumption | apply Own.set | apply Own.new | apply Own.newD | apply Own.drew | apply Row.drew | apply Row.set | apply Row.new | apply Row.newD | apply Own.alloc | apply Row.alloc | apply Own.ne | apply Row.ne | apply Own.row) | (first | omega | (simp only [LN] at *; omega))); done)); (first | omega | (simp only [LN] at *; omega)); rfl) | ((with_reducible first | apply ints_at | apply le_andI | apply le_andN | apply ne_andI); (first | omega | (simp only [LN] at *; omega))) | (with_reducible refine ite_of (fun _ => ?_) (fun _ => ?_)))
    simp only [i1]
    (repeat' first | (simp only [RA, MI, S.dst, Nat.reduceAdd, Nat.reduceMul, Nat.reduceEqDiff, ↓reduceIte, reduceCtorEq, ne_eq, Nat.reduceLT, Nat.reduceLeDiff, gt_iff_lt, ge_iff_le, Int.reduceToNat, Nat.reduceSub, c15, x15, ints_ext, ints_set, true_and, z43_size, sb_fold, put43, zr43, put43s, putc_size]) | (first | ((with_reducible apply app_at); (first | omega | (simp only [LN] at *; omega)))) | ((with_reducible first | apply bound_of | apply wr_i64 | apply wr_u8 | apply wr_u64); (first | omega | (simp only [LN] at *; omega)); (first | omega | (simp only [LN] at *; omega))) | ((with_reducible apply ld_row); (focus ((repeat' first | (with_reducible first | assumption | apply Own.set | apply Own.new | apply Own.newD | apply Own.drew | apply Row.drew | apply Row.set | apply Row.new | apply Row.newD | apply Own.alloc | apply Row.alloc | apply Own.ne | apply Row.ne | apply Own.row) | (first | omega | (simp only [LN] at *; omega))); done))) | ((with_reducible apply ldN_row); (focus ((repeat' first | (with_reducible first | assumption | apply Own.set | apply Own.new | apply Own.newD | apply Own.drew | apply Row.drew | apply Row.set | apply Row.new | apply Row.newD | apply Own.alloc | apply Row.alloc | apply Own.ne | apply Row.ne | apply Own.row) | (first | omega | (simp only [LN] at *; omega))); done)); (first | omega | (simp only [LN] at *; omega))) | ((with_reducible apply st_row); (focus ((repeat' first | (with_reducible first | assumption | apply Own.set | apply Own.new | apply Own.newD | apply Own.drew | apply Row.drew | apply Row.set | apply Row.new | apply Row.newD | apply Own.alloc | apply Row.alloc | apply Own.ne | apply Row.ne | apply Own.row) | (first | omega | (simp only [LN] at *; omega))); done)); (first | omega | (simp only [LN] at *; omega)); rfl) | ((with_reducible first | apply ints_at | apply le_andI | apply le_andN | apply ne_andI); (first | omega | (simp only [LN] at *; omega))) | (with_reducible refine ite_of (fun _ => ?_) (fun _ => ?_)))
    · rename_i hcc
      obtain ⟨c, rfl⟩ : ∃ c', c = c' + 1 := ⟨c - 1, by omega⟩
      obtain ⟨a, n, cap, rfl, hln, hrow⟩ := hv.row
      have hn2 : n = L.length := by simp only [List.length_map, fl_len] at hln; omega
      subst hn2
      have hL := hI.le
      have hsb := sb_lt s L.length
      simp only [hIn] at ho
      by_cases hbad : s.size ≤ L.length ∨ 2 ^ N - 1 ≤ nx ∨ 0 < g m (2 * sb s L.length + 1)
      · rw [if_pos hbad] at ho; cases ho
      rw [if_neg hbad] at ho
      have hb1 : ¬ s.size ≤ L.length := fun h => hbad (.inl h)
      have hb2 : ¬ 2 ^ N - 1 ≤ nx := fun h => hbad (.inr (.inl h))
      have hb3 : ¬ 0 < g m (2 * sb s L.length + 1) := fun h => hbad (.inr (.inr h))
      have hI3 := hI.step h4 hsb hb3 (by omega) (by omega) (b := nx) (n := N) (by omega)
      have hge := hv.blk_ge
      (repeat' first | (simp only [RA, MI, S.dst, Nat.reduceAdd, Nat.reduceMul, Nat.reduceEqDiff, ↓reduceIte, reduceCtorEq, ne_eq, Nat.reduceLT, Nat.reduceLeDiff, gt_iff_lt, ge_iff_le, Int.reduceToNat, Nat.reduceSub, c15, x15, ints_ext, ints_set, true_and, z43_size, sb_fold, put43, zr43, put43s, putc_size]) | (first | ((with_reducible apply app_at); (first | omega | (simp only [LN] at *; omega)))) | ((with_reducible first | apply bound_of | apply wr_i64 | apply wr_u8 | apply wr_u64); (first | omega | (simp only [LN] at *; omega)); (first | omega | (simp only [LN] at *; omega))) | ((with_reducible apply ld_row); (focus ((repeat' first | (with_reducible first | assumption | apply Own.set | apply Own.new | apply Own.newD | apply Own.drew | apply Row.drew | apply Row.set | apply Row.new | apply Row.newD | apply Own.alloc | apply Row.alloc | apply Own.ne | apply Row.ne | apply Own.row) | (first | omega | (simp only [LN] at *; omega))); done))) | ((with_reducible apply ldN_row); (focus ((repeat' first | (with_reducible first | assumption | apply Own.set | apply Own.new | apply Own.newD | apply Own.drew | apply Row.drew | apply Row.set | apply Row.new | apply Row.newD | apply Own.alloc | apply Row.alloc | apply Own.ne | apply Row.ne | apply Own.row) | (first | omega | (simp only [LN] at *; omega))); done)); (first | omega | (simp only [LN] at *; omega))) | ((with_reducible apply st_row); (focus ((repeat' first | (with_reducible first | assumption | apply Own.set | apply Own.new | apply Own.newD | apply Own.drew | apply Row.drew | apply Row.set | apply Row.new | apply Row.newD | apply Own.alloc | apply Row.alloc | apply Own.ne | apply Row.ne | apply Own.row) | (first | omega | (simp only [LN] at *; omega))); done)); (first | omega | (simp only [LN] at *; omega)); rfl) | ((with_reducible first | apply ints_at | apply le_andI | apply le_andN | apply ne_andI); (first | omega | (simp only [LN] at *; omega))) | (with_reducible refine ite_of (fun _ => ?_) (fun _ => ?_)))
      · exfalso; omega
      · have hv2 : Vec (w'.alloc (Obj.cells #[Value.int .i64 (sb s L.length : Nat), Value.int .i64 (nx : Nat), Value.int .i64 (N : Nat)] 43)) (.slice a L.length cap) 3 ((fl L).map (Value.int .i64)) (w.heap.size + 1) := hv.fr (S := no) (by (focus ((repeat' first | (with_reducible first | assumption | apply Fr.drew | apply Fr.alloc | apply Fr.setRow | exact Fr.refl _ _) | (intro _; rfl) | (intro hb; simp only [X.no] at *; omega)); done))) fun _ _ h => h
        have hX : Row (w'.alloc (Obj.cells #[Value.int .i64 (sb s L.length : Nat), Value.int .i64 (nx : Nat), Value.int .i64 (N : Nat)] 43)) w'.heap.size #[Value.int .i64 (sb s L.length : Nat), Value.int .i64 (nx : Nat), Value.int .i64 (N : Nat)] := by (focus ((repeat' first | (with_reducible first | assumption | apply Own.set | apply Own.new | apply Own.newD | apply Own.drew | apply Row.drew | apply Row.set | apply Row.new | apply Row.newD | apply Own.alloc | apply Row.alloc | apply Own.ne | apply Row.ne | apply Own.row) | (first | omega | (simp only [LN] at *; omega))); done))
        have hbx2 : Own (w'.alloc (Obj.cells #[Value.int .i64 (sb s L.length : Nat), Value.int .i64 (nx : Nat), Value.int .i64 (N : Nat)] 43)) w.heap.size (ints .u8 cnt) := by (focus ((repeat' first | (with_reducible first | assumption | apply Own.set | apply Own.new | apply Own.newD | apply Own.drew | apply Row.drew | apply Row.set | apply Row.new | apply Row.newD | apply Own.alloc | apply Row.alloc | apply Own.ne | apply Row.ne | apply Own.row) | (first | omega | (simp only [LN] at *; omega))); done))
        have hfr2 : Fr no w (w'.alloc (Obj.cells #[Value.int .i64 (sb s L.length : Nat), Value.int .i64 (nx : Nat), Value.int .i64 (N : Nat)] 43)) := by (focus ((repeat' first | (with_reducible first | assumption | apply Fr.drew | apply Fr.alloc | apply Fr.setRow | exact Fr.refl _ _) | (intro _; rfl) | (intro hb; simp only [X.no] at *; omega)); done))
        have hsz2 : w.heap.size + 1 ≤ (w'.alloc (Obj.cells #[Value.int .i64 (sb s L.length : Nat), Value.int .i64 (nx : Nat), Value.int .i64 (N : Nat)] 43)).heap.size := by simp; omega
        generalize (w'.alloc (Obj.cells #[Value.int .i64 (sb s L.length : Nat), Value.int .i64 (nx : Nat), Value.int .i64 (N : Nat)] 43)) = w2 at *
        refine vec_append (m := 1) (new := [Value.int .i64 (sb s L.length : Nat), Value.int .i64 (nx : Nat), Value.int .i64 (N : Nat)]) hv2 hsz2 z43_size ⟨L.length, hln, by omega, by omega⟩ (by decide) (fun R h => h) (fun R h => ?_) rfl ?_ ?_
        · rw [tk_some]; exact ldN_all hX rfl h
        · intro x hx
          rcases List.mem_append.1 hx with h | h
          · obtain ⟨q, _, rfl⟩ := List.mem_map.1 h; rfl
          · simp at h; rcases h with rfl | rfl | rfl <;> rfl
        · intro r3 w3 hv3 hf3 hblk
          (repeat' first | (simp only [RA, MI, S.dst, Nat.reduceAdd, Nat.reduceMul, Nat.reduceEqDiff, ↓reduceIte, reduceCtorEq, ne_eq, Nat.reduceLT, Nat.reduceLeDiff, gt_iff_lt, ge_iff_le, Int.reduceToNat, Nat.reduceSub, c15, x15, ints_ext, ints_set, true_and, z43_size, sb_fold, put43, zr43, put43s, putc_size]) | (first | ((with_reducible apply app_at); (first | omega | (simp only [LN] at *; omega)))) | ((with_reducible first | apply bound_of | apply wr_i64 | apply wr_u8 | apply wr_u64); (first | omega | (simp only [LN] at *; omega)); (first | omega | (simp only [LN] at *; omega))) | ((with_reducible apply ld_row); (focus ((repeat' first | (with_reducible first | assumption | apply Own.set | apply Own.new | apply Own.newD | apply Own.drew | apply Row.drew | apply Row.set | apply Row.new | apply Row.newD | apply Own.alloc | apply Row.alloc | apply Own.ne | apply Row.ne | apply Own.row) | (first | omega | (simp only [LN] at *; omega))); done))) | ((with_reducible apply ldN_row); (focus ((repeat' first | (with_reducible first | assumption | apply Own.set | apply Own.new | apply Own.newD | apply Own.drew | apply Row.drew | apply Row.set | apply Row.new | apply Row.newD | apply Own.alloc | apply Row.alloc | apply Own.ne | apply Row.ne | apply Own.row) | (first | omega | (simp only [LN] at *; omega))); done)); (first | omega | (simp only [LN] at *; omega))) | ((with_reducible apply st_row); (focus ((repeat' first | (with_reducible first | assumption | apply Own.set | apply Own.new | apply Own.newD | apply Own.drew | apply Row.drew | apply Row.set | apply Row.new | apply Row.newD | apply Own.alloc | apply Row.alloc | apply Own.ne | apply Row.ne | apply Own.row) | (first | omega | (simp only [LN] at *; omega))); done)); (first | omega | (simp only [LN] at *; omega)); rfl) | ((with_reducible first | apply ints_at | apply le_andI | apply le_andN | apply ne_andI); (first | omega | (simp only [LN] at *; omega))) | (with_reducible refine ite_of (fun _ => ?_) (fun _ => ?_)))
          refine ⟨(c, nx + 1, _, L ++ [(sb s L.length, nx, N)], r3), ?_, ⟨by dsimp only; omega, by dsimp only; omega, by simp [h4], hI3, ?_, ?_, ?_, ?_, ?_⟩, by dsimp only; omega⟩
          · (first | rfl | (simp only [List.cons.injEq, Prod.mk.injEq, Value.int.injEq, Value.bool.injEq, true_and, and_true, List.cons_append, List.nil_append]; done) | (simp only [List.cons.injEq, Prod.mk.injEq, Value.int.injEq, Value.bool.injEq, true_and, and_true, List.cons_append, List.nil_append]; omega))
          · simpa using ho
          · exact hbx2.fr hf3 fun h => by have := hge _ h; omega
          · have e : (fl (L ++ [(sb s L.length, nx, N)])).map (Value.int .i64) = (fl L).map (Value.int .i64) ++ [Value.int .i64 (sb s L.length : Nat), Value.int .i64 (nx : Nat), Value.int .i64 (N : Nat)] := by
              rw [fl_app]; simp [fl]
            rw [e]; exact hv3
          · have := hf3.size; omega
          · exact hfr2.trans' hf3 fun k hk h => by have := hge _ h; omega
    · rename_i hcc
      obtain rfl : c = 0 := by omega
      simp only [hIn] at ho
      (repeat' first | (simp only [RA, MI, S.dst, Nat.reduceAdd, Nat.reduceMul, Nat.reduceEqDiff, ↓reduceIte, reduceCtorEq, ne_eq, Nat.reduceLT, Nat.reduceLeDiff, gt_iff_lt, ge_iff_le, Int.reduceToNat, Nat.reduceSub, c15, x15, ints_ext, ints_set, true_and, z43_size, sb_fold, put43, zr43, put43s, putc_size]) | (first | ((with_reducible apply app_at); (first | omega | (simp only [LN] at *; omega)))) | ((with_reducible first | apply bound_of | apply wr_i64 | apply wr_u8 | apply wr_u64); (first | omega | (simp only [LN] at *; omega)); (first | omega | (simp only [LN] at *; omega))) | ((with_reducible apply ld_row); (focus ((repeat' first | (with_reducible first | assumption | apply Own.set | apply Own.new | apply Own.newD | apply Own.drew | apply Row.drew | apply Row.set | apply Row.new | apply Row.newD | apply Own.alloc | apply Row.alloc | apply Own.ne | apply Row.ne | apply Own.row) | (first | omega | (simp only [LN] at *; omega))); done))) | ((with_reducible apply ldN_row); (focus ((repeat' first | (with_reducible first | assumption | apply Own.set | apply Own.new | apply Own.newD | apply Own.drew | apply Row.drew | apply Row.set | apply Row.new | apply Row.newD | apply Own.alloc | apply Row.alloc | apply Own.ne | apply Row.ne | apply Own.row) | (first | omega | (simp only [LN] at *; omega))); done)); (first | omega | (simp only [LN] at *; omega))) | ((with_reducible apply st_row); (focus ((repeat' first | (with_reducible first | assumption | apply Own.set | apply Own.new | apply Own.newD | apply Own.drew | apply Row.drew | apply Row.set | apply Row.new | apply Row.newD | apply Own.alloc | apply Row.alloc | apply Own.ne | apply Row.ne | apply Own.row) | (first | omega | (simp only [LN] at *; omega))); done)); (first | omega | (simp only [LN] at *; omega)); rfl) | ((with_reducible first | apply ints_at | apply le_andI | apply le_andN | apply ne_andI); (first | omega | (simp only [LN] at *; omega))) | (with_reducible refine ite_of (fun _ => ?_) (fun _ => ?_)))
      refine ⟨(r, nx, m, L, v), ?_, ⟨by dsimp only; omega, by dsimp only; rw [hN]; exact h2, h4, hI, ho, hbx, hv, hsz, hfr⟩, by dsimp only; omega⟩
      (first | rfl | (simp only [List.cons.injEq, Prod.mk.injEq, Value.int.injEq, Value.bool.injEq, true_and, and_true, List.cons_append, List.nil_append]; done) | (simp only [List.cons.injEq, Prod.mk.injEq, Value.int.injEq, Value.bool.injEq, true_and, and_true, List.cons_append, List.nil_append]; omega))
  · rename_i hle
    obtain rfl : r = 0 := by omega
    simp only [hOut, Option.some.injEq, Prod.mk.injEq] at ho
    obtain ⟨_, hLs, rfl⟩ := ho
    obtain ⟨a, n, cap, rfl, hln, hrow⟩ := hv.row
    have hn2 : n = L.length := by simp only [List.length_map, fl_len] at hln; omega
    subst hn2
    have hL := hI.le
    rcases hrow with ⟨_, h0, _⟩ | ⟨b, rest, hb0, rfl, hcap, hob⟩
    · exfalso; omega
    have hfl := fl_len L
    have hLn : 0 < L.length := by omega
    clear hv
    (repeat' first | (simp only [RA, MI, S.dst, Nat.reduceAdd, Nat.reduceMul, Nat.reduceEqDiff, ↓reduceIte, reduceCtorEq, ne_eq, Nat.reduceLT, Nat.reduceLeDiff, gt_iff_lt, ge_iff_le, Int.reduceToNat, Nat.reduceSub, c15, x15, ints_ext, ints_set, true_and, z43_size, sb_fold, put43, zr43, put43s, putc_size]) | (first | ((with_reducible apply app_at); (first | omega | (simp only [LN] at *; omega)))) | ((with_reducible first | apply bound_of | apply wr_i64 | apply wr_u8 | apply wr_u64); (first | omega | (simp only [LN] at *; omega)); (first | omega | (simp only [LN] at *; omega))) | ((with_reducible apply ld_row); (focus ((repeat' first | (with_reducible first | assumption | apply Own.set | apply Own.new | apply Own.newD | apply Own.drew | apply Row.drew | apply Row.set | apply Row.new | apply Row.newD | apply Own.alloc | apply Row.alloc | apply Own.ne | apply Row.ne | apply Own.row) | (first | omega | (simp only [LN] at *; omega))); done))) | ((with_reducible apply ldN_row); (focus ((repeat' first | (with_reducible first | assumption | apply Own.set | apply Own.new | apply Own.newD | apply Own.drew | apply Row.drew | apply Row.set | apply Row.new | apply Row.newD | apply Own.alloc | apply Row.alloc | apply Own.ne | apply Row.ne | apply Own.row) | (first | omega | (simp only [LN] at *; omega))); done)); (first | omega | (simp only [LN] at *; omega))) | ((with_reducible apply st_row); (focus ((repeat' first | (with_reducible first | assumption | apply Own.set | apply Own.new | apply Own.newD | apply Own.drew | apply Row.drew | apply Row.set | apply Row.new | apply Row.newD | apply Own.alloc | apply Row.alloc | apply Own.ne | apply Row.ne | apply Own.row) | (first | omega | (simp only [LN] at *; omega))); done)); (first | omega | (simp only [LN] at *; omega)); rfl) | ((with_reducible first | apply ints_at | apply le_andI | apply le_andN | apply ne_andI); (first | omega | (simp only [LN] at *; omega))) | (with_reducible refine ite_of (fun _ => ?_) (fun _ => ?_)))
    all_goals first | (exfalso; omega) | skip
    refine loop_of (σ := Nat) (fun i => [(6, .slice (some ⟨b, 0, none⟩) L.length cap), (10, .int .i64 (i : Int))])
      (fun i w2 => i ≤ L.length ∧ Own w2 b ((fl L).map (Value.int .i64) ++ rest).toArray ∧ Fr no w w2) (fun i => L.length - i) 0 rfl ⟨by omega, hob, hfr⟩ ?_
    clear hob hfr hbx hsz
    rintro i w2 ⟨hi, hob, hfr⟩
    (repeat' first | (simp only [RA, MI, S.dst, Nat.reduceAdd, Nat.reduceMul, Nat.reduceEqDiff, ↓reduceIte, reduceCtorEq, ne_eq, Nat.reduceLT, Nat.reduceLeDiff, gt_iff_lt, ge_iff_le, Int.reduceToNat, Nat.reduceSub, c15, x15, ints_ext, ints_set, true_and, z43_size, sb_fold, put43, zr43, put43s, putc_size]) | (first | ((with_reducible apply app_at); (first | omega | (simp only [LN] at *; omega)))) | ((with_reducible first | apply bound_of | apply wr_i64 | apply wr_u8 | apply wr_u64); (first | omega | (simp only [LN] at *; omega)); (first | omega | (simp only [LN] at *; omega))) | ((with_reducible apply ld_row); (focus ((repeat' first | (with_reducible first | assumption | apply Own.set | apply Own.new | apply Own.newD | apply Own.drew | apply Row.drew | apply Row.set | apply Row.new | apply Row.newD | apply Own.alloc | apply Row.alloc | apply Own.ne | apply Row.ne | apply Own.row) | (first | omega | (simp only [LN] at *; omega))); done))) | ((with_reducible apply ldN_row); (focus ((repeat' first | (with_reducible first | assumption | apply Own.set | apply Own.new | apply Own.newD | apply Own.drew | apply Row.drew | apply Row.set | apply Row.new | apply Row.newD | apply Own.alloc | apply Row.alloc | apply Own.ne | apply Row.ne | apply Own.row) | (first | omega | (simp only [LN] at *; omega))); done)); (first | omega | (simp only [LN] at *; omega))) | ((with_reducible apply st_row); (focus ((repeat' first | (with_reducible first | assumption | apply Own.set | apply Own.new | apply Own.newD | apply Own.drew | apply Row.drew | apply Row.set | apply Row.new | apply Row.newD | apply Own.alloc | apply Row.alloc | apply Own.ne | apply Row.ne | apply Own.row) | (first | omega | (simp only [LN] at *; omega))); done)); (first | omega | (simp only [LN] at *; omega)); rfl) | ((with_reducible first | apply ints_at | apply le_andI | apply le_andN | apply ne_andI); (first | omega | (simp only [LN] at *; omega))) | (with_reducible refine ite_of (fun _ => ?_) (fun _ => ?_)))
    · rename_i hlt
      obtain ⟨t, ht⟩ : ∃ t, L[i]? = some t := ⟨_, List.getElem?_eq_getElem (by omega)⟩
      obtain ⟨e1, e2, e3⟩ := fl_g L i t ht
      obtain ⟨m1, m2, m3, m4, m5, m6⟩ := hI.mem t.1 t.2.1 t.2.2 (List.mem_of_getElem? ht)
      refine loop_of (σ := Nat) (fun k => [(6, .slice (some ⟨b, 0, none⟩) L.length cap), (10, .int .i64 (i : Int)), (11, .int .i64 ((2 ^ k : Nat) : Int)), (12, .int .i64 (k : Int))])
        (fun k w3 => w3 = w2 ∧ k ≤ t.2.2) (fun k => t.2.2 - k) 0 rfl ⟨rfl, by omega⟩ ?_
      rintro k _ ⟨rfl, hk⟩
      have hp : 2 ^ k ≤ 65536 := Nat.le_trans (Nat.pow_le_pow_right (by decide) (by omega : k ≤ 16)) (by decide)
      have hk2 : 2 ^ (k + 1) = 2 ^ k * 2 := Nat.pow_succ ..
      have hk3 : k = t.2.2 → t.2.1 + 1 < 2 ^ k := fun e => e ▸ m6
      generalize hP : 2 ^ k = P at *
      (repeat' first | (simp only [RA, MI, S.dst, Nat.reduceAdd, Nat.reduceMul, Nat.reduceEqDiff, ↓reduceIte, reduceCtorEq, ne_eq, Nat.reduceLT, Nat.reduceLeDiff, gt_iff_lt, ge_iff_le, Int.reduceToNat, Nat.reduceSub, c15, x15, ints_ext, ints_set, true_and, z43_size, sb_fold, put43, zr43, put43s, putc_size]) | (first | ((with_reducible apply app_at); (first | omega | (simp only [LN] at *; omega)))) | ((with_reducible first | apply bound_of | apply wr_i64 | apply wr_u8 | apply wr_u64); (first | omega | (simp only [LN] at *; omega)); (first | omega | (simp only [LN] at *; omega))) | ((with_reducible apply ld_row); (focus ((repeat' first | (with_reducible first | assumption | apply Own.set | apply Own.new | apply Own.newD | apply Own.drew | apply Row.drew | apply Row.set | apply Row.new | apply Row.newD | apply Own.alloc | apply Row.alloc | apply Own.ne | apply Row.ne | apply Own.row) | (first | omega | (simp only [LN] at *; omega))); done))) | ((with_reducible apply ldN_row); (focus ((repeat' first | (with_reducible first | assumption | apply Own.set | apply Own.new | apply Own.newD | apply Own.drew | apply Row.drew | apply Row.set | apply Row.new | apply Row.newD | apply Own.alloc | apply Row.alloc | apply Own.ne | apply Row.ne | apply Own.row) | (first | omega | (simp only [LN] at *; omega))); done)); (first | omega | (simp only [LN] at *; omega))) | ((with_reducible apply st_row); (focus ((repeat' first | (with_reducible first | assumption | apply Own.set | apply Own.new | apply Own.newD | apply Own.drew | apply Row.drew | apply Row.set | apply Row.new | apply Row.newD | apply Own.alloc | apply Row.alloc | apply Own.ne | apply Row.ne | apply Own.row) | (first | omega | (simp only [LN] at *; omega))); done)); (first | omega | (simp only [LN] at *; omega)); rfl) | ((with_reducible first | apply ints_at | apply le_andI | apply le_andN | apply ne_andI); (first | omega | (simp only [LN] at *; omega))) | (with_reducible refine ite_of (fun _ => ?_) (fun _ => ?_)))
      · rename_i hlk
        refine ⟨k + 1, ?_, by omega, by omega⟩
        rw [hk2]
        (first | rfl | (simp only [List.cons.injEq, Prod.mk.injEq, Value.int.injEq, Value.bool.injEq, true_and, and_true, List.cons_append, List.nil_append]; done) | (simp only [List.cons.injEq, Prod.mk.injEq, Value.int.injEq, Value.bool.injEq, true_and, and_true, List.cons_append, List.nil_append]; omega))
      · exfalso
        rename_i hlk hge
        have := hk3 (by omega)
        omega
      · rename_i hlk hge
        refine loop_of (σ := Nat) (fun k => [(6, .slice (some ⟨b, 0, none⟩) L.length cap), (10, .int .i64 (i : Int)), (13, .int .i64 (k : Int))])
          (fun k w3 => k ≤ i ∧ Own w3 b ((fl L).map (Value.int .i64) ++ rest).toArray ∧ Fr no w w3) (fun k => i - k) 0 rfl ⟨by omega, hob, hfr⟩ ?_
        clear hob hfr
        rintro q w3 ⟨hq, hob, hfr⟩
        (repeat' first | (simp only [RA, MI, S.dst, Nat.reduceAdd, Nat.reduceMul, Nat.reduceEqDiff, ↓reduceIte, reduceCtorEq, ne_eq, Nat.reduceLT, Nat.reduceLeDiff, gt_iff_lt, ge_iff_le, Int.reduceToNat, Nat.reduceSub, c15, x15, ints_ext, ints_set, true_and, z43_size, sb_fold, put43, zr43, put43s, putc_size]) | (first | ((with_reducible apply app_at); (first | omega | (simp only [LN] at *; omega)))) | ((with_reducible first | apply bound_of | apply wr_i64 | apply wr_u8 | apply wr_u64); (first | omega | (simp only [LN] at *; omega)); (first | omega | (simp only [LN] at *; omega))) | ((with_reducible apply ld_row); (focus ((repeat' first | (with_reducible first | assumption | apply Own.set | apply Own.new | apply Own.newD | apply Own.drew | apply Row.drew | apply Row.set | apply Row.new | apply Row.newD | apply Own.alloc | apply Row.alloc | apply Own.ne | apply Row.ne | apply Own.row) | (first | omega | (simp only [LN] at *; omega))); done))) | ((with_reducible apply ldN_row); (focus ((repeat' first | (with_reducible first | assumption | apply Own.set | apply Own.new | apply Own.newD | apply Own.drew | apply Row.drew | apply Row.set | apply Row.new | apply Row.newD | apply Own.alloc | apply Row.alloc | apply Own.ne | apply Row.ne | apply Own.row) | (first | omega | (simp only [LN] at *; omega))); done)); (first | omega | (simp only [LN] at *; omega))) | ((with_reducible apply st_row); (focus ((repeat' first | (with_reducible first | assumption | apply Own.set | apply Own.new | apply Own.newD | apply Own.drew | apply Row.drew | apply Row.set | apply Row.new | apply Row.newD | apply Own.alloc | apply Row.alloc | apply Own.ne | apply Row.ne | apply Own.row) | (first | omega | (simp only [LN] at *; omega))); done)); (first | omega | (simp only [LN] at *; omega)); rfl) | ((with_reducible first | apply ints_at | apply le_andI | apply le_andN | apply ne_andI); (first | omega | (simp only [LN] at *; omega))) | (with_reducible refine ite_of (fun _ => ?_) (fun _ => ?_)))
        · exfalso
          rename_i hqi heq
          obtain ⟨u, hu⟩ : ∃ u, L[q]? = some u := ⟨_, List.getElem?_eq_getElem (by omega)⟩
          obtain ⟨f1, _, _⟩ := fl_g L q u hu
          have hnd := hI.nod
          have hlq : q < (L.map (·.1)).length := by simp; omega
          have hli : i < (L.map (·.1)).length := by simp; omega
          have a1 : (L.map (·.1))[q]? = some u.1 := by simp [hu]
          have a2 : (L.map (·.1))[i]? = some t.1 := by simp [ht]
          have hne := List.pairwise_iff_getElem.1 hnd q i hlq hli (by omega)
          rw [List.getElem?_eq_getElem hlq] at a1
          rw [List.getElem?_eq_getElem hli] at a2
          rw [Option.some.inj a1, Option.some.inj a2] at hne
          omega
        · rename_i hqi heq
          refine ⟨q + 1, ?_, ⟨by omega, hob.drew, by (focus ((repeat' first | (with_reducible first | assumption | apply Fr.drew | apply Fr.alloc | apply Fr.setRow | exact Fr.refl _ _) | (intro _; rfl) | (intro hb; simp only [X.no] at *; omega)); done))⟩, by omega⟩
          (first | rfl | (simp only [List.cons.injEq, Prod.mk.injEq, Value.int.injEq, Value.bool.injEq, true_and, and_true, List.cons_append, List.nil_append]; done) | (simp only [List.cons.injEq, Prod.mk.injEq, Value.int.injEq, Value.bool.injEq, true_and, and_true, List.cons_append, List.nil_append]; omega))
        · rename_i hqi
          refine ⟨i + 1, ?_, ⟨by omega, hob, hfr⟩, by omega⟩
          (first | rfl | (simp only [List.cons.injEq, Prod.mk.injEq, Value.int.injEq, Value.bool.injEq, true_and, and_true, List.cons_append, List.nil_append]; done) | (simp only [List.cons.injEq, Prod.mk.injEq, Value.int.injEq, Value.bool.injEq, true_and, and_true, List.cons_append, List.nil_append]; omega))
    · rename_i hlt
      exact ⟨L, b, cap, rest, hI, by omega, rfl, hob, hfr⟩
end Go.Proofs.Ytomckpllbihikaa
