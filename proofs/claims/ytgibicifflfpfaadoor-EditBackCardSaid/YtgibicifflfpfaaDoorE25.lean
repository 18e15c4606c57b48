/-
  Parse: walked. Conditions: none.
-/
import Derived.Test.YtgibicifflfpfaaDoorE24
set_option autoImplicit false
set_option linter.unusedSimpArgs false
set_option linter.unusedVariables false
namespace Go.Proofs.YtgibicifflfpfaaDoor
open X
set_option maxRecDepth 10000
set_option maxHeartbeats 1000000

theorem e_nil {P : Program} {K : Env → World → Prop} {pan : Env → List PanicEntry → World → Prop} {e : Env} {w : World} : vcOpsE P [] K pan e w = K e w := (rfl)
theorem e_keep {P : Program} {ks : List Nat} {r : List G} {K : Env → World → Prop} {pan : Env → List PanicEntry → World → Prop} {e : Env} {w : World} : vcOpsE P (.keep ks :: r) K pan e w = vcOpsE P r K pan (X.keep e ks) w := (rfl)
theorem e_op {P : Program} {s : S} {r : List G} {K : Env → World → Prop} {pan : Env → List PanicEntry → World → Prop} {e : Env} {w : World} : vcOpsE P (.op s none :: r) K pan e w = opVC P s (vcOpsE P r K pan) (pan e) e w := (rfl)
theorem vRef : zval Tryd.prog 65 = .agg #[.int .i64 0, .int .i64 0] := by kernel_rfl
theorem z3 : zcells Tryd.prog 3 = #[.int .i64 0] := by kernel_rfl
theorem zErr : zcells Tryd.prog 27 = #[.int .i64 0] := by kernel_rfl
theorem zRdr : zcells Tryd.prog 68 = #[.string (ba []), .int .i64 0] := by kernel_rfl
theorem d_nor (R : Ending → FrameMode → World → Prop) (u : FrameMode) (e : Env) (w : World) : (dPost R u).nor e w = R (.returned (.tuple #[])) u w := (rfl)
theorem d_ret (R : Ending → FrameMode → World → Prop) (u : FrameMode) (e : Env) (w : World) : (dPost R u).ret e w = R (.returned (.tuple #[])) u w := (rfl)
theorem door_ret {w : World} {b2 b3 b4 : Nat} {R : Ending → FrameMode → World → Prop} (h : R (.returned (.tuple #[])) .returning w) :
    CallsD Tryd.prog 21 [.pointer (some ⟨b2, 0, none⟩), .pointer (some ⟨b3, 0, none⟩), .pointer (some ⟨b4, 0, none⟩)].toArray .returning w R := by
  refine enter21 (v := .nilIface) (u' := .returning) (by simp) (.inr ⟨rfl, rfl, rfl⟩) ?_
  (repeat' first | (simp only [RA, MI, S.dst, Nat.reduceAdd, Nat.reduceMul, Nat.reduceEqDiff, ↓reduceIte, reduceCtorEq, ne_eq, Nat.reduceLT, Nat.reduceLeDiff, gt_iff_lt, ge_iff_le, Int.reduceToNat, Nat.reduceSub, Int.reduceEq, Int.reduceLT, Int.reduceLE, not_true_eq_false, c21, x21.down, vRef, zRef, zEd, d_nor, d_ret, btE, tup_10, List.take_length, ba_nil, ba_size, ba_list, ba_ext, ba_add, true_and, at_z, at_s, putc1, putc4, List.setIfInBounds_toArray, List.set_cons_zero, List.set_cons_succ, List.size_toArray, List.length_cons, List.length_nil, List.toList_toArray]) | ((with_reducible first | apply ld_r | apply ldN_a | apply ldN_r | apply st_r | apply stN_a); (exact X.rws)) | ((with_reducible first | apply bound_of | apply wr_i64 | apply wr_u8 | apply wr_u64 | apply wr_i32 | apply wr_i16 | apply wr_u32 | apply wr_u16); (exact X.om); (exact X.om)) | ((with_reducible first | apply ints_at | apply le_andI | apply le_andN | apply ne_andI); (exact X.om)) | ((with_reducible first | apply same_and | apply same_andW); (exact X.olz)) | (with_reducible refine ite_of (fun _ => ?_) (fun _ => ?_)))
  exact h
theorem door_pan {w : World} {b2 b3 b4 : Nat} {x : Nat × Int} {e : Ed} {m n : Int} {R : Ending → FrameMode → World → Prop} (h2 : Own w b2 (edC e)) (h3 : Own w b3 #[.int .i64 m]) (h4 : Own w b4 #[.int .i64 n]) (hne : b2 < b3 ∧ b3 < b4)
    (h : ∀ w', Fr (fun k => b2 ≤ k) w w' → Own w' b2 (edC ed0) → Own w' b3 #[.int .i64 x.1] → Own w' b4 #[.int .i64 x.2] → R (.returned (.tuple #[])) (.panicking [{ v := refV x, recovered := true }]) w') :
    CallsD Tryd.prog 21 [.pointer (some ⟨b2, 0, none⟩), .pointer (some ⟨b3, 0, none⟩), .pointer (some ⟨b4, 0, none⟩)].toArray (.panicking [{ v := refV x, recovered := false }]) w R := by
  refine enter21 (v := refV x) (u' := .panicking [{ v := refV x, recovered := true }]) (by simp) (.inl ⟨[], rfl, rfl⟩) ?_
  unfold refV at h ⊢
  unfold edC at h2 h
  (repeat' first | (simp only [RA, MI, S.dst, Nat.reduceAdd, Nat.reduceMul, Nat.reduceEqDiff, ↓reduceIte, reduceCtorEq, ne_eq, Nat.reduceLT, Nat.reduceLeDiff, gt_iff_lt, ge_iff_le, Int.reduceToNat, Nat.reduceSub, Int.reduceEq, Int.reduceLT, Int.reduceLE, not_true_eq_false, c21, x21.down, vRef, zRef, zEd, d_nor, d_ret, btE, tup_10, List.take_length, ba_nil, ba_size, ba_list, ba_ext, ba_add, true_and, at_z, at_s, putc1, putc4, List.setIfInBounds_toArray, List.set_cons_zero, List.set_cons_succ, List.size_toArray, List.length_cons, List.length_nil, List.toList_toArray]) | ((with_reducible first | apply ld_r | apply ldN_a | apply ldN_r | apply st_r | apply stN_a); (exact X.rws)) | ((with_reducible first | apply bound_of | apply wr_i64 | apply wr_u8 | apply wr_u64 | apply wr_i32 | apply wr_i16 | apply wr_u32 | apply wr_u16); (exact X.om); (exact X.om)) | ((with_reducible first | apply ints_at | apply le_andI | apply le_andN | apply ne_andI); (exact X.om)) | ((with_reducible first | apply same_and | apply same_andW); (exact X.olz)) | (with_reducible refine ite_of (fun _ => ?_) (fun _ => ?_)))
  have hlt2 := h2.lt
  have hlt3 := h3.lt
  have hlt4 := h4.lt
  generalize hW : World.drew _ = w1
  have o2 : Own w1 b2 #[.int .i64 e.kind, .int .i64 e.a, .int .i64 e.b, .int .i64 e.c, .int .i64 e.d, .string (ba e.body)] := by rw [← hW]; (exact X.rws)
  have o3 : Own w1 b3 #[.int .i64 m] := by rw [← hW]; (exact X.rws)
  have o4 : Own w1 b4 #[.int .i64 n] := by rw [← hW]; (exact X.rws)
  have hF : Fr no w w1 := by rw [← hW]; (exact X.frz)
  clear hW h2 h3 h4
  (repeat' first | (simp only [RA, MI, S.dst, Nat.reduceAdd, Nat.reduceMul, Nat.reduceEqDiff, ↓reduceIte, reduceCtorEq, ne_eq, Nat.reduceLT, Nat.reduceLeDiff, gt_iff_lt, ge_iff_le, Int.reduceToNat, Nat.reduceSub, Int.reduceEq, Int.reduceLT, Int.reduceLE, not_true_eq_false, c21, x21.down, vRef, zRef, zEd, d_nor, d_ret, btE, tup_10, List.take_length, ba_nil, ba_size, ba_list, ba_ext, ba_add, true_and, at_z, at_s, putc1, putc4, List.setIfInBounds_toArray, List.set_cons_zero, List.set_cons_succ, List.size_toArray, List.length_cons, List.length_nil, List.toList_toArray]) | ((with_reducible first | apply ld_r | apply ldN_a | apply ldN_r | apply st_r | apply stN_a); (exact X.rws)) | ((with_reducible first | apply bound_of | apply wr_i64 | apply wr_u8 | apply wr_u64 | apply wr_i32 | apply wr_i16 | apply wr_u32 | apply wr_u16); (exact X.om); (exact X.om)) | ((with_reducible first | apply ints_at | apply le_andI | apply le_andN | apply ne_andI); (exact X.om)) | ((with_reducible first | apply same_and | apply same_andW); (exact X.olz)) | (with_reducible refine ite_of (fun _ => ?_) (fun _ => ?_)))
  exact h _ ((hF.mono fun _ _ h => h.elim).trans' (S := fun k => b2 ≤ k) (S' := fun k => b2 ≤ k) ((((Fr.refl _ w1).setRow _ _ fun _ => Nat.le_refl _).setRow _ _ fun _ => by omega).setRow _ _ fun _ => by omega) fun k _ h => h) (by unfold ed0; (exact X.rws)) (by (exact X.rws)) (by (exact X.rws))
theorem Parse_any (w : World) (s : List UInt8) (hs : s.length < 100000000000) (hT : TN w) : Calls Tryd.prog 13 [.string (ba s)].toArray w fun r w' =>
    r = .returned (.tuple #[.agg (edC (parseL s).1), .int .i64 (parseL s).2.1, .int .i64 (parseL s).2.2]) ∧ Fr no w w' := by
  refine enterParse (by simp) ?_
  (repeat' first | (simp only [RA, MI, S.dst, Nat.reduceAdd, Nat.reduceMul, Nat.reduceEqDiff, ↓reduceIte, reduceCtorEq, ne_eq, Nat.reduceLT, Nat.reduceLeDiff, gt_iff_lt, ge_iff_le, Int.reduceToNat, Nat.reduceSub, Int.reduceEq, Int.reduceLT, Int.reduceLE, not_true_eq_false, rsP, gp0, gp2, gp3, e_nil, e_keep, e_op, zEd, z3, zErr, zRdr, btE, tup_10, List.take_length, ba_nil, ba_size, ba_list, ba_ext, ba_add, true_and, at_z, at_s, putc1, putc4, List.setIfInBounds_toArray, List.set_cons_zero, List.set_cons_succ, List.size_toArray, List.length_cons, List.length_nil, List.toList_toArray]) | ((with_reducible first | apply ld_r | apply ldN_a | apply ldN_r | apply st_r | apply stN_a); (exact X.rws)) | ((with_reducible first | apply bound_of | apply wr_i64 | apply wr_u8 | apply wr_u64 | apply wr_i32 | apply wr_i16 | apply wr_u32 | apply wr_u16); (exact X.om); (exact X.om)) | ((with_reducible first | apply ints_at | apply le_andI | apply le_andN | apply ne_andI); (exact X.om)) | ((with_reducible first | apply same_and | apply same_andW); (exact X.olz)) | (with_reducible refine ite_of (fun _ => ?_) (fun _ => ?_)))
  simp only [sz_alloc]
  generalize hW : World.alloc (World.alloc (World.alloc (World.alloc w _) _) _) _ = w4
  have hF : Fr no w w4 := by rw [← hW]; (exact X.frz)
  have h2 : Own w4 w.heap.size (edC ed0) := by rw [← hW]; unfold edC ed0; (exact X.rws)
  have h3 : Own w4 (w.heap.size + 1) #[.int .i64 0] := by rw [← hW]; (exact X.rws)
  have h4 : Own w4 (w.heap.size + 1 + 1) #[.int .i64 0] := by rw [← hW]; (exact X.rws)
  have hr : RD w4 (w.heap.size + 1 + 1 + 1) s 0 := by rw [← hW]; exact Own.newE (by simp only [sz_alloc])
  clear hW
  have hTl := hT.lt
  refine calls_mono (edit_any w4 (w.heap.size + 1 + 1 + 1) s hr hs (hT.fr hF fun h => h) (by omega)) ?_
  rintro r w5 ⟨hF5, ht⟩
  replace hF := hF.trans' hF5 fun k hk h => absurd h (by omega)
  replace h2 := h2.fr hF5 (by omega)
  replace h3 := h3.fr hF5 (by omega)
  replace h4 := h4.fr hF5 (by omega)
  unfold parseL
  cases hp : parseP s with
  | error x =>
    rw [hp] at ht
    obtain rfl : r = panE x := ht
    unfold panE
    simp only [call_pan]
    refine door_pan (x := x) h2 h3 h4 (by omega) fun w' hF' o2 o3 o4 => ⟨rfl, ?_⟩
    replace hF := hF.trans' hF' fun k hk h => absurd h (by omega)
    unfold edC ed0 at o2
    (repeat' first | (simp only [RA, MI, S.dst, Nat.reduceAdd, Nat.reduceMul, Nat.reduceEqDiff, ↓reduceIte, reduceCtorEq, ne_eq, Nat.reduceLT, Nat.reduceLeDiff, gt_iff_lt, ge_iff_le, Int.reduceToNat, Nat.reduceSub, Int.reduceEq, Int.reduceLT, Int.reduceLE, not_true_eq_false, rsP, gp0, gp2, gp3, e_nil, e_keep, e_op, zEd, z3, zErr, zRdr, btE, tup_10, List.take_length, ba_nil, ba_size, ba_list, ba_ext, ba_add, true_and, at_z, at_s, putc1, putc4, List.setIfInBounds_toArray, List.set_cons_zero, List.set_cons_succ, List.size_toArray, List.length_cons, List.length_nil, List.toList_toArray]) | ((with_reducible first | apply ld_r | apply ldN_a | apply ldN_r | apply st_r | apply stN_a); (exact X.rws)) | ((with_reducible first | apply bound_of | apply wr_i64 | apply wr_u8 | apply wr_u64 | apply wr_i32 | apply wr_i16 | apply wr_u32 | apply wr_u16); (exact X.om); (exact X.om)) | ((with_reducible first | apply ints_at | apply le_andI | apply le_andN | apply ne_andI); (exact X.om)) | ((with_reducible first | apply same_and | apply same_andW); (exact X.olz)) | (with_reducible refine ite_of (fun _ => ?_) (fun _ => ?_)))
    exact ⟨rfl, hF⟩
  | ok e =>
    rw [hp] at ht
    obtain rfl : r = .returned (.agg (edC e)) := ht
    unfold edC at h2 ⊢
    (repeat' first | (simp only [RA, MI, S.dst, Nat.reduceAdd, Nat.reduceMul, Nat.reduceEqDiff, ↓reduceIte, reduceCtorEq, ne_eq, Nat.reduceLT, Nat.reduceLeDiff, gt_iff_lt, ge_iff_le, Int.reduceToNat, Nat.reduceSub, Int.reduceEq, Int.reduceLT, Int.reduceLE, not_true_eq_false, rsP, gp0, gp2, gp3, e_nil, e_keep, e_op, zEd, z3, zErr, zRdr, btE, tup_10, List.take_length, ba_nil, ba_size, ba_list, ba_ext, ba_add, true_and, at_z, at_s, putc1, putc4, List.setIfInBounds_toArray, List.set_cons_zero, List.set_cons_succ, List.size_toArray, List.length_cons, List.length_nil, List.toList_toArray]) | ((with_reducible first | apply ld_r | apply ldN_a | apply ldN_r | apply st_r | apply stN_a); (exact X.rws)) | ((with_reducible first | apply bound_of | apply wr_i64 | apply wr_u8 | apply wr_u64 | apply wr_i32 | apply wr_i16 | apply wr_u32 | apply wr_u16); (exact X.om); (exact X.om)) | ((with_reducible first | apply ints_at | apply le_andI | apply le_andN | apply ne_andI); (exact X.om)) | ((with_reducible first | apply same_and | apply same_andW); (exact X.olz)) | (with_reducible refine ite_of (fun _ => ?_) (fun _ => ?_)))
    refine door_ret ⟨rfl, ?_⟩
    (repeat' first | (simp only [RA, MI, S.dst, Nat.reduceAdd, Nat.reduceMul, Nat.reduceEqDiff, ↓reduceIte, reduceCtorEq, ne_eq, Nat.reduceLT, Nat.reduceLeDiff, gt_iff_lt, ge_iff_le, Int.reduceToNat, Nat.reduceSub, Int.reduceEq, Int.reduceLT, Int.reduceLE, not_true_eq_false, rsP, gp0, gp2, gp3, e_nil, e_keep, e_op, zEd, z3, zErr, zRdr, btE, tup_10, List.take_length, ba_nil, ba_size, ba_list, ba_ext, ba_add, true_and, at_z, at_s, putc1, putc4, List.setIfInBounds_toArray, List.set_cons_zero, List.set_cons_succ, List.size_toArray, List.length_cons, List.length_nil, List.toList_toArray]) | ((with_reducible first | apply ld_r | apply ldN_a | apply ldN_r | apply st_r | apply stN_a); (exact X.rws)) | ((with_reducible first | apply bound_of | apply wr_i64 | apply wr_u8 | apply wr_u64 | apply wr_i32 | apply wr_i16 | apply wr_u32 | apply wr_u16); (exact X.om); (exact X.om)) | ((with_reducible first | apply ints_at | apply le_andI | apply le_andN | apply ne_andI); (exact X.om)) | ((with_reducible first | apply same_and | apply same_andW); (exact X.olz)) | (with_reducible refine ite_of (fun _ => ?_) (fun _ => ?_)))
    exact ⟨rfl, by (exact X.frz)⟩
end Go.Proofs.YtgibicifflfpfaaDoor
