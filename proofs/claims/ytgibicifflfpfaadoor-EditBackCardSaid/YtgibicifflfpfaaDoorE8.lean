/-
  MustTurn; the document's cleanness: walked. Conditions: none.
-/
import Derived.Test.YtgibicifflfpfaaDoorE5
import Derived.Test.YtgibicifflfpfaaDoorE3
set_option autoImplicit false
set_option linter.unusedSimpArgs false
set_option linter.unusedVariables false
namespace Go.Proofs.YtgibicifflfpfaaDoor
open X
set_option maxRecDepth 10000
set_option maxHeartbeats 1000000

theorem MustTurn_any (w : World) (e : Ed) (h : e.kind = 0) : Calls Tryd.prog 11 [opV e].toArray w fun r w' => r = .returned (.int .i64 e.a) ∧ w' = w := by
  refine enter11 (by simp) ?_
  unfold opV
  simp only [h]
  simp only [↓reduceIte]
  (repeat' first | (simp only [RA, MI, S.dst, Nat.reduceAdd, Nat.reduceMul, Nat.reduceEqDiff, ↓reduceIte, reduceCtorEq, ne_eq, Nat.reduceLT, Nat.reduceLeDiff, gt_iff_lt, ge_iff_le, Int.reduceToNat, Nat.reduceSub, Int.reduceEq, Int.reduceLT, Int.reduceLE, not_true_eq_false, c11, x11.down, true_and, at_z, at_s]) | ((with_reducible first | apply ld_r | apply ldN_a | apply ldN_r | apply st_r | apply stN_a); (exact X.rws)) | ((with_reducible first | apply bound_of | apply wr_i64 | apply wr_u8 | apply wr_u64 | apply wr_i32 | apply wr_i16 | apply wr_u32 | apply wr_u16); (exact X.om); (exact X.om)) | ((with_reducible first | apply ints_at | apply le_andI | apply le_andN | apply ne_andI); (exact X.om)) | ((with_reducible first | apply same_and | apply same_andW); (exact X.olz)) | (with_reducible refine ite_of (fun _ => ?_) (fun _ => ?_)))

set_option maxRecDepth 10000
set_option maxHeartbeats 1000000

def litsEd (e : Ed) : List Lit := [.int .i64 e.kind, .int .i64 e.a, .int .i64 e.b, .int .i64 e.c, .int .i64 e.d, .string (ba e.body).data.toList]
/-- As a value of Go is. -/
structure EdOk (e : Ed) : Prop where
  kind : (Lit.int .i64 e.kind).wf = true
  a : (Lit.int .i64 e.a).wf = true
  b : (Lit.int .i64 e.b).wf = true
  c : (Lit.int .i64 e.c).wf = true
  d : (Lit.int .i64 e.d).wf = true
  body : (ba e.body).size ≤ maxLen
theorem keyI (n : Int) (h : (Lit.int .i64 n).wf = true) : Tryd.prog.keyLits 63 3 [.int .i64 n] = some [.int .i64 n] := by
  have e : Tryd.prog.keyLits 63 3 [.int .i64 n] = if IntKind.i64 = IntKind.i64 ∧ (Lit.int .i64 n).wf = true then some [.int .i64 n] else none := rfl
  rw [e, if_pos ⟨rfl, h⟩]
theorem keyS (s : ByteArray) (h : s.size ≤ maxLen) : Tryd.prog.keyLits 63 9 [.string s] = some [.string s.data.toList] := by
  have e : Tryd.prog.keyLits 63 9 [.string s] = if s.size ≤ maxLen then some [.string s.data.toList] else none := rfl
  rw [e, if_pos h]
theorem keyG (e : Ed) : Tryd.prog.keyLits 64 23 (edC e).toList = ([Tryd.prog.keyLits 63 3 [.int .i64 e.kind], Tryd.prog.keyLits 63 3 [.int .i64 e.a], Tryd.prog.keyLits 63 3 [.int .i64 e.b], Tryd.prog.keyLits 63 3 [.int .i64 e.c], Tryd.prog.keyLits 63 3 [.int .i64 e.d], Tryd.prog.keyLits 63 9 [.string (ba e.body)]].mapM id).map List.flatten := by kernel_rfl
theorem keyEd (e : Ed) (h : EdOk e) : Tryd.prog.keyLits 64 23 (edC e).toList = some (litsEd e) := by
  rw [keyG, keyI _ h.kind, keyI _ h.a, keyI _ h.b, keyI _ h.c, keyI _ h.d, keyS _ h.body]
  rfl
theorem formEd (e : Ed) : (Value.agg (edC e)).formed Tryd.prog 23 = true := by kernel_rfl
theorem lits_iff (x y : Ed) : litsEd x = litsEd y ↔ sameEd x y := by
  unfold litsEd sameEd
  rw [ba_list, ba_list]
  simp
theorem aeqEd {x y : Ed} {K : Bool → Prop} (hx : EdOk x) (hy : EdOk y) (h : K (decide (sameEd x y))) : Agg2W Tryd.prog 23 (.agg (edC x)) (.agg (edC y)) K :=
  ⟨_, _, _, formEd x, formEd y, keyEd x hx, keyEd y hy, decide_eq_true_iff.trans (lits_iff x y).symm, h⟩

set_option maxRecDepth 10000
set_option maxHeartbeats 1000000

theorem mTurn : methOk Tryd.prog 36 "Edit" 76 = true := by kernel_rfl
theorem mCrop : methOk Tryd.prog 40 "Edit" 78 = true := by kernel_rfl
theorem mRedact : methOk Tryd.prog 41 "Edit" 81 = true := by kernel_rfl
theorem mPut : methOk Tryd.prog 43 "Edit" 83 = true := by kernel_rfl
theorem mDrop : methOk Tryd.prog 45 "Edit" 85 = true := by kernel_rfl
theorem mNote : methOk Tryd.prog 47 "Edit" 87 = true := by kernel_rfl
theorem bodies : (fnBody Tryd.prog 76 && fnBody Tryd.prog 78 && fnBody Tryd.prog 81 && fnBody Tryd.prog 83 && fnBody Tryd.prog 85 && fnBody Tryd.prog 87) = true := by kernel_rfl
theorem Edit_any (w : World) (e : Ed) (h : kindOk e) {K : TypeId → Value → Prop} (hK : ∀ t v f, methOk Tryd.prog t "Edit" f = true → fnBody Tryd.prog f = true →
    Calls Tryd.prog f [v].toArray w (fun r w' => r = .returned (.agg (edC (edOf e))) ∧ Fr no w w') → K t v) : IfV (opV e) K := by
  have hb := bodies
  simp only [Bool.and_eq_true] at hb
  obtain ⟨⟨⟨⟨⟨b0, b1⟩, b2⟩, b3⟩, b4⟩, b5⟩ := hb
  unfold opV
  rcases h with h | h | h | h | h | h
  all_goals
    simp only [h, edOf] at hK ⊢
    simp only [Int.reduceEq, ↓reduceIte] at hK ⊢
    rw [iv_if]
  · exact hK _ _ _ mTurn b0 (editTurn_any w _)
  · exact hK _ _ _ mCrop b1 (editCrop_any w _ _ _ _)
  · exact hK _ _ _ mRedact b2 (editRedact_any w _ _ _ _)
  · exact hK _ _ _ mPut b3 (editPut_any w _ _ _)
  · exact hK _ _ _ mDrop b4 (editDrop_any w _)
  · exact hK _ _ _ mNote b5 (editNote_any w _)
end Go.Proofs.YtgibicifflfpfaaDoor
