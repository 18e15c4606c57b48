/-
  The reader of edits: an edit: walked. Conditions: none.
-/
import Derived.Test.YtgibicifflfpfaaDoorE23
set_option autoImplicit false
set_option linter.unusedSimpArgs false
set_option linter.unusedVariables false
namespace Go.Proofs.YtgibicifflfpfaaDoor
open X
set_option maxRecDepth 10000
set_option maxHeartbeats 1000000

/-- The cells of an edit, in a block. -/
def EO (w : World) (b : Nat) (e : Ed) : Prop := Own w b (edC e)
/-- The end: nothing is left. -/
def tE : C := (.seq (.seq (.regionD r22_30) (.cond (.tmp 89) (.region r22_31) .skip)) (.seq (.region r22_32) .ret))
def EdP (w : World) (b : Nat) (s : List UInt8) : Ending → World → Prop := fun r w' => Fr (· = b) w w' ∧ Thr (parseP s) r fun e => r = .returned (.agg (edC e))
theorem tE_any {w1 : World} {b b2 be j : Nat} {s : List UInt8} {e : Ed} {x : Env} {R : Ending → World → Prop} (hr : RD w1 b s j) (he : EO w1 be e) (h2 : Own w1 b2 (edC ed0)) (hne : b2 ≠ be) (hs : j ≤ s.length)
    (hR1 : j < s.length → ∀ w', Fr no w1 w' → R (panE (j, 16)) w') (hR2 : ¬ j < s.length → ∀ w', Fr (· = b2) w1 w' → R (.returned (.agg (edC e))) w') :
    vc Tryd.prog tE (endPost [.cN 2 6] R) ((0, .pointer (some ⟨b, 0, none⟩)) :: (2, .pointer (some ⟨b2, 0, none⟩)) :: (3, .pointer (some ⟨be, 0, none⟩)) :: x) w1 := by
  have hr0 := hr
  unfold RD at hr
  unfold EO edC at he
  unfold edC at h2
  (repeat' first | (simp only [RA, MI, S.dst, Nat.reduceAdd, Nat.reduceMul, Nat.reduceEqDiff, ↓reduceIte, reduceCtorEq, ne_eq, Nat.reduceLT, Nat.reduceLeDiff, gt_iff_lt, ge_iff_le, Int.reduceToNat, Nat.reduceSub, Int.reduceEq, Int.reduceLT, Int.reduceLE, not_true_eq_false, x22.down, tE, btE, tup_10, List.take_length, ba_nil, ba_size, ba_list, ba_ext, ba_add, true_and, at_z, at_s, putc1, putc4, List.setIfInBounds_toArray, List.set_cons_zero, List.set_cons_succ, List.size_toArray, List.length_cons, List.length_nil, List.toList_toArray]) | ((with_reducible first | apply ld_r | apply ldN_a | apply ldN_r | apply st_r | apply stN_a); (exact X.rws)) | ((with_reducible first | apply bound_of | apply wr_i64 | apply wr_u8 | apply wr_u64 | apply wr_i32 | apply wr_i16 | apply wr_u32 | apply wr_u16); (exact X.om); (exact X.om)) | ((with_reducible first | apply ints_at | apply le_andI | apply le_andN | apply ne_andI); (exact X.om)) | ((with_reducible first | apply same_and | apply same_andW); (exact X.olz)) | (with_reducible refine ite_of (fun _ => ?_) (fun _ => ?_)))
  · rename_i hj
    refine calls_mono (fail_any w1.drew b s j j hr0.drew) ?_
    rintro _ w3 ⟨rfl, hF3⟩
    have e0 : errAt s j = (j, 16) := by rw [errAt, if_neg (by omega)]
    rw [e0]
    unfold panE
    simp only [call_pan, p_block_pan, p_then_pan, p_end_pan]
    exact hR1 (by omega) _ (((Fr.refl X.no w1).drew).and hF3)
  · rename_i hj
    exact hR2 (by omega) _ (((Fr.refl _ w1).drew).setRow _ _ fun _ => rfl)
theorem bw_turn : ({ data := #[116, 117, 114, 110] } : ByteArray) = ba [116, 117, 114, 110] := (rfl)
theorem bw_crop : ({ data := #[99, 114, 111, 112] } : ByteArray) = ba [99, 114, 111, 112] := (rfl)
theorem bw_redact : ({ data := #[114, 101, 100, 97, 99, 116] } : ByteArray) = ba [114, 101, 100, 97, 99, 116] := (rfl)
theorem bw_put : ({ data := #[112, 117, 116] } : ByteArray) = ba [112, 117, 116] := (rfl)
theorem bw_drop : ({ data := #[100, 114, 111, 112] } : ByteArray) = ba [100, 114, 111, 112] := (rfl)
theorem bw_note : ({ data := #[110, 111, 116, 101] } : ByteArray) = ba [110, 111, 116, 101] := (rfl)
theorem kwEq : (((ba [116, 117, 114, 110]).toList == (ba [116, 117, 114, 110]).toList) = true) ∧
    (((ba [116, 117, 114, 110]).toList == (ba [99, 114, 111, 112]).toList) = false) ∧
    (((ba [116, 117, 114, 110]).toList == (ba [114, 101, 100, 97, 99, 116]).toList) = false) ∧
    (((ba [116, 117, 114, 110]).toList == (ba [112, 117, 116]).toList) = false) ∧
    (((ba [116, 117, 114, 110]).toList == (ba [100, 114, 111, 112]).toList) = false) ∧
    (((ba [116, 117, 114, 110]).toList == (ba [110, 111, 116, 101]).toList) = false) ∧
    (((ba [99, 114, 111, 112]).toList == (ba [116, 117, 114, 110]).toList) = false) ∧
    (((ba [99, 114, 111, 112]).toList == (ba [99, 114, 111, 112]).toList) = true) ∧
    (((ba [99, 114, 111, 112]).toList == (ba [114, 101, 100, 97, 99, 116]).toList) = false) ∧
    (((ba [99, 114, 111, 112]).toList == (ba [112, 117, 116]).toList) = false) ∧
    (((ba [99, 114, 111, 112]).toList == (ba [100, 114, 111, 112]).toList) = false) ∧
    (((ba [99, 114, 111, 112]).toList == (ba [110, 111, 116, 101]).toList) = false) ∧
    (((ba [114, 101, 100, 97, 99, 116]).toList == (ba [116, 117, 114, 110]).toList) = false) ∧
    (((ba [114, 101, 100, 97, 99, 116]).toList == (ba [99, 114, 111, 112]).toList) = false) ∧
    (((ba [114, 101, 100, 97, 99, 116]).toList == (ba [114, 101, 100, 97, 99, 116]).toList) = true) ∧
    (((ba [114, 101, 100, 97, 99, 116]).toList == (ba [112, 117, 116]).toList) = false) ∧
    (((ba [114, 101, 100, 97, 99, 116]).toList == (ba [100, 114, 111, 112]).toList) = false) ∧
    (((ba [114, 101, 100, 97, 99, 116]).toList == (ba [110, 111, 116, 101]).toList) = false) ∧
    (((ba [112, 117, 116]).toList == (ba [116, 117, 114, 110]).toList) = false) ∧
    (((ba [112, 117, 116]).toList == (ba [99, 114, 111, 112]).toList) = false) ∧
    (((ba [112, 117, 116]).toList == (ba [114, 101, 100, 97, 99, 116]).toList) = false) ∧
    (((ba [112, 117, 116]).toList == (ba [112, 117, 116]).toList) = true) ∧
    (((ba [112, 117, 116]).toList == (ba [100, 114, 111, 112]).toList) = false) ∧
    (((ba [112, 117, 116]).toList == (ba [110, 111, 116, 101]).toList) = false) ∧
    (((ba [100, 114, 111, 112]).toList == (ba [116, 117, 114, 110]).toList) = false) ∧
    (((ba [100, 114, 111, 112]).toList == (ba [99, 114, 111, 112]).toList) = false) ∧
    (((ba [100, 114, 111, 112]).toList == (ba [114, 101, 100, 97, 99, 116]).toList) = false) ∧
    (((ba [100, 114, 111, 112]).toList == (ba [112, 117, 116]).toList) = false) ∧
    (((ba [100, 114, 111, 112]).toList == (ba [100, 114, 111, 112]).toList) = true) ∧
    (((ba [100, 114, 111, 112]).toList == (ba [110, 111, 116, 101]).toList) = false) ∧
    (((ba [110, 111, 116, 101]).toList == (ba [116, 117, 114, 110]).toList) = false) ∧
    (((ba [110, 111, 116, 101]).toList == (ba [99, 114, 111, 112]).toList) = false) ∧
    (((ba [110, 111, 116, 101]).toList == (ba [114, 101, 100, 97, 99, 116]).toList) = false) ∧
    (((ba [110, 111, 116, 101]).toList == (ba [112, 117, 116]).toList) = false) ∧
    (((ba [110, 111, 116, 101]).toList == (ba [100, 114, 111, 112]).toList) = false) ∧
    (((ba [110, 111, 116, 101]).toList == (ba [110, 111, 116, 101]).toList) = true) := by
  simp only [ba_eq]; decide
theorem zS6 : zrep (zcells Tryd.prog 9) 6 = #[.string (ba []), .string (ba []), .string (ba []), .string (ba []), .string (ba []), .string (ba [])] := by kernel_rfl
theorem zP1 : zrep (zcells Tryd.prog 86) 1 = #[.pointer none] := by kernel_rfl
theorem zP4 : zrep (zcells Tryd.prog 86) 4 = #[.pointer none, .pointer none, .pointer none, .pointer none] := by kernel_rfl
theorem wd_map (ws : List (List UInt8)) {k : Nat} (h : k < ws.length) : (ws.map fun s => Value.string (ba s)).toArray[0 + k]? = some (.string (ba (ws.getD k []))) := by
  rw [List.getElem?_toArray, Nat.zero_add, List.getElem?_map, List.getD_eq_getElem?_getD, List.getElem?_eq_getElem h]; rfl
theorem zStr : (zcells Tryd.prog 9).size = 1 := by kernel_rfl
theorem bnP_le {s : List UInt8} {i limit n j : Nat} (hi : i ≤ s.length) (h : bnP s i limit = .ok (n, j)) : j ≤ s.length := by
  unfold bnP at h
  cases hs : spP s i with
  | error x => rw [hs] at h; cases h
  | ok j2 => rw [hs] at h; have := spP_ok hs; exact numP_le (by omega) h
theorem bqP_le {s t : List UInt8} {i j : Nat} (hi : i ≤ s.length) (h : bqP s i = .ok (t, j)) : j ≤ s.length := by
  unfold bqP at h
  cases hs : spP s i with
  | error x => rw [hs] at h; cases h
  | ok j2 =>
    rw [hs] at h
    have h1 := spP_ok hs
    have h2 := unq_le (s.drop j2)
    rw [List.length_drop] at h2
    simp only at h
    unfold quoP at h
    split at h
    · simp only [Except.ok.injEq, Prod.mk.injEq] at h; omega
    · cases h
theorem numsP_len {s : List UInt8} : ∀ {k i j : Nat} {l : List Nat}, i ≤ s.length → numsP s k i = .ok (l, j) → l.length = k ∧ j ≤ s.length
  | 0, i, j, l, hi, h => by
    simp only [numsP, Except.ok.injEq, Prod.mk.injEq] at h
    obtain ⟨rfl, rfl⟩ := h; exact ⟨rfl, hi⟩
  | k + 1, i, j, l, hi, h => by
    unfold numsP at h
    cases h1 : bnP s i 2147483647 with
    | error x => rw [h1] at h; cases h
    | ok y =>
      obtain ⟨n, j2⟩ := y
      rw [h1] at h
      simp only at h
      have h2 := bnP_le hi h1
      cases h3 : numsP s k j2 with
      | error x => rw [h3] at h; cases h
      | ok y =>
        obtain ⟨m, j3⟩ := y
        rw [h3] at h
        simp only [Except.ok.injEq, Prod.mk.injEq] at h
        obtain ⟨rfl, rfl⟩ := h
        have := numsP_len h2 h3
        exact ⟨by simp [this.1], this.2⟩
theorem numsP_one (s : List UInt8) (i : Nat) : numsP s 1 i = match bnP s i 2147483647 with | .error x => .error x | .ok (n, j) => .ok ([n], j) := by
  rw [numsP]
  cases bnP s i 2147483647 <;> rfl
theorem kindW_asc : ∀ k, k < 6 → Asc (kindW.getD k []) ∧ (kindW.getD k []).length < 100 := by
  intro k hk
  match k, hk with
  | 0, _ | 1, _ | 2, _ | 3, _ | 4, _ | 5, _ => exact ⟨by simp [kindW, Asc], by decide⟩
theorem wordL_lt (r : List UInt8) : ∀ (ws : List (List UInt8)) (k m j n : Nat), wordL r ws k m = (some j, n) → j < k + ws.length ∧ n ≤ r.length
  | [], k, m, j, n, h => by simp [wordL] at h
  | w :: ws, k, m, j, n, h => by
    rw [wordL] at h
    split at h
    · rename_i hc
      simp only [Prod.mk.injEq, Option.some.injEq] at h
      obtain ⟨rfl, rfl⟩ := h
      have := (lcp_le r w).1
      exact ⟨by simp, by omega⟩
    · have := wordL_lt r ws (k + 1) _ j n h
      simp only [List.length_cons]; omega
theorem wordP_lt {s : List UInt8} {i k j : Nat} {ws : List (List UInt8)} (hi : i ≤ s.length) (h : wordP s i ws = .ok (k, j)) : k < ws.length ∧ j ≤ s.length := by
  unfold wordP at h
  rcases hw : wordL (s.drop i) ws 0 0 with ⟨_ | k', n⟩
  · rw [hw] at h; cases h
  · rw [hw] at h
    simp only [Except.ok.injEq, Prod.mk.injEq] at h
    have := wordL_lt _ _ _ _ _ _ hw
    rw [List.length_drop] at this
    omega
theorem cE_eq : c22 = (.seq (.region r22_0) (.seq (.region r22_1) (.seq (.seq (.region r22_2) (.block 0 (.seq (.region r22_3) (.cond (.tmp 9) (.seq (.region r22_4) (.seq (.region r22_5) (.seq (.seq (.region r22_6) (.block 1 (.loop (.seq (.region r22_7) (.seq (.cond (.tmp 15) .skip (.exit 1)) (.seq (.block 2 (.seq (.region r22_8) (.region r22_9))) (.region r22_10))))))) (.region r22_11)))) (.seq (.region r22_12) (.cond (.tmp 31) (.seq (.region r22_13) (.region r22_14)) (.seq (.region r22_15) (.cond (.tmp 41) (.seq (.region r22_16) (.region r22_17)) (.seq (.region r22_18) (.cond (.tmp 51) (.seq (.region r22_19) (.seq (.region r22_20) (.seq (.region r22_21) (.seq (.region r22_22) (.region r22_23))))) (.seq (.region r22_24) (.cond (.tmp 67) (.seq (.region r22_25) (.region r22_26)) (.seq (.region r22_27) (.cond (.tmp 74) (.seq (.region r22_28) (.region r22_29)) .skip)))))))))))))) tE))) := rfl
theorem edit_any (w : World) (b : Nat) (s : List UInt8) (hr : RD w b s 0) (hs : s.length < 100000000000) (hT : TN w) (hTb : b ≠ 0) :
    Calls Tryd.prog 22 [.pointer (some ⟨b, 0, none⟩)].toArray w (EdP w b s) := by
  refine enter22 (by simp) ?_
  (repeat' first | (simp only [RA, MI, S.dst, Nat.reduceAdd, Nat.reduceMul, Nat.reduceEqDiff, ↓reduceIte, reduceCtorEq, ne_eq, Nat.reduceLT, Nat.reduceLeDiff, gt_iff_lt, ge_iff_le, Int.reduceToNat, Nat.reduceSub, Int.reduceEq, Int.reduceLT, Int.reduceLE, not_true_eq_false, x22.down, cE_eq, kwEq, bw_turn, bw_crop, bw_redact, bw_put, bw_drop, bw_note, ba_32, zS6, zS1, zP1, zP4, zEd, btE, tup_10, List.take_length, ba_nil, ba_size, ba_list, ba_ext, ba_add, true_and, at_z, at_s, putc1, putc4, List.setIfInBounds_toArray, List.set_cons_zero, List.set_cons_succ, List.size_toArray, List.length_cons, List.length_nil, List.toList_toArray]) | ((with_reducible first | apply ld_r | apply ldN_a | apply ldN_r | apply st_r | apply stN_a); (exact X.rws)) | ((with_reducible first | apply bound_of | apply wr_i64 | apply wr_u8 | apply wr_u64 | apply wr_i32 | apply wr_i16 | apply wr_u32 | apply wr_u16); (exact X.om); (exact X.om)) | ((with_reducible first | apply ints_at | apply le_andI | apply le_andN | apply ne_andI); (exact X.om)) | ((with_reducible first | apply same_and | apply same_andW); (exact X.olz)) | (with_reducible refine ite_of (fun _ => ?_) (fun _ => ?_)))
  simp only [sz_alloc]
  generalize hW : World.alloc (World.alloc (World.alloc w _) _) _ = w3
  have hF : Fr (· = b) w w3 := by rw [← hW]; (exact X.frz)
  have h2 : Own w3 w.heap.size (edC ed0) := by rw [← hW]; unfold edC ed0; (exact X.rws)
  have he : Own w3 (w.heap.size + 1) (edC ed0) := by rw [← hW]; unfold edC ed0; (exact X.rws)
  have hk : Row w3 (w.heap.size + 1 + 1) (kindW.map fun s => Value.string (ba s)).toArray := by rw [← hW]; exact Row.newE (by simp [sz_alloc])
  have hr3 : RD w3 b s 0 := by rw [← hW]; unfold RD at hr ⊢; (exact X.rws)
  have hz : w3.heap.size = w.heap.size + 3 := by rw [← hW]; simp [sz_alloc]
  clear hW
  have hb := hr.lt
  have hTl := hT.lt
  refine calls_mono (word_any w3 b (w.heap.size + 1 + 1) 0 6 s 0 kindW hr3 (Nat.zero_le _) (by omega) ⟨_, hk, fun k hk => wd_map _ hk⟩ kindW_asc (by decide)) ?_
  rintro r w4 ⟨hF4, ht⟩
  replace hF := hF.trans hF4
  have hz4 := hF4.size
  replace h2 := h2.fr hF4 (by omega)
  replace he := he.fr hF4 (by omega)
  have hT4 := hT.fr hF (fun h => hTb h.symm)
  cases hw : wordP s 0 kindW with
  | error x =>
    rw [hw] at ht
    obtain rfl : r = panE x := ht
    unfold panE
    simp only [call_pan, p_block_pan, p_then_pan, p_end_pan]
    refine ⟨hF, ?_⟩
    rw [parseP, hw]; rfl
  | ok y =>
    obtain ⟨k, i⟩ := y
    rw [hw] at ht
    obtain ⟨rfl, hr4⟩ := ht
    obtain ⟨hk6, hi⟩ := wordP_lt (Nat.zero_le _) hw
    simp only at hr4 ⊢
    clear hr3 hk hF4
    have hP : parseP s = match restP s k i with | .error x => .error x | .ok (e, j) => if j < s.length then .error (j, 16) else .ok e := by rw [parseP, hw]; rfl
    clear hw
    have hcl : (2 : Nat) = 2 := rfl
    unfold edC ed0 at he
    simp only at he
    match k, hk6 with
    | 0, _ =>
      simp only [kindW, List.getD_cons_zero, List.getD_cons_succ]
      (repeat' first | (simp only [RA, MI, S.dst, Nat.reduceAdd, Nat.reduceMul, Nat.reduceEqDiff, ↓reduceIte, reduceCtorEq, ne_eq, Nat.reduceLT, Nat.reduceLeDiff, gt_iff_lt, ge_iff_le, Int.reduceToNat, Nat.reduceSub, Int.reduceEq, Int.reduceLT, Int.reduceLE, not_true_eq_false, x22.down, cE_eq, kwEq, bw_turn, bw_crop, bw_redact, bw_put, bw_drop, bw_note, ba_32, zS6, zS1, zP1, zP4, zEd, btE, tup_10, List.take_length, ba_nil, ba_size, ba_list, ba_ext, ba_add, true_and, at_z, at_s, putc1, putc4, List.setIfInBounds_toArray, List.set_cons_zero, List.set_cons_succ, List.size_toArray, List.length_cons, List.length_nil, List.toList_toArray]) | ((with_reducible first | apply ld_r | apply ldN_a | apply ldN_r | apply st_r | apply stN_a); (exact X.rws)) | ((with_reducible first | apply bound_of | apply wr_i64 | apply wr_u8 | apply wr_u64 | apply wr_i32 | apply wr_i16 | apply wr_u32 | apply wr_u16); (exact X.om); (exact X.om)) | ((with_reducible first | apply ints_at | apply le_andI | apply le_andN | apply ne_andI); (exact X.om)) | ((with_reducible first | apply same_and | apply same_andW); (exact X.olz)) | (with_reducible refine ite_of (fun _ => ?_) (fun _ => ?_)))
      have hA : Fr X.no w4 (w4.alloc (Obj.cells #[Value.string (ba [32])] 9)) := (Fr.refl _ _).alloc _
      refine calls_mono (blank_any _ b w4.heap.size 1 s i (hr4.fr hA fun h => h) hi (by omega) (Row.new _ _ _)) ?_
      rintro r w5 ⟨hF5, ht⟩
      replace hF5 : Fr (· = b) w4 w5 := (hA.mono fun _ _ h => h.elim).trans hF5
      have hF' := hF.trans hF5
      have h25 := h2.fr hF5 (by omega)
      have he5 := he.fr hF5 (by omega)
      have hz5 := hF5.size
      cases hsp : spP s i with
      | error x =>
        rw [hsp] at ht
        obtain rfl : r = panE x := ht
        unfold panE
        simp only [call_pan, p_block_pan, p_then_pan, p_end_pan]
        refine ⟨hF', ?_⟩
        rw [hP]
        unfold restP
        rw [hsp]
        rfl
      | ok j =>
        rw [hsp] at ht
        obtain ⟨rfl, hr5⟩ := ht
        have hj := spP_ok hsp
        (repeat' first | (simp only [RA, MI, S.dst, Nat.reduceAdd, Nat.reduceMul, Nat.reduceEqDiff, ↓reduceIte, reduceCtorEq, ne_eq, Nat.reduceLT, Nat.reduceLeDiff, gt_iff_lt, ge_iff_le, Int.reduceToNat, Nat.reduceSub, Int.reduceEq, Int.reduceLT, Int.reduceLE, not_true_eq_false, x22.down, cE_eq, kwEq, bw_turn, bw_crop, bw_redact, bw_put, bw_drop, bw_note, ba_32, zS6, zS1, zP1, zP4, zEd, btE, tup_10, List.take_length, ba_nil, ba_size, ba_list, ba_ext, ba_add, true_and, at_z, at_s, putc1, putc4, List.setIfInBounds_toArray, List.set_cons_zero, List.set_cons_succ, List.size_toArray, List.length_cons, List.length_nil, List.toList_toArray]) | ((with_reducible first | apply ld_r | apply ldN_a | apply ldN_r | apply st_r | apply stN_a); (exact X.rws)) | ((with_reducible first | apply bound_of | apply wr_i64 | apply wr_u8 | apply wr_u64 | apply wr_i32 | apply wr_i16 | apply wr_u32 | apply wr_u16); (exact X.om); (exact X.om)) | ((with_reducible first | apply ints_at | apply le_andI | apply le_andN | apply ne_andI); (exact X.om)) | ((with_reducible first | apply same_and | apply same_andW); (exact X.olz)) | (with_reducible refine ite_of (fun _ => ?_) (fun _ => ?_)))
        refine loop_ofx (σ := Nat × Value) (fun k => [(0, .pointer (some ⟨b, 0, none⟩)), (2, .pointer (some ⟨w.heap.size, 0, none⟩)), (3, .pointer (some ⟨w.heap.size + 1, 0, none⟩)), (4, k.2), (14, .int .i64 k.1)])
          (fun k w' => k.1 ≤ 8 ∧ Vec w' k.2 1 ((turnW.take k.1).map fun s => Value.string (ba s)) w5.heap.size ∧ Fr (w5.heap.size ≤ ·) w5 w') (fun k => 8 - k.1) (0, .slice none 0 0) [] rfl ⟨Nat.zero_le _, .inl ⟨rfl, rfl⟩, Fr.refl _ _⟩ ?_
        rintro ⟨k, v⟩ x w6 ⟨hk8, hv, hF6⟩
        simp only at hk8 hv
        have hz6 := hF6.size
        have hF7 : Fr (· = b) w w6 := hF'.trans' hF6 fun k hk h => absurd h (by omega)
        (repeat' first | (simp only [RA, MI, S.dst, Nat.reduceAdd, Nat.reduceMul, Nat.reduceEqDiff, ↓reduceIte, reduceCtorEq, ne_eq, Nat.reduceLT, Nat.reduceLeDiff, gt_iff_lt, ge_iff_le, Int.reduceToNat, Nat.reduceSub, Int.reduceEq, Int.reduceLT, Int.reduceLE, not_true_eq_false, x22.down, cE_eq, kwEq, bw_turn, bw_crop, bw_redact, bw_put, bw_drop, bw_note, ba_32, zS6, zS1, zP1, zP4, zEd, btE, tup_10, List.take_length, ba_nil, ba_size, ba_list, ba_ext, ba_add, true_and, at_z, at_s, putc1, putc4, List.setIfInBounds_toArray, List.set_cons_zero, List.set_cons_succ, List.size_toArray, List.length_cons, List.length_nil, List.toList_toArray]) | ((with_reducible first | apply ld_r | apply ldN_a | apply ldN_r | apply st_r | apply stN_a); (exact X.rws)) | ((with_reducible first | apply bound_of | apply wr_i64 | apply wr_u8 | apply wr_u64 | apply wr_i32 | apply wr_i16 | apply wr_u32 | apply wr_u16); (exact X.om); (exact X.om)) | ((with_reducible first | apply ints_at | apply le_andI | apply le_andN | apply ne_andI); (exact X.om)) | ((with_reducible first | apply same_and | apply same_andW); (exact X.olz)) | (with_reducible refine ite_of (fun _ => ?_) (fun _ => ?_)))
        · refine calls_mono (Name_any w6 k (hT.fr hF7 (fun h => hTb h.symm))) ?_
          rintro _ w7 ⟨rfl, hw7⟩
          rw [hw7]; clear hw7 w7
          rw [if_pos ⟨by omega, by omega⟩, Int.toNat_natCast]
          (repeat' first | (simp only [RA, MI, S.dst, Nat.reduceAdd, Nat.reduceMul, Nat.reduceEqDiff, ↓reduceIte, reduceCtorEq, ne_eq, Nat.reduceLT, Nat.reduceLeDiff, gt_iff_lt, ge_iff_le, Int.reduceToNat, Nat.reduceSub, Int.reduceEq, Int.reduceLT, Int.reduceLE, not_true_eq_false, x22.down, cE_eq, kwEq, bw_turn, bw_crop, bw_redact, bw_put, bw_drop, bw_note, ba_32, zS6, zS1, zP1, zP4, zEd, btE, tup_10, List.take_length, ba_nil, ba_size, ba_list, ba_ext, ba_add, true_and, at_z, at_s, putc1, putc4, List.setIfInBounds_toArray, List.set_cons_zero, List.set_cons_succ, List.size_toArray, List.length_cons, List.length_nil, List.toList_toArray]) | ((with_reducible first | apply ld_r | apply ldN_a | apply ldN_r | apply st_r | apply stN_a); (exact X.rws)) | ((with_reducible first | apply bound_of | apply wr_i64 | apply wr_u8 | apply wr_u64 | apply wr_i32 | apply wr_i16 | apply wr_u32 | apply wr_u16); (exact X.om); (exact X.om)) | ((with_reducible first | apply ints_at | apply le_andI | apply le_andN | apply ne_andI); (exact X.om)) | ((with_reducible first | apply same_and | apply same_andW); (exact X.olz)) | (with_reducible refine ite_of (fun _ => ?_) (fun _ => ?_)))
          have hA6 : Fr X.no w6 (w6.alloc (Obj.cells #[Value.string (ba (turnW.getD k []))] 9)) := (Fr.refl _ _).alloc _
          have hlk : ((turnW.take k).map fun s => Value.string (ba s)).length = k := by simp [turnW]; omega
          refine vec_append (m := 1) (new := [Value.string (ba (turnW.getD k []))]) (hv.fr hA6 fun _ _ h => h) (by rw [sz_alloc]; omega) zStr ⟨k, by rw [hlk, Nat.mul_one], by omega, by omega⟩ (by decide) (fun R h => h) (fun R h => ?_) rfl (fun y hy => ?_) ?_
          · rw [tk_some]
            exact ldN_row (Row.new _ _ _) (by simp) h
          · simp only [List.mem_append, List.mem_map, List.mem_singleton] at hy
            rcases hy with ⟨z, _, rfl⟩ | rfl <;> rfl
          intro r w7 hv7 hF8 _
          (repeat' first | (simp only [RA, MI, S.dst, Nat.reduceAdd, Nat.reduceMul, Nat.reduceEqDiff, ↓reduceIte, reduceCtorEq, ne_eq, Nat.reduceLT, Nat.reduceLeDiff, gt_iff_lt, ge_iff_le, Int.reduceToNat, Nat.reduceSub, Int.reduceEq, Int.reduceLT, Int.reduceLE, not_true_eq_false, x22.down, cE_eq, kwEq, bw_turn, bw_crop, bw_redact, bw_put, bw_drop, bw_note, ba_32, zS6, zS1, zP1, zP4, zEd, btE, tup_10, List.take_length, ba_nil, ba_size, ba_list, ba_ext, ba_add, true_and, at_z, at_s, putc1, putc4, List.setIfInBounds_toArray, List.set_cons_zero, List.set_cons_succ, List.size_toArray, List.length_cons, List.length_nil, List.toList_toArray]) | ((with_reducible first | apply ld_r | apply ldN_a | apply ldN_r | apply st_r | apply stN_a); (exact X.rws)) | ((with_reducible first | apply bound_of | apply wr_i64 | apply wr_u8 | apply wr_u64 | apply wr_i32 | apply wr_i16 | apply wr_u32 | apply wr_u16); (exact X.om); (exact X.om)) | ((with_reducible first | apply ints_at | apply le_andI | apply le_andN | apply ne_andI); (exact X.om)) | ((with_reducible first | apply same_and | apply same_andW); (exact X.olz)) | (with_reducible refine ite_of (fun _ => ?_) (fun _ => ?_)))
          refine ⟨(k + 1, r), ⟨[], by (exact X.envz)⟩, ⟨by simp only; omega, ?_, (hF6.trans' hA6 fun k _ h => h.elim).trans' hF8 fun k hk h => hv.blk_ge k h⟩, by simp only; omega⟩
          simp only
          have etk : (turnW.take (k + 1)).map (fun s => Value.string (ba s)) = (turnW.take k).map (fun s => Value.string (ba s)) ++ [Value.string (ba (turnW.getD k []))] := by
            rw [List.take_add_one, List.map_append, List.getD_eq_getElem?_getD, List.getElem?_eq_getElem (show k < turnW.length by simp [turnW]; omega)]; rfl
          rw [etk]; exact hv7
        · obtain rfl : k = 8 := by omega
          obtain ⟨a0, n0, c0, rfl, hn0, h00⟩ := hv.row
          have hn8 : n0 = 8 := by simp [turnW] at hn0; omega
          subst hn8
          rcases h00 with ⟨_, h, _⟩ | ⟨b7, rest, hb7, rfl, hc7, ho7⟩
          · omega
          have hr6 := hr5.fr hF6 (by have := hr5.lt; omega)
          have h26 := h25.fr hF6 (by omega)
          have he6 := he5.fr hF6 (by omega)
          refine calls_mono (word_any w6 b b7 0 c0 s j turnW hr6 (by omega) (by omega) ⟨_, ho7.row, fun k hk => ?_⟩ (fun k hk => ?_) (by decide)) ?_
          · have := wd_map turnW hk
            rw [List.getElem?_toArray] at this ⊢
            rw [show turnW.take 8 = turnW from rfl, List.getElem?_append_left (by simp; omega)]; exact this
          · have := turnW_asc k hk; exact ⟨this.1, by omega⟩
          rintro r w7 ⟨hF8, ht⟩
          have hF9 := hF7.trans hF8
          have h27 := h26.fr hF8 (by omega)
          have he7 := he6.fr hF8 (by omega)
          have hz7 := hF8.size
          cases hw2 : wordP s j turnW with
          | error x =>
            rw [hw2] at ht
            obtain rfl : r = panE x := ht
            unfold panE
            simp only [call_pan, p_block_pan, p_then_pan, p_end_pan]
            refine ⟨hF9, ?_⟩
            rw [hP]
            unfold restP
            rw [hsp]; simp only; rw [hw2]
            rfl
          | ok y =>
            obtain ⟨q, j2⟩ := y
            rw [hw2] at ht
            obtain ⟨rfl, hr7⟩ := ht
            obtain ⟨hq8, hj2⟩ := wordP_lt (by omega) hw2
            simp only at hr7 ⊢
            (repeat' first | (simp only [RA, MI, S.dst, Nat.reduceAdd, Nat.reduceMul, Nat.reduceEqDiff, ↓reduceIte, reduceCtorEq, ne_eq, Nat.reduceLT, Nat.reduceLeDiff, gt_iff_lt, ge_iff_le, Int.reduceToNat, Nat.reduceSub, Int.reduceEq, Int.reduceLT, Int.reduceLE, not_true_eq_false, x22.down, cE_eq, kwEq, bw_turn, bw_crop, bw_redact, bw_put, bw_drop, bw_note, ba_32, zS6, zS1, zP1, zP4, zEd, btE, tup_10, List.take_length, ba_nil, ba_size, ba_list, ba_ext, ba_add, true_and, at_z, at_s, putc1, putc4, List.setIfInBounds_toArray, List.set_cons_zero, List.set_cons_succ, List.size_toArray, List.length_cons, List.length_nil, List.toList_toArray]) | ((with_reducible first | apply ld_r | apply ldN_a | apply ldN_r | apply st_r | apply stN_a); (exact X.rws)) | ((with_reducible first | apply bound_of | apply wr_i64 | apply wr_u8 | apply wr_u64 | apply wr_i32 | apply wr_i16 | apply wr_u32 | apply wr_u16); (exact X.om); (exact X.om)) | ((with_reducible first | apply ints_at | apply le_andI | apply le_andN | apply ne_andI); (exact X.om)) | ((with_reducible first | apply same_and | apply same_andW); (exact X.olz)) | (with_reducible refine ite_of (fun _ => ?_) (fun _ => ?_)))
            refine calls_mono (Kind_any w7 q hq8 (hT.fr hF9 (fun h => hTb h.symm))) ?_
            rintro _ w8 ⟨rfl, hFA⟩
            have hr8 := hr7.fr hFA fun h => h
            have h28 := h27.fr hFA fun h => h
            have he8 := he7.fr hFA fun h => h
            (repeat' first | (simp only [RA, MI, S.dst, Nat.reduceAdd, Nat.reduceMul, Nat.reduceEqDiff, ↓reduceIte, reduceCtorEq, ne_eq, Nat.reduceLT, Nat.reduceLeDiff, gt_iff_lt, ge_iff_le, Int.reduceToNat, Nat.reduceSub, Int.reduceEq, Int.reduceLT, Int.reduceLE, not_true_eq_false, x22.down, cE_eq, kwEq, bw_turn, bw_crop, bw_redact, bw_put, bw_drop, bw_note, ba_32, zS6, zS1, zP1, zP4, zEd, btE, tup_10, List.take_length, ba_nil, ba_size, ba_list, ba_ext, ba_add, true_and, at_z, at_s, putc1, putc4, List.setIfInBounds_toArray, List.set_cons_zero, List.set_cons_succ, List.size_toArray, List.length_cons, List.length_nil, List.toList_toArray]) | ((with_reducible first | apply ld_r | apply ldN_a | apply ldN_r | apply st_r | apply stN_a); (exact X.rws)) | ((with_reducible first | apply bound_of | apply wr_i64 | apply wr_u8 | apply wr_u64 | apply wr_i32 | apply wr_i16 | apply wr_u32 | apply wr_u16); (exact X.om); (exact X.om)) | ((with_reducible first | apply ints_at | apply le_andI | apply le_andN | apply ne_andI); (exact X.om)) | ((with_reducible first | apply same_and | apply same_andW); (exact X.olz)) | (with_reducible refine ite_of (fun _ => ?_) (fun _ => ?_)))
            have hS : Fr (· = w.heap.size + 1) w8 (w8.setRow (w.heap.size + 1) #[.int .i64 0, .int .i64 q, .int .i64 0, .int .i64 0, .int .i64 0, .string (ba [])]) := (Fr.refl _ _).setRow _ _ fun _ => rfl
            refine tE_any (e := ⟨0, q, 0, 0, 0, []⟩) (hr8.fr hS (by omega)) (show EO _ _ _ from he8.set _) (h28.fr hS (by omega)) (by omega) (by omega) (fun hj w' hFx => ⟨((hF9.and hFA).trans' hS fun k hk h => by omega).and hFx, ?_⟩) (fun hj w' hFx => ⟨((hF9.and hFA).trans' hS fun k hk h => by omega).trans' hFx fun k hk h => by omega, ?_⟩)
            · rw [hP]
              unfold restP
              rw [hsp]; simp only; rw [hw2]; simp only
              rw [if_pos hj]; rfl
            · rw [hP]
              unfold restP
              rw [hsp]; simp only; rw [hw2]; simp only
              rw [if_neg hj]; rfl
    | 1, _ =>
      simp only [kindW, List.getD_cons_zero, List.getD_cons_succ]
      (repeat' first | (simp only [RA, MI, S.dst, Nat.reduceAdd, Nat.reduceMul, Nat.reduceEqDiff, ↓reduceIte, reduceCtorEq, ne_eq, Nat.reduceLT, Nat.reduceLeDiff, gt_iff_lt, ge_iff_le, Int.reduceToNat, Nat.reduceSub, Int.reduceEq, Int.reduceLT, Int.reduceLE, not_true_eq_false, x22.down, cE_eq, kwEq, bw_turn, bw_crop, bw_redact, bw_put, bw_drop, bw_note, ba_32, zS6, zS1, zP1, zP4, zEd, btE, tup_10, List.take_length, ba_nil, ba_size, ba_list, ba_ext, ba_add, true_and, at_z, at_s, putc1, putc4, List.setIfInBounds_toArray, List.set_cons_zero, List.set_cons_succ, List.size_toArray, List.length_cons, List.length_nil, List.toList_toArray]) | ((with_reducible first | apply ld_r | apply ldN_a | apply ldN_r | apply st_r | apply stN_a); (exact X.rws)) | ((with_reducible first | apply bound_of | apply wr_i64 | apply wr_u8 | apply wr_u64 | apply wr_i32 | apply wr_i16 | apply wr_u32 | apply wr_u16); (exact X.om); (exact X.om)) | ((with_reducible first | apply ints_at | apply le_andI | apply le_andN | apply ne_andI); (exact X.om)) | ((with_reducible first | apply same_and | apply same_andW); (exact X.olz)) | (with_reducible refine ite_of (fun _ => ?_) (fun _ => ?_)))
      simp only [sz_setRow]
      generalize hW5 : World.alloc (World.setRow w4 _ _) _ = w5
      have he5 : Own w5 (w.heap.size + 1) #[.int .i64 1, .int .i64 0, .int .i64 0, .int .i64 0, .int .i64 0, .string (ba [])] := by rw [← hW5]; (exact X.rws)
      have hp5 : Row w5 w4.heap.size (ptrs (w.heap.size + 1) [1, 2, 3, 4]) := by rw [← hW5]; exact Row.newE (by rw [sz_setRow])
      have hr5 : RD w5 b s i := by rw [← hW5]; unfold RD at hr4 ⊢; (exact X.rws)
      have h25 : Own w5 w.heap.size (edC ed0) := by rw [← hW5]; (exact X.rws)
      have hF5 : Fr (· = b) w w5 := by rw [← hW5]; (exact X.frz)
      have hz5 : w5.heap.size = w4.heap.size + 1 := by rw [← hW5, sz_alloc, sz_setRow]
      clear hW5
      refine calls_mono (numbers_any w5 b (w.heap.size + 1) w4.heap.size 4 s i [1, 2, 3, 4] _ hr5 hi hs hp5 he5 (by omega) ⟨by omega, by omega⟩ (by simp) (by decide)) ?_
      rintro r w6 ⟨hF6, ht⟩
      have hF' : Fr (· = b) w w6 := hF5.trans' hF6 fun k hk h => by omega
      have h26 := h25.fr hF6 (by omega)
      have hz6 := hF6.size
      cases hn : numsP s 4 i with
      | error x =>
        rw [show [1, 2, 3, 4].length = 4 from rfl, hn] at ht
        obtain rfl : r = panE x := ht
        unfold panE
        simp only [call_pan, p_block_pan, p_then_pan, p_end_pan]
        refine ⟨hF', ?_⟩
        rw [hP]
        unfold restP
        rw [hn]
        rfl
      | ok y =>
        obtain ⟨l, j⟩ := y
        rw [show [1, 2, 3, 4].length = 4 from rfl, hn] at ht
        obtain ⟨rfl, hr6, he6⟩ := ht
        have hl := numsP_len hi hn
        simp only at hr6 he6
        match l, hl with
        | [n1, n2, n3, n4], hl =>
          (repeat' first | (simp only [RA, MI, S.dst, Nat.reduceAdd, Nat.reduceMul, Nat.reduceEqDiff, ↓reduceIte, reduceCtorEq, ne_eq, Nat.reduceLT, Nat.reduceLeDiff, gt_iff_lt, ge_iff_le, Int.reduceToNat, Nat.reduceSub, Int.reduceEq, Int.reduceLT, Int.reduceLE, not_true_eq_false, x22.down, cE_eq, kwEq, bw_turn, bw_crop, bw_redact, bw_put, bw_drop, bw_note, ba_32, zS6, zS1, zP1, zP4, zEd, btE, tup_10, List.take_length, ba_nil, ba_size, ba_list, ba_ext, ba_add, true_and, at_z, at_s, putc1, putc4, List.setIfInBounds_toArray, List.set_cons_zero, List.set_cons_succ, List.size_toArray, List.length_cons, List.length_nil, List.toList_toArray]) | ((with_reducible first | apply ld_r | apply ldN_a | apply ldN_r | apply st_r | apply stN_a); (exact X.rws)) | ((with_reducible first | apply bound_of | apply wr_i64 | apply wr_u8 | apply wr_u64 | apply wr_i32 | apply wr_i16 | apply wr_u32 | apply wr_u16); (exact X.om); (exact X.om)) | ((with_reducible first | apply ints_at | apply le_andI | apply le_andN | apply ne_andI); (exact X.om)) | ((with_reducible first | apply same_and | apply same_andW); (exact X.olz)) | (with_reducible refine ite_of (fun _ => ?_) (fun _ => ?_)))
          refine tE_any (e := ⟨1, n1, n2, n3, n4, []⟩) hr6 (show EO w6 _ _ from he6) h26 (by omega) (by omega) (fun hj w' hFx => ⟨(hF').and hFx, ?_⟩) (fun hj w' hFx => ⟨(hF').trans' hFx fun k hk h => by omega, ?_⟩)
          · rw [hP]
            unfold restP
            rw [hn]; simp only
            rw [if_pos hj]; rfl
          · rw [hP]
            unfold restP
            rw [hn]; simp only
            rw [if_neg hj]; rfl
    | 2, _ =>
      simp only [kindW, List.getD_cons_zero, List.getD_cons_succ]
      (repeat' first | (simp only [RA, MI, S.dst, Nat.reduceAdd, Nat.reduceMul, Nat.reduceEqDiff, ↓reduceIte, reduceCtorEq, ne_eq, Nat.reduceLT, Nat.reduceLeDiff, gt_iff_lt, ge_iff_le, Int.reduceToNat, Nat.reduceSub, Int.reduceEq, Int.reduceLT, Int.reduceLE, not_true_eq_false, x22.down, cE_eq, kwEq, bw_turn, bw_crop, bw_redact, bw_put, bw_drop, bw_note, ba_32, zS6, zS1, zP1, zP4, zEd, btE, tup_10, List.take_length, ba_nil, ba_size, ba_list, ba_ext, ba_add, true_and, at_z, at_s, putc1, putc4, List.setIfInBounds_toArray, List.set_cons_zero, List.set_cons_succ, List.size_toArray, List.length_cons, List.length_nil, List.toList_toArray]) | ((with_reducible first | apply ld_r | apply ldN_a | apply ldN_r | apply st_r | apply stN_a); (exact X.rws)) | ((with_reducible first | apply bound_of | apply wr_i64 | apply wr_u8 | apply wr_u64 | apply wr_i32 | apply wr_i16 | apply wr_u32 | apply wr_u16); (exact X.om); (exact X.om)) | ((with_reducible first | apply ints_at | apply le_andI | apply le_andN | apply ne_andI); (exact X.om)) | ((with_reducible first | apply same_and | apply same_andW); (exact X.olz)) | (with_reducible refine ite_of (fun _ => ?_) (fun _ => ?_)))
      simp only [sz_setRow]
      generalize hW5 : World.alloc (World.setRow w4 _ _) _ = w5
      have he5 : Own w5 (w.heap.size + 1) #[.int .i64 2, .int .i64 0, .int .i64 0, .int .i64 0, .int .i64 0, .string (ba [])] := by rw [← hW5]; (exact X.rws)
      have hp5 : Row w5 w4.heap.size (ptrs (w.heap.size + 1) [1, 2, 3, 4]) := by rw [← hW5]; exact Row.newE (by rw [sz_setRow])
      have hr5 : RD w5 b s i := by rw [← hW5]; unfold RD at hr4 ⊢; (exact X.rws)
      have h25 : Own w5 w.heap.size (edC ed0) := by rw [← hW5]; (exact X.rws)
      have hF5 : Fr (· = b) w w5 := by rw [← hW5]; (exact X.frz)
      have hz5 : w5.heap.size = w4.heap.size + 1 := by rw [← hW5, sz_alloc, sz_setRow]
      clear hW5
      refine calls_mono (numbers_any w5 b (w.heap.size + 1) w4.heap.size 4 s i [1, 2, 3, 4] _ hr5 hi hs hp5 he5 (by omega) ⟨by omega, by omega⟩ (by simp) (by decide)) ?_
      rintro r w6 ⟨hF6, ht⟩
      have hF' : Fr (· = b) w w6 := hF5.trans' hF6 fun k hk h => by omega
      have h26 := h25.fr hF6 (by omega)
      have hz6 := hF6.size
      cases hn : numsP s 4 i with
      | error x =>
        rw [show [1, 2, 3, 4].length = 4 from rfl, hn] at ht
        obtain rfl : r = panE x := ht
        unfold panE
        simp only [call_pan, p_block_pan, p_then_pan, p_end_pan]
        refine ⟨hF', ?_⟩
        rw [hP]
        unfold restP
        rw [hn]
        rfl
      | ok y =>
        obtain ⟨l, j⟩ := y
        rw [show [1, 2, 3, 4].length = 4 from rfl, hn] at ht
        obtain ⟨rfl, hr6, he6⟩ := ht
        have hl := numsP_len hi hn
        simp only at hr6 he6
        match l, hl with
        | [n1, n2, n3, n4], hl =>
          (repeat' first | (simp only [RA, MI, S.dst, Nat.reduceAdd, Nat.reduceMul, Nat.reduceEqDiff, ↓reduceIte, reduceCtorEq, ne_eq, Nat.reduceLT, Nat.reduceLeDiff, gt_iff_lt, ge_iff_le, Int.reduceToNat, Nat.reduceSub, Int.reduceEq, Int.reduceLT, Int.reduceLE, not_true_eq_false, x22.down, cE_eq, kwEq, bw_turn, bw_crop, bw_redact, bw_put, bw_drop, bw_note, ba_32, zS6, zS1, zP1, zP4, zEd, btE, tup_10, List.take_length, ba_nil, ba_size, ba_list, ba_ext, ba_add, true_and, at_z, at_s, putc1, putc4, List.setIfInBounds_toArray, List.set_cons_zero, List.set_cons_succ, List.size_toArray, List.length_cons, List.length_nil, List.toList_toArray]) | ((with_reducible first | apply ld_r | apply ldN_a | apply ldN_r | apply st_r | apply stN_a); (exact X.rws)) | ((with_reducible first | apply bound_of | apply wr_i64 | apply wr_u8 | apply wr_u64 | apply wr_i32 | apply wr_i16 | apply wr_u32 | apply wr_u16); (exact X.om); (exact X.om)) | ((with_reducible first | apply ints_at | apply le_andI | apply le_andN | apply ne_andI); (exact X.om)) | ((with_reducible first | apply same_and | apply same_andW); (exact X.olz)) | (with_reducible refine ite_of (fun _ => ?_) (fun _ => ?_)))
          refine tE_any (e := ⟨2, n1, n2, n3, n4, []⟩) hr6 (show EO w6 _ _ from he6) h26 (by omega) (by omega) (fun hj w' hFx => ⟨(hF').and hFx, ?_⟩) (fun hj w' hFx => ⟨(hF').trans' hFx fun k hk h => by omega, ?_⟩)
          · rw [hP]
            unfold restP
            rw [hn]; simp only
            rw [if_pos hj]; rfl
          · rw [hP]
            unfold restP
            rw [hn]; simp only
            rw [if_neg hj]; rfl
    | 3, _ =>
      simp only [kindW, List.getD_cons_zero, List.getD_cons_succ]
      (repeat' first | (simp only [RA, MI, S.dst, Nat.reduceAdd, Nat.reduceMul, Nat.reduceEqDiff, ↓reduceIte, reduceCtorEq, ne_eq, Nat.reduceLT, Nat.reduceLeDiff, gt_iff_lt, ge_iff_le, Int.reduceToNat, Nat.reduceSub, Int.reduceEq, Int.reduceLT, Int.reduceLE, not_true_eq_false, x22.down, cE_eq, kwEq, bw_turn, bw_crop, bw_redact, bw_put, bw_drop, bw_note, ba_32, zS6, zS1, zP1, zP4, zEd, btE, tup_10, List.take_length, ba_nil, ba_size, ba_list, ba_ext, ba_add, true_and, at_z, at_s, putc1, putc4, List.setIfInBounds_toArray, List.set_cons_zero, List.set_cons_succ, List.size_toArray, List.length_cons, List.length_nil, List.toList_toArray]) | ((with_reducible first | apply ld_r | apply ldN_a | apply ldN_r | apply st_r | apply stN_a); (exact X.rws)) | ((with_reducible first | apply bound_of | apply wr_i64 | apply wr_u8 | apply wr_u64 | apply wr_i32 | apply wr_i16 | apply wr_u32 | apply wr_u16); (exact X.om); (exact X.om)) | ((with_reducible first | apply ints_at | apply le_andI | apply le_andN | apply ne_andI); (exact X.om)) | ((with_reducible first | apply same_and | apply same_andW); (exact X.olz)) | (with_reducible refine ite_of (fun _ => ?_) (fun _ => ?_)))
      simp only [sz_setRow]
      generalize hW5 : World.alloc (World.setRow w4 _ _) _ = w5
      have he5 : Own w5 (w.heap.size + 1) #[.int .i64 3, .int .i64 0, .int .i64 0, .int .i64 0, .int .i64 0, .string (ba [])] := by rw [← hW5]; (exact X.rws)
      have hp5 : Row w5 w4.heap.size (ptrs (w.heap.size + 1) [1]) := by rw [← hW5]; exact Row.newE (by rw [sz_setRow])
      have hr5 : RD w5 b s i := by rw [← hW5]; unfold RD at hr4 ⊢; (exact X.rws)
      have h25 : Own w5 w.heap.size (edC ed0) := by rw [← hW5]; (exact X.rws)
      have hF5 : Fr (· = b) w w5 := by rw [← hW5]; (exact X.frz)
      have hz5 : w5.heap.size = w4.heap.size + 1 := by rw [← hW5, sz_alloc, sz_setRow]
      clear hW5
      refine calls_mono (numbers_any w5 b (w.heap.size + 1) w4.heap.size 1 s i [1] _ hr5 hi hs hp5 he5 (by omega) ⟨by omega, by omega⟩ (by simp) (by decide)) ?_
      rintro r w6 ⟨hF6, ht⟩
      have hF' : Fr (· = b) w w6 := hF5.trans' hF6 fun k hk h => by omega
      have h26 := h25.fr hF6 (by omega)
      have hz6 := hF6.size
      rw [show [1].length = 1 from rfl, numsP_one] at ht
      cases hn : bnP s i 2147483647 with
      | error x =>
        rw [hn] at ht
        obtain rfl : r = panE x := ht
        unfold panE
        simp only [call_pan, p_block_pan, p_then_pan, p_end_pan]
        refine ⟨hF', ?_⟩
        rw [hP]
        unfold restP
        rw [hn]
        rfl
      | ok y =>
        obtain ⟨n1, j⟩ := y
        rw [hn] at ht
        obtain ⟨rfl, hr6, he6⟩ := ht
        have hl := bnP_le hi hn
        simp only at hr6 he6
        (repeat' first | (simp only [RA, MI, S.dst, Nat.reduceAdd, Nat.reduceMul, Nat.reduceEqDiff, ↓reduceIte, reduceCtorEq, ne_eq, Nat.reduceLT, Nat.reduceLeDiff, gt_iff_lt, ge_iff_le, Int.reduceToNat, Nat.reduceSub, Int.reduceEq, Int.reduceLT, Int.reduceLE, not_true_eq_false, x22.down, cE_eq, kwEq, bw_turn, bw_crop, bw_redact, bw_put, bw_drop, bw_note, ba_32, zS6, zS1, zP1, zP4, zEd, btE, tup_10, List.take_length, ba_nil, ba_size, ba_list, ba_ext, ba_add, true_and, at_z, at_s, putc1, putc4, List.setIfInBounds_toArray, List.set_cons_zero, List.set_cons_succ, List.size_toArray, List.length_cons, List.length_nil, List.toList_toArray]) | ((with_reducible first | apply ld_r | apply ldN_a | apply ldN_r | apply st_r | apply stN_a); (exact X.rws)) | ((with_reducible first | apply bound_of | apply wr_i64 | apply wr_u8 | apply wr_u64 | apply wr_i32 | apply wr_i16 | apply wr_u32 | apply wr_u16); (exact X.om); (exact X.om)) | ((with_reducible first | apply ints_at | apply le_andI | apply le_andN | apply ne_andI); (exact X.om)) | ((with_reducible first | apply same_and | apply same_andW); (exact X.olz)) | (with_reducible refine ite_of (fun _ => ?_) (fun _ => ?_)))
        have hA : Fr X.no w6 (w6.alloc (Obj.cells #[Value.string (ba [32])] 9)) := (Fr.refl _ _).alloc _
        refine calls_mono (blank_any _ b w6.heap.size 1 s j (hr6.fr hA fun h => h) hl (by omega) (Row.new _ _ _)) ?_
        rintro r w7 ⟨hF7, ht⟩
        replace hF7 : Fr (· = b) w6 w7 := (hA.mono fun _ _ h => h.elim).trans hF7
        have hF2 := hF'.trans hF7
        have h27 := h26.fr hF7 (by omega)
        have he7 := he6.fr hF7 (by omega)
        cases hsp : spP s j with
        | error x =>
          rw [hsp] at ht
          obtain rfl : r = panE x := ht
          unfold panE
          simp only [call_pan, p_block_pan, p_then_pan, p_end_pan]
          refine ⟨hF2, ?_⟩
          rw [hP]
          unfold restP
          rw [hn]; simp only; rw [bnP, hsp]
          rfl
        | ok j2 =>
          rw [hsp] at ht
          obtain ⟨rfl, hr7⟩ := ht
          have hj2 := spP_ok hsp
          (repeat' first | (simp only [RA, MI, S.dst, Nat.reduceAdd, Nat.reduceMul, Nat.reduceEqDiff, ↓reduceIte, reduceCtorEq, ne_eq, Nat.reduceLT, Nat.reduceLeDiff, gt_iff_lt, ge_iff_le, Int.reduceToNat, Nat.reduceSub, Int.reduceEq, Int.reduceLT, Int.reduceLE, not_true_eq_false, x22.down, cE_eq, kwEq, bw_turn, bw_crop, bw_redact, bw_put, bw_drop, bw_note, ba_32, zS6, zS1, zP1, zP4, zEd, btE, tup_10, List.take_length, ba_nil, ba_size, ba_list, ba_ext, ba_add, true_and, at_z, at_s, putc1, putc4, List.setIfInBounds_toArray, List.set_cons_zero, List.set_cons_succ, List.size_toArray, List.length_cons, List.length_nil, List.toList_toArray]) | ((with_reducible first | apply ld_r | apply ldN_a | apply ldN_r | apply st_r | apply stN_a); (exact X.rws)) | ((with_reducible first | apply bound_of | apply wr_i64 | apply wr_u8 | apply wr_u64 | apply wr_i32 | apply wr_i16 | apply wr_u32 | apply wr_u16); (exact X.om); (exact X.om)) | ((with_reducible first | apply ints_at | apply le_andI | apply le_andN | apply ne_andI); (exact X.om)) | ((with_reducible first | apply same_and | apply same_andW); (exact X.olz)) | (with_reducible refine ite_of (fun _ => ?_) (fun _ => ?_)))
          refine calls_mono (number_any w7 b s j2 255 hr7 (by omega) (by omega) (by omega)) ?_
          rintro r w8 ⟨hF8, ht⟩
          have hF3 := hF2.trans hF8
          have h28 := h27.fr hF8 (by omega)
          have he8 := he7.fr hF8 (by omega)
          cases hm : numP s j2 255 with
          | error x =>
            rw [hm] at ht
            obtain rfl : r = panE x := ht
            unfold panE
            simp only [call_pan, p_block_pan, p_then_pan, p_end_pan]
            refine ⟨hF3, ?_⟩
            rw [hP]
            unfold restP
            rw [hn]; simp only; rw [bnP, hsp]; simp only; rw [hm]
            rfl
          | ok y =>
            obtain ⟨n2, j3⟩ := y
            rw [hm] at ht
            obtain ⟨rfl, hr8⟩ := ht
            have hj3 := numP_le (by omega) hm
            simp only at hr8
            have he9 : Own w8 (w.heap.size + 1) #[.int .i64 3, .int .i64 n1, .int .i64 0, .int .i64 0, .int .i64 0, .string (ba [])] := he8
            have hbn : bnP s j 255 = .ok (n2, j3) := by rw [bnP, hsp]; exact hm
            clear he8 he7 he6
            (repeat' first | (simp only [RA, MI, S.dst, Nat.reduceAdd, Nat.reduceMul, Nat.reduceEqDiff, ↓reduceIte, reduceCtorEq, ne_eq, Nat.reduceLT, Nat.reduceLeDiff, gt_iff_lt, ge_iff_le, Int.reduceToNat, Nat.reduceSub, Int.reduceEq, Int.reduceLT, Int.reduceLE, not_true_eq_false, x22.down, cE_eq, kwEq, bw_turn, bw_crop, bw_redact, bw_put, bw_drop, bw_note, ba_32, zS6, zS1, zP1, zP4, zEd, btE, tup_10, List.take_length, ba_nil, ba_size, ba_list, ba_ext, ba_add, true_and, at_z, at_s, putc1, putc4, List.setIfInBounds_toArray, List.set_cons_zero, List.set_cons_succ, List.size_toArray, List.length_cons, List.length_nil, List.toList_toArray]) | ((with_reducible first | apply ld_r | apply ldN_a | apply ldN_r | apply st_r | apply stN_a); (exact X.rws)) | ((with_reducible first | apply bound_of | apply wr_i64 | apply wr_u8 | apply wr_u64 | apply wr_i32 | apply wr_i16 | apply wr_u32 | apply wr_u16); (exact X.om); (exact X.om)) | ((with_reducible first | apply ints_at | apply le_andI | apply le_andN | apply ne_andI); (exact X.om)) | ((with_reducible first | apply same_and | apply same_andW); (exact X.olz)) | (with_reducible refine ite_of (fun _ => ?_) (fun _ => ?_)))
            generalize hW9 : World.setRow w8 _ _ = w9
            have heA : Own w9 (w.heap.size + 1) #[.int .i64 3, .int .i64 n1, .int .i64 n2, .int .i64 0, .int .i64 0, .string (ba [])] := by rw [← hW9]; (exact X.rws)
            have hrA : RD w9 b s j3 := by rw [← hW9]; unfold RD at hr8 ⊢; (exact X.rws)
            have h2A : Own w9 w.heap.size (edC ed0) := by rw [← hW9]; (exact X.rws)
            have hFA : Fr (· = b) w w9 := by rw [← hW9]; (exact X.frz)
            clear hW9
            refine calls_mono (quoted_any w9 b s j3 hrA hj3 hs) ?_
            rintro r wB ⟨hFB, ht⟩
            have hF4 := hFA.trans hFB
            have h2B := h2A.fr hFB (by omega)
            have heB := heA.fr hFB (by omega)
            cases hq : bqP s j3 with
            | error x =>
              rw [hq] at ht
              obtain rfl : r = panE x := ht
              unfold panE
              simp only [call_pan, p_block_pan, p_then_pan, p_end_pan]
              refine ⟨hF4, ?_⟩
              rw [hP]
              unfold restP
              rw [hn]; simp only; rw [hbn]; simp only; rw [hq]
              rfl
            | ok y =>
              obtain ⟨tx, j4⟩ := y
              rw [hq] at ht
              obtain ⟨rfl, hrB⟩ := ht
              have hl4 := bqP_le hj3 hq
              simp only at hrB
              (repeat' first | (simp only [RA, MI, S.dst, Nat.reduceAdd, Nat.reduceMul, Nat.reduceEqDiff, ↓reduceIte, reduceCtorEq, ne_eq, Nat.reduceLT, Nat.reduceLeDiff, gt_iff_lt, ge_iff_le, Int.reduceToNat, Nat.reduceSub, Int.reduceEq, Int.reduceLT, Int.reduceLE, not_true_eq_false, x22.down, cE_eq, kwEq, bw_turn, bw_crop, bw_redact, bw_put, bw_drop, bw_note, ba_32, zS6, zS1, zP1, zP4, zEd, btE, tup_10, List.take_length, ba_nil, ba_size, ba_list, ba_ext, ba_add, true_and, at_z, at_s, putc1, putc4, List.setIfInBounds_toArray, List.set_cons_zero, List.set_cons_succ, List.size_toArray, List.length_cons, List.length_nil, List.toList_toArray]) | ((with_reducible first | apply ld_r | apply ldN_a | apply ldN_r | apply st_r | apply stN_a); (exact X.rws)) | ((with_reducible first | apply bound_of | apply wr_i64 | apply wr_u8 | apply wr_u64 | apply wr_i32 | apply wr_i16 | apply wr_u32 | apply wr_u16); (exact X.om); (exact X.om)) | ((with_reducible first | apply ints_at | apply le_andI | apply le_andN | apply ne_andI); (exact X.om)) | ((with_reducible first | apply same_and | apply same_andW); (exact X.olz)) | (with_reducible refine ite_of (fun _ => ?_) (fun _ => ?_)))
              have hS : Fr (· = w.heap.size + 1) wB (wB.setRow (w.heap.size + 1) #[.int .i64 3, .int .i64 n1, .int .i64 n2, .int .i64 0, .int .i64 0, .string (ba tx)]) := (Fr.refl _ _).setRow _ _ fun _ => rfl
              refine tE_any (e := ⟨3, n1, n2, 0, 0, tx⟩) (hrB.fr hS (by omega)) (show EO _ _ _ from heB.set _) (h2B.fr hS (by omega)) (by omega) (by omega) (fun hj w' hF' => ⟨(hF4.trans' hS fun k hk h => by omega).and hF', ?_⟩) (fun hj w' hF' => ⟨(hF4.trans' hS fun k hk h => by omega).trans' hF' fun k hk h => by omega, ?_⟩)
              · rw [hP]
                unfold restP
                rw [hn]; simp only; rw [hbn]; simp only; rw [hq]; simp only
                rw [if_pos hj]; rfl
              · rw [hP]
                unfold restP
                rw [hn]; simp only; rw [hbn]; simp only; rw [hq]; simp only
                rw [if_neg hj]; rfl
    | 4, _ =>
      simp only [kindW, List.getD_cons_zero, List.getD_cons_succ]
      (repeat' first | (simp only [RA, MI, S.dst, Nat.reduceAdd, Nat.reduceMul, Nat.reduceEqDiff, ↓reduceIte, reduceCtorEq, ne_eq, Nat.reduceLT, Nat.reduceLeDiff, gt_iff_lt, ge_iff_le, Int.reduceToNat, Nat.reduceSub, Int.reduceEq, Int.reduceLT, Int.reduceLE, not_true_eq_false, x22.down, cE_eq, kwEq, bw_turn, bw_crop, bw_redact, bw_put, bw_drop, bw_note, ba_32, zS6, zS1, zP1, zP4, zEd, btE, tup_10, List.take_length, ba_nil, ba_size, ba_list, ba_ext, ba_add, true_and, at_z, at_s, putc1, putc4, List.setIfInBounds_toArray, List.set_cons_zero, List.set_cons_succ, List.size_toArray, List.length_cons, List.length_nil, List.toList_toArray]) | ((with_reducible first | apply ld_r | apply ldN_a | apply ldN_r | apply st_r | apply stN_a); (exact X.rws)) | ((with_reducible first | apply bound_of | apply wr_i64 | apply wr_u8 | apply wr_u64 | apply wr_i32 | apply wr_i16 | apply wr_u32 | apply wr_u16); (exact X.om); (exact X.om)) | ((with_reducible first | apply ints_at | apply le_andI | apply le_andN | apply ne_andI); (exact X.om)) | ((with_reducible first | apply same_and | apply same_andW); (exact X.olz)) | (with_reducible refine ite_of (fun _ => ?_) (fun _ => ?_)))
      simp only [sz_setRow]
      generalize hW5 : World.alloc (World.setRow w4 _ _) _ = w5
      have he5 : Own w5 (w.heap.size + 1) #[.int .i64 4, .int .i64 0, .int .i64 0, .int .i64 0, .int .i64 0, .string (ba [])] := by rw [← hW5]; (exact X.rws)
      have hp5 : Row w5 w4.heap.size (ptrs (w.heap.size + 1) [1]) := by rw [← hW5]; exact Row.newE (by rw [sz_setRow])
      have hr5 : RD w5 b s i := by rw [← hW5]; unfold RD at hr4 ⊢; (exact X.rws)
      have h25 : Own w5 w.heap.size (edC ed0) := by rw [← hW5]; (exact X.rws)
      have hF5 : Fr (· = b) w w5 := by rw [← hW5]; (exact X.frz)
      have hz5 : w5.heap.size = w4.heap.size + 1 := by rw [← hW5, sz_alloc, sz_setRow]
      clear hW5
      refine calls_mono (numbers_any w5 b (w.heap.size + 1) w4.heap.size 1 s i [1] _ hr5 hi hs hp5 he5 (by omega) ⟨by omega, by omega⟩ (by simp) (by decide)) ?_
      rintro r w6 ⟨hF6, ht⟩
      have hF' : Fr (· = b) w w6 := hF5.trans' hF6 fun k hk h => by omega
      have h26 := h25.fr hF6 (by omega)
      have hz6 := hF6.size
      rw [show [1].length = 1 from rfl, numsP_one] at ht
      cases hn : bnP s i 2147483647 with
      | error x =>
        rw [hn] at ht
        obtain rfl : r = panE x := ht
        unfold panE
        simp only [call_pan, p_block_pan, p_then_pan, p_end_pan]
        refine ⟨hF', ?_⟩
        rw [hP]
        unfold restP
        rw [hn]
        rfl
      | ok y =>
        obtain ⟨n1, j⟩ := y
        rw [hn] at ht
        obtain ⟨rfl, hr6, he6⟩ := ht
        have hl := bnP_le hi hn
        simp only at hr6 he6
        (repeat' first | (simp only [RA, MI, S.dst, Nat.reduceAdd, Nat.reduceMul, Nat.reduceEqDiff, ↓reduceIte, reduceCtorEq, ne_eq, Nat.reduceLT, Nat.reduceLeDiff, gt_iff_lt, ge_iff_le, Int.reduceToNat, Nat.reduceSub, Int.reduceEq, Int.reduceLT, Int.reduceLE, not_true_eq_false, x22.down, cE_eq, kwEq, bw_turn, bw_crop, bw_redact, bw_put, bw_drop, bw_note, ba_32, zS6, zS1, zP1, zP4, zEd, btE, tup_10, List.take_length, ba_nil, ba_size, ba_list, ba_ext, ba_add, true_and, at_z, at_s, putc1, putc4, List.setIfInBounds_toArray, List.set_cons_zero, List.set_cons_succ, List.size_toArray, List.length_cons, List.length_nil, List.toList_toArray]) | ((with_reducible first | apply ld_r | apply ldN_a | apply ldN_r | apply st_r | apply stN_a); (exact X.rws)) | ((with_reducible first | apply bound_of | apply wr_i64 | apply wr_u8 | apply wr_u64 | apply wr_i32 | apply wr_i16 | apply wr_u32 | apply wr_u16); (exact X.om); (exact X.om)) | ((with_reducible first | apply ints_at | apply le_andI | apply le_andN | apply ne_andI); (exact X.om)) | ((with_reducible first | apply same_and | apply same_andW); (exact X.olz)) | (with_reducible refine ite_of (fun _ => ?_) (fun _ => ?_)))
        refine tE_any (e := ⟨4, n1, 0, 0, 0, []⟩) hr6 (show EO w6 _ _ from he6) h26 (by omega) (by omega) (fun hj w' hFx => ⟨(hF').and hFx, ?_⟩) (fun hj w' hFx => ⟨(hF').trans' hFx fun k hk h => by omega, ?_⟩)
        · rw [hP]
          unfold restP
          rw [hn]; simp only
          rw [if_pos hj]; rfl
        · rw [hP]
          unfold restP
          rw [hn]; simp only
          rw [if_neg hj]; rfl
    | 5, _ =>
      simp only [kindW, List.getD_cons_zero, List.getD_cons_succ]
      (repeat' first | (simp only [RA, MI, S.dst, Nat.reduceAdd, Nat.reduceMul, Nat.reduceEqDiff, ↓reduceIte, reduceCtorEq, ne_eq, Nat.reduceLT, Nat.reduceLeDiff, gt_iff_lt, ge_iff_le, Int.reduceToNat, Nat.reduceSub, Int.reduceEq, Int.reduceLT, Int.reduceLE, not_true_eq_false, x22.down, cE_eq, kwEq, bw_turn, bw_crop, bw_redact, bw_put, bw_drop, bw_note, ba_32, zS6, zS1, zP1, zP4, zEd, btE, tup_10, List.take_length, ba_nil, ba_size, ba_list, ba_ext, ba_add, true_and, at_z, at_s, putc1, putc4, List.setIfInBounds_toArray, List.set_cons_zero, List.set_cons_succ, List.size_toArray, List.length_cons, List.length_nil, List.toList_toArray]) | ((with_reducible first | apply ld_r | apply ldN_a | apply ldN_r | apply st_r | apply stN_a); (exact X.rws)) | ((with_reducible first | apply bound_of | apply wr_i64 | apply wr_u8 | apply wr_u64 | apply wr_i32 | apply wr_i16 | apply wr_u32 | apply wr_u16); (exact X.om); (exact X.om)) | ((with_reducible first | apply ints_at | apply le_andI | apply le_andN | apply ne_andI); (exact X.om)) | ((with_reducible first | apply same_and | apply same_andW); (exact X.olz)) | (with_reducible refine ite_of (fun _ => ?_) (fun _ => ?_)))
      generalize hW5 : World.setRow w4 _ _ = w5
      have he5 : Own w5 (w.heap.size + 1) #[.int .i64 5, .int .i64 0, .int .i64 0, .int .i64 0, .int .i64 0, .string (ba [])] := by rw [← hW5]; (exact X.rws)
      have hr5 : RD w5 b s i := by rw [← hW5]; unfold RD at hr4 ⊢; (exact X.rws)
      have h25 : Own w5 w.heap.size (edC ed0) := by rw [← hW5]; (exact X.rws)
      have hF5 : Fr (· = b) w w5 := by rw [← hW5]; (exact X.frz)
      clear hW5
      refine calls_mono (quoted_any w5 b s i hr5 hi hs) ?_
      rintro r w6 ⟨hF6, ht⟩
      have hF' : Fr (· = b) w w6 := hF5.trans hF6
      have h26 := h25.fr hF6 (by omega)
      have he6 := he5.fr hF6 (by omega)
      cases hn : bqP s i with
      | error x =>
        rw [hn] at ht
        obtain rfl : r = panE x := ht
        unfold panE
        simp only [call_pan, p_block_pan, p_then_pan, p_end_pan]
        refine ⟨hF', ?_⟩
        rw [hP]
        unfold restP
        rw [hn]
        rfl
      | ok y =>
        obtain ⟨tx, j⟩ := y
        rw [hn] at ht
        obtain ⟨rfl, hr6⟩ := ht
        have hl := bqP_le hi hn
        simp only at hr6
        (repeat' first | (simp only [RA, MI, S.dst, Nat.reduceAdd, Nat.reduceMul, Nat.reduceEqDiff, ↓reduceIte, reduceCtorEq, ne_eq, Nat.reduceLT, Nat.reduceLeDiff, gt_iff_lt, ge_iff_le, Int.reduceToNat, Nat.reduceSub, Int.reduceEq, Int.reduceLT, Int.reduceLE, not_true_eq_false, x22.down, cE_eq, kwEq, bw_turn, bw_crop, bw_redact, bw_put, bw_drop, bw_note, ba_32, zS6, zS1, zP1, zP4, zEd, btE, tup_10, List.take_length, ba_nil, ba_size, ba_list, ba_ext, ba_add, true_and, at_z, at_s, putc1, putc4, List.setIfInBounds_toArray, List.set_cons_zero, List.set_cons_succ, List.size_toArray, List.length_cons, List.length_nil, List.toList_toArray]) | ((with_reducible first | apply ld_r | apply ldN_a | apply ldN_r | apply st_r | apply stN_a); (exact X.rws)) | ((with_reducible first | apply bound_of | apply wr_i64 | apply wr_u8 | apply wr_u64 | apply wr_i32 | apply wr_i16 | apply wr_u32 | apply wr_u16); (exact X.om); (exact X.om)) | ((with_reducible first | apply ints_at | apply le_andI | apply le_andN | apply ne_andI); (exact X.om)) | ((with_reducible first | apply same_and | apply same_andW); (exact X.olz)) | (with_reducible refine ite_of (fun _ => ?_) (fun _ => ?_)))
        have hS : Fr (· = w.heap.size + 1) w6 (w6.setRow (w.heap.size + 1) #[.int .i64 5, .int .i64 0, .int .i64 0, .int .i64 0, .int .i64 0, .string (ba tx)]) := (Fr.refl _ _).setRow _ _ fun _ => rfl
        refine tE_any (e := ⟨5, 0, 0, 0, 0, tx⟩) (hr6.fr hS (by omega)) (show EO _ _ _ from he6.set _) (h26.fr hS (by omega)) (by omega) (by omega) (fun hj w' hFx => ⟨(hF'.trans' hS fun k hk h => by omega).and hFx, ?_⟩) (fun hj w' hFx => ⟨(hF'.trans' hS fun k hk h => by omega).trans' hFx fun k hk h => by omega, ?_⟩)
        · rw [hP]
          unfold restP
          rw [hn]; simp only
          rw [if_pos hj]; rfl
        · rw [hP]
          unfold restP
          rw [hn]; simp only
          rw [if_neg hj]; rfl
end Go.Proofs.YtgibicifflfpfaaDoor
