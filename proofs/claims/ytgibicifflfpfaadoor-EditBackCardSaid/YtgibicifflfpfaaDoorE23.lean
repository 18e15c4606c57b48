/-
  The reader of edits: quoted texts; numbers behind blanks: walked. Conditions: none.
-/
import Derived.Test.YtgibicifflfpfaaDoorE17
import Derived.Test.YtgibicifflfpfaaDoorE22
import Derived.Test.YtgibicifflfpfaaDoorE13
import Derived.Test.YtgibicifflfpfaaDoorE14
set_option autoImplicit false
set_option linter.unusedSimpArgs false
set_option linter.unusedVariables false
namespace Go.Proofs.YtgibicifflfpfaaDoor
open X
set_option maxRecDepth 10000
set_option maxHeartbeats 1000000

theorem wordP_sp (s : List UInt8) (i : Nat) : wordP s i [[32]] = match spP s i with | .ok j => .ok (0, j) | .error x => .error x := by
  have h : lcp (s.drop i) [32] = if bt s i = 32 then 1 else 0 := by
    have hb := bt_drop s i 0
    rw [Nat.add_zero] at hb
    rw [← hb]
    cases s.drop i with
    | nil => simp [lcp, bt]
    | cons x l =>
      have e : (x = 32) ↔ bt (x :: l) 0 = 32 := by rw [bt_zero]; exact ⟨fun h => by rw [h]; rfl, fun h => UInt8.toNat_inj.1 h⟩
      simp only [lcp, e]
  unfold spP
  by_cases hc : bt s i = 32
  · rw [if_pos hc] at h ⊢
    exact wordP_ok (k := 0) (n := 1) (by rw [wordL, h]; rfl)
  · rw [if_neg hc] at h ⊢
    exact wordP_no (m := 0) (by rw [wordL, h]; rfl)
theorem spP_ok {s : List UInt8} {i j : Nat} (h : spP s i = .ok j) : j = i + 1 ∧ i < s.length := by
  unfold spP at h
  split at h
  · rename_i hc
    simp only [Except.ok.injEq] at h
    exact ⟨h.symm, bt_lt_of (by omega)⟩
  · cases h
/-- A blank is read. -/
theorem blank_any (w : World) (b b0 cap : Nat) (s : List UInt8) (i : Nat) (h : RD w b s i) (hi : i ≤ s.length) (hs : s.length < 1000000000000) (hv : Row w b0 #[.string (ba [32])]) :
    Calls Tryd.prog 33 [.pointer (some ⟨b, 0, none⟩), .slice (some ⟨b0, 0, none⟩) 1 cap].toArray w fun r w' => Fr (· = b) w w' ∧ Thr (spP s i) r fun j => r = .returned (.string (ba [32])) ∧ RD w' b s j := by
  refine calls_mono (word_any w b b0 0 cap s i [[32]] h hi hs ⟨_, hv, fun k hk => ?_⟩ (fun k hk => ?_) (by decide)) ?_
  · obtain rfl : k = 0 := by simp at hk; omega
    rfl
  · obtain rfl : k = 0 := by simp at hk; omega
    exact ⟨by simp [Asc], by decide⟩
  · rintro r w' ⟨hF, ht⟩
    refine ⟨hF, ?_⟩
    rw [wordP_sp] at ht
    unfold Thr at ht ⊢
    cases hsp : spP s i with
    | error x => rw [hsp] at ht; exact ht
    | ok j => rw [hsp] at ht; exact ht
theorem zS1 : zrep (zcells Tryd.prog 9) 1 = #[.string (ba [])] := by kernel_rfl
theorem bqP_e1 {s : List UInt8} {i : Nat} {x : Nat × Int} (h : spP s i = .error x) : bqP s i = .error x := by rw [bqP, h]
theorem bqP_ok {s : List UInt8} {i j : Nat} (h : spP s i = .ok j) : bqP s i = quoP s j := by rw [bqP, h]
theorem quoted_any (w : World) (b : Nat) (s : List UInt8) (i : Nat) (h : RD w b s i) (hi : i ≤ s.length) (hs : s.length < 100000000000) :
    Calls Tryd.prog 37 [.pointer (some ⟨b, 0, none⟩)].toArray w fun r w' => Fr (· = b) w w' ∧ Thr (bqP s i) r fun x => r = .returned (.string (ba x.1)) ∧ RD w' b s x.2 := by
  refine enter37 (by simp) ?_
  (repeat' first | (simp only [RA, MI, S.dst, Nat.reduceAdd, Nat.reduceMul, Nat.reduceEqDiff, ↓reduceIte, reduceCtorEq, ne_eq, Nat.reduceLT, Nat.reduceLeDiff, gt_iff_lt, ge_iff_le, Int.reduceToNat, Nat.reduceSub, Int.reduceEq, Int.reduceLT, Int.reduceLE, not_true_eq_false, c37, x37.down, btE, tup_10, List.take_length, ba_nil, ba_size, ba_list, ba_ext, ba_add, true_and, at_z, at_s, putc1, putc4, List.setIfInBounds_toArray, List.set_cons_zero, List.set_cons_succ, List.size_toArray, List.length_cons, List.length_nil, List.toList_toArray, zRef, zS1, ba_32]) | ((with_reducible first | apply ld_r | apply ldN_a | apply ldN_r | apply st_r | apply stN_a); (exact X.rws)) | ((with_reducible first | apply bound_of | apply wr_i64 | apply wr_u8 | apply wr_u64 | apply wr_i32 | apply wr_i16 | apply wr_u32 | apply wr_u16); (exact X.om); (exact X.om)) | ((with_reducible first | apply ints_at | apply le_andI | apply le_andN | apply ne_andI); (exact X.om)) | ((with_reducible first | apply same_and | apply same_andW); (exact X.olz)) | (with_reducible refine ite_of (fun _ => ?_) (fun _ => ?_)))
  have hA : Fr X.no w (w.alloc (Obj.cells #[Value.string (ba [32])] 9)) := (Fr.refl _ _).alloc _
  refine calls_mono (blank_any _ b w.heap.size 1 s i (h.fr hA fun h => h) hi (by omega) (Row.new _ _ _)) ?_
  rintro r w2 ⟨hF, ht⟩
  replace hF : Fr (· = b) w w2 := (hA.mono fun _ _ h => h.elim).trans hF
  cases hsp : spP s i with
  | error x =>
    rw [hsp] at ht
    obtain rfl : r = panE x := ht
    unfold panE
    simp only [call_pan, p_block_pan, p_then_pan, p_end_pan]
    refine ⟨hF, ?_⟩
    rw [bqP_e1 hsp]; rfl
  | ok j =>
    rw [hsp] at ht
    obtain ⟨rfl, hr⟩ := ht
    have hj := spP_ok hsp
    rw [bqP_ok hsp]
    have hr0 := hr
    unfold RD at hr
    (repeat' first | (simp only [RA, MI, S.dst, Nat.reduceAdd, Nat.reduceMul, Nat.reduceEqDiff, ↓reduceIte, reduceCtorEq, ne_eq, Nat.reduceLT, Nat.reduceLeDiff, gt_iff_lt, ge_iff_le, Int.reduceToNat, Nat.reduceSub, Int.reduceEq, Int.reduceLT, Int.reduceLE, not_true_eq_false, c37, x37.down, btE, tup_10, List.take_length, ba_nil, ba_size, ba_list, ba_ext, ba_add, true_and, at_z, at_s, putc1, putc4, List.setIfInBounds_toArray, List.set_cons_zero, List.set_cons_succ, List.size_toArray, List.length_cons, List.length_nil, List.toList_toArray, zRef, zS1, ba_32]) | ((with_reducible first | apply ld_r | apply ldN_a | apply ldN_r | apply st_r | apply stN_a); (exact X.rws)) | ((with_reducible first | apply bound_of | apply wr_i64 | apply wr_u8 | apply wr_u64 | apply wr_i32 | apply wr_i16 | apply wr_u32 | apply wr_u16); (exact X.om); (exact X.om)) | ((with_reducible first | apply ints_at | apply le_andI | apply le_andN | apply ne_andI); (exact X.om)) | ((with_reducible first | apply same_and | apply same_andW); (exact X.olz)) | (with_reducible refine ite_of (fun _ => ?_) (fun _ => ?_)))
    have hU := Unquote_any w2.drew (s.drop j) (by simp; omega)
    have hl : (s.drop j).length = s.length - j := List.length_drop
    refine calls_mono hU ?_
    rintro _ w3 ⟨rfl, hF3⟩
    unfold quoP
    have hU1 := unq_le (s.drop j)
    generalize unq (s.drop j) = U at *
    have hr3 := hr.drew.fr hF3 (fun h => h)
    (repeat' first | (simp only [RA, MI, S.dst, Nat.reduceAdd, Nat.reduceMul, Nat.reduceEqDiff, ↓reduceIte, reduceCtorEq, ne_eq, Nat.reduceLT, Nat.reduceLeDiff, gt_iff_lt, ge_iff_le, Int.reduceToNat, Nat.reduceSub, Int.reduceEq, Int.reduceLT, Int.reduceLE, not_true_eq_false, c37, x37.down, btE, tup_10, List.take_length, ba_nil, ba_size, ba_list, ba_ext, ba_add, true_and, at_z, at_s, putc1, putc4, List.setIfInBounds_toArray, List.set_cons_zero, List.set_cons_succ, List.size_toArray, List.length_cons, List.length_nil, List.toList_toArray, zRef, zS1, ba_32]) | ((with_reducible first | apply ld_r | apply ldN_a | apply ldN_r | apply st_r | apply stN_a); (exact X.rws)) | ((with_reducible first | apply bound_of | apply wr_i64 | apply wr_u8 | apply wr_u64 | apply wr_i32 | apply wr_i16 | apply wr_u32 | apply wr_u16); (exact X.om); (exact X.om)) | ((with_reducible first | apply ints_at | apply le_andI | apply le_andN | apply ne_andI); (exact X.om)) | ((with_reducible first | apply same_and | apply same_andW); (exact X.olz)) | (with_reducible refine ite_of (fun _ => ?_) (fun _ => ?_)))
    · rename_i h0
      refine ⟨(hF.drew).trans' hF3 fun k hk h => h.elim, ?_⟩
      rw [if_neg h0]
      show Ending.panicked _ = panE _
      unfold panE refV
      rw [show ((j : Int) + (U.2.1 : Nat)) = ((j + U.2.1 : Nat) : Int) by omega]
    · rename_i h0
      refine ⟨((hF.drew).trans' hF3 fun k hk h => h.elim).setRow b _ fun _ => rfl, ?_⟩
      rw [if_pos (by omega)]
      refine ⟨rfl, ?_⟩
      rw [show ((j : Int) + (U.2.1 : Nat)) = ((j + U.2.1 : Nat) : Int) by omega]
      exact Own.set _ hr3
def setL (C : Array Value) (os ns : List Nat) : Array Value := (os.zip ns).foldl (fun C x => C.setIfInBounds x.1 (.int .i64 x.2)) C
def ptrs (be : Nat) (os : List Nat) : Array Value := (os.map fun o => Value.pointer (some ⟨be, o, none⟩)).toArray
theorem setL_size (os ns : List Nat) (C : Array Value) : (setL C os ns).size = C.size := by
  unfold setL
  generalize os.zip ns = z
  induction z generalizing C with
  | nil => rfl
  | cons x z ih => rw [List.foldl_cons, ih]; simp
theorem setL_snoc (C : Array Value) (os acc : List Nat) (n : Nat) (h : acc.length < os.length) : setL C os (acc ++ [n]) = (setL C os acc).setIfInBounds (os.getD acc.length 0) (.int .i64 n) := by
  unfold setL
  have e : os.zip (acc ++ [n]) = os.zip acc ++ [(os.getD acc.length 0, n)] := by
    induction acc generalizing os with
    | nil =>
      cases os with
      | nil => simp at h
      | cons o os => simp
    | cons a acc ih =>
      cases os with
      | nil => simp at h
      | cons o os =>
        simp only [List.length_cons, Nat.add_lt_add_iff_right] at h
        simp [ih os h]
  rw [e, List.foldl_append]; rfl
theorem at_ptrs {be k : Nat} {os : List Nat} {K : Value → Prop} (hk : k < os.length) (h : K (.pointer (some ⟨be, os.getD k 0, none⟩))) : At (ptrs be os) k K := by
  refine at_of (v := .pointer (some ⟨be, os.getD k 0, none⟩)) ?_ h
  unfold ptrs
  rw [List.getElem?_toArray, List.getElem?_map, List.getD_eq_getElem?_getD, List.getElem?_eq_getElem hk]; rfl
theorem numL_le (l : List UInt8) : ∀ (k n : Nat), (numL l k n).2 ≤ k + l.length := by
  induction l with
  | nil => intro k n; simp [numL]
  | cons b l ih =>
    intro k n
    rw [numL]
    split
    · have := ih (k + 1) (min (10 * n + (b.toNat - 48)) 2147483648); simp only [List.length_cons]; omega
    · simp
theorem numP_le {s : List UInt8} {i limit n j : Nat} (hi : i ≤ s.length) (h : numP s i limit = .ok (n, j)) : j ≤ s.length := by
  have := numL_le (s.drop i) 0 0
  rw [List.length_drop] at this
  unfold numP at h
  split at h
  · cases h
  · split at h
    · cases h
    · simp only [Except.ok.injEq, Prod.mk.injEq] at h; omega
theorem numbers_any (w : World) (b be bp cap : Nat) (s : List UInt8) (i : Nat) (os : List Nat) (D : Array Value) (h : RD w b s i) (hi : i ≤ s.length) (hs : s.length < 100000000000) (hp : Row w bp (ptrs be os)) (hD : Own w be D) (hne : b ≠ be) (hne2 : bp ≠ b ∧ bp ≠ be) (hos : ∀ o ∈ os, o < D.size) (hol : os.length < 100) :
    Calls Tryd.prog 35 [.pointer (some ⟨b, 0, none⟩), .slice (some ⟨bp, 0, none⟩) os.length cap].toArray w fun r w' => Fr (fun k => k = b ∨ k = be) w w' ∧ Thr (numsP s os.length i) r fun x => r = .returned (.tuple #[]) ∧ RD w' b s x.2 ∧ Own w' be (setL D os x.1) := by
  refine enter35 (by simp) ?_
  (repeat' first | (simp only [RA, MI, S.dst, Nat.reduceAdd, Nat.reduceMul, Nat.reduceEqDiff, ↓reduceIte, reduceCtorEq, ne_eq, Nat.reduceLT, Nat.reduceLeDiff, gt_iff_lt, ge_iff_le, Int.reduceToNat, Nat.reduceSub, Int.reduceEq, Int.reduceLT, Int.reduceLE, not_true_eq_false, c35, x35.down, btE, tup_10, List.take_length, ba_nil, ba_size, ba_list, ba_ext, ba_add, true_and, at_z, at_s, putc1, putc4, List.setIfInBounds_toArray, List.set_cons_zero, List.set_cons_succ, List.size_toArray, List.length_cons, List.length_nil, List.toList_toArray, zS1, ba_32]) | ((with_reducible first | apply ld_r | apply ldN_a | apply ldN_r | apply st_r | apply stN_a); (exact X.rws)) | ((with_reducible first | apply bound_of | apply wr_i64 | apply wr_u8 | apply wr_u64 | apply wr_i32 | apply wr_i16 | apply wr_u32 | apply wr_u16); (exact X.om); (exact X.om)) | ((with_reducible first | apply ints_at | apply le_andI | apply le_andN | apply ne_andI); (exact X.om)) | ((with_reducible first | apply same_and | apply same_andW); (exact X.olz)) | (with_reducible refine ite_of (fun _ => ?_) (fun _ => ?_)))
  refine loop_ofx (σ := Nat × List Nat) (fun k => [(0, .pointer (some ⟨b, 0, none⟩)), (6, .slice (some ⟨bp, 0, none⟩) os.length cap), (7, .int .i64 os.length), (8, .int .i64 k.2.length)])
    (fun k w' => k.2.length ≤ os.length ∧ k.1 ≤ s.length ∧ Fr (fun k => k = b ∨ k = be) w w' ∧ RD w' b s k.1 ∧ Own w' be (setL D os k.2) ∧ numsP s os.length i = match numsP s (os.length - k.2.length) k.1 with | .error x => .error x | .ok (l, j) => .ok (k.2 ++ l, j)) (fun k => os.length - k.2.length)
    (i, []) [] rfl ⟨Nat.zero_le _, hi, Fr.refl _ _, h, by simpa [setL] using hD, ?_⟩ ?_
  · simp only [List.length_nil, Nat.sub_zero, List.nil_append]
    cases numsP s os.length i <;> rfl
  rintro ⟨j, acc⟩ x w1 ⟨hk, hj, hF, hr, hD1, he⟩
  simp only at hk hj hr hD1 he
  (repeat' first | (simp only [RA, MI, S.dst, Nat.reduceAdd, Nat.reduceMul, Nat.reduceEqDiff, ↓reduceIte, reduceCtorEq, ne_eq, Nat.reduceLT, Nat.reduceLeDiff, gt_iff_lt, ge_iff_le, Int.reduceToNat, Nat.reduceSub, Int.reduceEq, Int.reduceLT, Int.reduceLE, not_true_eq_false, c35, x35.down, btE, tup_10, List.take_length, ba_nil, ba_size, ba_list, ba_ext, ba_add, true_and, at_z, at_s, putc1, putc4, List.setIfInBounds_toArray, List.set_cons_zero, List.set_cons_succ, List.size_toArray, List.length_cons, List.length_nil, List.toList_toArray, zS1, ba_32]) | ((with_reducible first | apply ld_r | apply ldN_a | apply ldN_r | apply st_r | apply stN_a); (exact X.rws)) | ((with_reducible first | apply bound_of | apply wr_i64 | apply wr_u8 | apply wr_u64 | apply wr_i32 | apply wr_i16 | apply wr_u32 | apply wr_u16); (exact X.om); (exact X.om)) | ((with_reducible first | apply ints_at | apply le_andI | apply le_andN | apply ne_andI); (exact X.om)) | ((with_reducible first | apply same_and | apply same_andW); (exact X.olz)) | (with_reducible refine ite_of (fun _ => ?_) (fun _ => ?_)))
  · have hbp := hp.fr hF (by omega)
    refine ld_row hbp (at_ptrs (by omega) ?_)
    (repeat' first | (simp only [RA, MI, S.dst, Nat.reduceAdd, Nat.reduceMul, Nat.reduceEqDiff, ↓reduceIte, reduceCtorEq, ne_eq, Nat.reduceLT, Nat.reduceLeDiff, gt_iff_lt, ge_iff_le, Int.reduceToNat, Nat.reduceSub, Int.reduceEq, Int.reduceLT, Int.reduceLE, not_true_eq_false, c35, x35.down, btE, tup_10, List.take_length, ba_nil, ba_size, ba_list, ba_ext, ba_add, true_and, at_z, at_s, putc1, putc4, List.setIfInBounds_toArray, List.set_cons_zero, List.set_cons_succ, List.size_toArray, List.length_cons, List.length_nil, List.toList_toArray, zS1, ba_32]) | ((with_reducible first | apply ld_r | apply ldN_a | apply ldN_r | apply st_r | apply stN_a); (exact X.rws)) | ((with_reducible first | apply bound_of | apply wr_i64 | apply wr_u8 | apply wr_u64 | apply wr_i32 | apply wr_i16 | apply wr_u32 | apply wr_u16); (exact X.om); (exact X.om)) | ((with_reducible first | apply ints_at | apply le_andI | apply le_andN | apply ne_andI); (exact X.om)) | ((with_reducible first | apply same_and | apply same_andW); (exact X.olz)) | (with_reducible refine ite_of (fun _ => ?_) (fun _ => ?_)))
    obtain ⟨q, hq⟩ : ∃ q, os.length - acc.length = q + 1 := ⟨os.length - acc.length - 1, by omega⟩
    rw [hq, numsP] at he
    have hA : Fr X.no w1 (w1.alloc (Obj.cells #[Value.string (ba [32])] 9)) := (Fr.refl _ _).alloc _
    refine calls_mono (blank_any _ b w1.heap.size 1 s j (hr.fr hA fun h => h) hj (by omega) (Row.new _ _ _)) ?_
    rintro r w2 ⟨hF2, ht⟩
    replace hF2 : Fr (· = b) w1 w2 := (hA.mono fun _ _ h => h.elim).trans hF2
    have hD2 := hD1.fr hF2 (fun h => hne h.symm)
    replace hF := hF.trans' hF2 fun k _ h => .inl h
    cases hsp : spP s j with
    | error x =>
      rw [hsp] at ht
      obtain rfl : r = panE x := ht
      rw [bnP, hsp] at he
      simp only at he
      unfold panE
      simp only [call_pan, p_block_pan, p_then_pan, p_end_pan]
      refine ⟨hF, ?_⟩
      rw [he]; rfl
    | ok j2 =>
      rw [hsp] at ht
      obtain ⟨rfl, hr2⟩ := ht
      have hj2 := spP_ok hsp
      rw [bnP, hsp] at he
      simp only at he
      (repeat' first | (simp only [RA, MI, S.dst, Nat.reduceAdd, Nat.reduceMul, Nat.reduceEqDiff, ↓reduceIte, reduceCtorEq, ne_eq, Nat.reduceLT, Nat.reduceLeDiff, gt_iff_lt, ge_iff_le, Int.reduceToNat, Nat.reduceSub, Int.reduceEq, Int.reduceLT, Int.reduceLE, not_true_eq_false, c35, x35.down, btE, tup_10, List.take_length, ba_nil, ba_size, ba_list, ba_ext, ba_add, true_and, at_z, at_s, putc1, putc4, List.setIfInBounds_toArray, List.set_cons_zero, List.set_cons_succ, List.size_toArray, List.length_cons, List.length_nil, List.toList_toArray, zS1, ba_32]) | ((with_reducible first | apply ld_r | apply ldN_a | apply ldN_r | apply st_r | apply stN_a); (exact X.rws)) | ((with_reducible first | apply bound_of | apply wr_i64 | apply wr_u8 | apply wr_u64 | apply wr_i32 | apply wr_i16 | apply wr_u32 | apply wr_u16); (exact X.om); (exact X.om)) | ((with_reducible first | apply ints_at | apply le_andI | apply le_andN | apply ne_andI); (exact X.om)) | ((with_reducible first | apply same_and | apply same_andW); (exact X.olz)) | (with_reducible refine ite_of (fun _ => ?_) (fun _ => ?_)))
      refine calls_mono (number_any w2 b s j2 2147483647 hr2 (by omega) (by omega) (by omega)) ?_
      rintro r w3 ⟨hF3, ht⟩
      replace hF := hF.trans' hF3 fun k _ h => .inl h
      have hD3 := hD2.fr hF3 (fun h => hne h.symm)
      cases hn : numP s j2 2147483647 with
      | error x =>
        rw [hn] at ht he
        obtain rfl : r = panE x := ht
        simp only at he
        unfold panE
        simp only [call_pan, p_block_pan, p_then_pan, p_end_pan]
        refine ⟨hF, ?_⟩
        rw [he]; rfl
      | ok y =>
        obtain ⟨n, j3⟩ := y
        rw [hn] at ht he
        obtain ⟨rfl, hr3⟩ := ht
        simp only at he hr3
        have hj3 := numP_le (by omega) hn
        have ho := hos (os.getD acc.length 0) (by rw [List.getD_eq_getElem?_getD, List.getElem?_eq_getElem (show acc.length < os.length by omega)]; exact List.getElem_mem _)
        have hsz : (setL D os acc).size = D.size := setL_size _ _ _
        (repeat' first | (simp only [RA, MI, S.dst, Nat.reduceAdd, Nat.reduceMul, Nat.reduceEqDiff, ↓reduceIte, reduceCtorEq, ne_eq, Nat.reduceLT, Nat.reduceLeDiff, gt_iff_lt, ge_iff_le, Int.reduceToNat, Nat.reduceSub, Int.reduceEq, Int.reduceLT, Int.reduceLE, not_true_eq_false, c35, x35.down, btE, tup_10, List.take_length, ba_nil, ba_size, ba_list, ba_ext, ba_add, true_and, at_z, at_s, putc1, putc4, List.setIfInBounds_toArray, List.set_cons_zero, List.set_cons_succ, List.size_toArray, List.length_cons, List.length_nil, List.toList_toArray, zS1, ba_32]) | ((with_reducible first | apply ld_r | apply ldN_a | apply ldN_r | apply st_r | apply stN_a); (exact X.rws)) | ((with_reducible first | apply bound_of | apply wr_i64 | apply wr_u8 | apply wr_u64 | apply wr_i32 | apply wr_i16 | apply wr_u32 | apply wr_u16); (exact X.om); (exact X.om)) | ((with_reducible first | apply ints_at | apply le_andI | apply le_andN | apply ne_andI); (exact X.om)) | ((with_reducible first | apply same_and | apply same_andW); (exact X.olz)) | (with_reducible refine ite_of (fun _ => ?_) (fun _ => ?_)))
        have hS : Fr (· = be) w3 (w3.setRow be ((setL D os acc).setIfInBounds (os.getD acc.length 0) (.int .i64 n))) := (Fr.refl _ _).setRow _ _ fun _ => rfl
        refine ⟨(j3, acc ++ [n]), ⟨[], by simp only [List.length_append, List.length_singleton]; rfl⟩, ⟨by simp; omega, hj3, hF.trans' hS fun k _ h => .inr h, hr3.fr hS (fun h => hne h), ?_, ?_⟩, by simp; omega⟩
        · rw [setL_snoc _ _ _ _ (by omega)]; exact hD3.set _
        · rw [he, show os.length - (acc ++ [n]).length = q by simp; omega]
          simp only
          cases numsP s q j3 with
          | error x => rfl
          | ok y => obtain ⟨l, j4⟩ := y; simp
  · obtain hk2 : acc.length = os.length := by omega
    rw [hk2, Nat.sub_self, numsP] at he
    refine ⟨hF, ?_⟩
    rw [he]
    simp only [List.append_nil]
    exact ⟨hr, hD1⟩
end Go.Proofs.YtgibicifflfpfaaDoor
