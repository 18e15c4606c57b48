/-
  The reader of edits: words: walked. Conditions: none.
-/
import Derived.Test.YtgibicifflfpfaaDoorE16
import Derived.Test.YtgibicifflfpfaaDoorXS
set_option autoImplicit false
set_option linter.unusedSimpArgs false
set_option linter.unusedVariables false
namespace Go.Proofs.YtgibicifflfpfaaDoor
open X
set_option maxRecDepth 10000
set_option maxHeartbeats 1000000

theorem lcp_at {a b : List UInt8} {p : Nat} (h : a.take p = b.take p) (ha : p ≤ a.length) (hb : p ≤ b.length) (hs : p = b.length ∨ p = a.length ∨ bt a p ≠ bt b p) : lcp a b = p := by
  induction p generalizing a b with
  | zero =>
    cases a with
    | nil => simp [lcp]
    | cons x a =>
      cases b with
      | nil => simp [lcp]
      | cons y b =>
        simp only [List.length_cons] at hs
        have : x ≠ y := by
          rcases hs with hs | hs | hs
          · omega
          · omega
          · exact fun e => hs (by rw [e]; rfl)
        simp [lcp, this]
  | succ p ih =>
    cases a with
    | nil => simp at ha
    | cons x a =>
      cases b with
      | nil => simp at hb
      | cons y b =>
        simp only [List.take_succ_cons, List.cons.injEq] at h
        simp only [List.length_cons] at ha hb hs
        rw [lcp, if_pos h.1, ih h.2 (by omega) (by omega) (by rcases hs with hs | hs | hs; exact .inl (by omega); exact .inr (.inl (by omega)); exact .inr (.inr hs))]
/-- Block b0 holds the words, from o on. -/
def WD (w : World) (b0 o : Nat) (ws : List (List UInt8)) : Prop := ∃ C, Row w b0 C ∧ ∀ k, k < ws.length → C[o + k]? = some (.string (ba (ws.getD k [])))
theorem WD.fr {S : Nat → Prop} {w w' : World} {b0 o : Nat} {ws : List (List UInt8)} (h : WD w b0 o ws) (f : Fr S w w') (hn : ¬ S b0) : WD w' b0 o ws := let ⟨C, h1, h2⟩ := h; ⟨C, h1.fr f hn, h2⟩
theorem ld_wd {w : World} {b0 o k : Nat} {ws : List (List UInt8)} {K : Value → Prop} (h : WD w b0 o ws) (hk : k < ws.length) (h1 : K (.string (ba (ws.getD k [])))) : Ld w ⟨b0, o + k, none⟩ K := by
  obtain ⟨C, hr, hC⟩ := h
  exact ld_row hr (at_of (hC k hk) h1)
def WordPost (w : World) (b : Nat) (s : List UInt8) (i : Nat) (ws : List (List UInt8)) : Ending → World → Prop := fun r w' =>
  Fr (· = b) w w' ∧ Thr (wordP s i ws) r fun x => r = .returned (.string (ba (ws.getD x.1 []))) ∧ RD w' b s x.2
theorem wordP_ok {s : List UInt8} {i k n : Nat} {ws : List (List UInt8)} (h : wordL (s.drop i) ws 0 0 = (some k, n)) : wordP s i ws = .ok (k, i + n) := by rw [wordP, h]
theorem wordP_no {s : List UInt8} {i m : Nat} {ws : List (List UInt8)} (h : wordL (s.drop i) ws 0 0 = (none, m)) : wordP s i ws = .error (errAt s (i + m)) := by rw [wordP, h]
theorem word_any (w : World) (b b0 o cap : Nat) (s : List UInt8) (i : Nat) (ws : List (List UInt8)) (h : RD w b s i) (hi : i ≤ s.length) (hs : s.length < 1000000000000) (hv : WD w b0 o ws) (ha : ∀ k, k < ws.length → Asc (ws.getD k []) ∧ (ws.getD k []).length < 100) (hw : ws.length < 100) :
    Calls Tryd.prog 33 [.pointer (some ⟨b, 0, none⟩), .slice (some ⟨b0, o, none⟩) ws.length cap].toArray w (WordPost w b s i ws) := by
  refine enter33 (by simp) ?_
  have hRD := h
  unfold RD at h
  (repeat' first | (simp only [RA, MI, S.dst, Nat.reduceAdd, Nat.reduceMul, Nat.reduceEqDiff, ↓reduceIte, reduceCtorEq, ne_eq, Nat.reduceLT, Nat.reduceLeDiff, gt_iff_lt, ge_iff_le, Int.reduceToNat, Nat.reduceSub, Int.reduceEq, Int.reduceLT, Int.reduceLE, not_true_eq_false, c33, x33.down, btE, tup_10, List.take_length, ba_nil, ba_size, ba_list, ba_ext, ba_add, true_and, at_z, at_s, putc1, putc4, List.setIfInBounds_toArray, List.set_cons_zero, List.set_cons_succ, List.size_toArray, List.length_cons, List.length_nil, List.toList_toArray, zRef]) | ((with_reducible first | apply ld_r | apply ldN_a | apply ldN_r | apply st_r | apply stN_a); (exact X.rws)) | ((with_reducible first | apply bound_of | apply wr_i64 | apply wr_u8 | apply wr_u64 | apply wr_i32 | apply wr_i16 | apply wr_u32 | apply wr_u16); (exact X.om); (exact X.om)) | ((with_reducible first | apply ints_at | apply le_andI | apply le_andN | apply ne_andI); (exact X.om)) | ((with_reducible first | apply same_and | apply same_andW); (exact X.olz)) | (with_reducible refine ite_of (fun _ => ?_) (fun _ => ?_)))
  have hL : (s.drop i).length = s.length - i := List.length_drop
  generalize hLe : s.drop i = L at *
  refine loop_ofx (σ := Nat × Nat) (fun k => [(0, .pointer (some ⟨b, 0, none⟩)), (5, .string (ba L)), (6, .int .i64 k.2), (21, .slice (some ⟨b0, o, none⟩) ws.length cap), (22, .int .i64 ws.length), (23, .int .i64 k.1)])
    (fun k w' => k.1 ≤ ws.length ∧ Fr no w w' ∧ k.2 ≤ L.length ∧ wordL L ws 0 0 = wordL L (ws.drop k.1) k.1 k.2) (fun k => ws.length - k.1) (0, 0) [] rfl ⟨Nat.zero_le _, by (exact X.frz), Nat.zero_le _, rfl⟩ ?_
  rintro ⟨k, m⟩ x w1 ⟨hk, hF, hm, he⟩
  simp only at hk hm he
  have hF' := hF
  (repeat' first | (simp only [RA, MI, S.dst, Nat.reduceAdd, Nat.reduceMul, Nat.reduceEqDiff, ↓reduceIte, reduceCtorEq, ne_eq, Nat.reduceLT, Nat.reduceLeDiff, gt_iff_lt, ge_iff_le, Int.reduceToNat, Nat.reduceSub, Int.reduceEq, Int.reduceLT, Int.reduceLE, not_true_eq_false, c33, x33.down, btE, tup_10, List.take_length, ba_nil, ba_size, ba_list, ba_ext, ba_add, true_and, at_z, at_s, putc1, putc4, List.setIfInBounds_toArray, List.set_cons_zero, List.set_cons_succ, List.size_toArray, List.length_cons, List.length_nil, List.toList_toArray, zRef]) | ((with_reducible first | apply ld_r | apply ldN_a | apply ldN_r | apply st_r | apply stN_a); (exact X.rws)) | ((with_reducible first | apply bound_of | apply wr_i64 | apply wr_u8 | apply wr_u64 | apply wr_i32 | apply wr_i16 | apply wr_u32 | apply wr_u16); (exact X.om); (exact X.om)) | ((with_reducible first | apply ints_at | apply le_andI | apply le_andN | apply ne_andI); (exact X.om)) | ((with_reducible first | apply same_and | apply same_andW); (exact X.olz)) | (with_reducible refine ite_of (fun _ => ?_) (fun _ => ?_)))
  · refine ld_wd (hv.fr hF (fun h => h)) (by omega) ?_
    (repeat' first | (simp only [RA, MI, S.dst, Nat.reduceAdd, Nat.reduceMul, Nat.reduceEqDiff, ↓reduceIte, reduceCtorEq, ne_eq, Nat.reduceLT, Nat.reduceLeDiff, gt_iff_lt, ge_iff_le, Int.reduceToNat, Nat.reduceSub, Int.reduceEq, Int.reduceLT, Int.reduceLE, not_true_eq_false, c33, x33.down, btE, tup_10, List.take_length, ba_nil, ba_size, ba_list, ba_ext, ba_add, true_and, at_z, at_s, putc1, putc4, List.setIfInBounds_toArray, List.set_cons_zero, List.set_cons_succ, List.size_toArray, List.length_cons, List.length_nil, List.toList_toArray, zRef]) | ((with_reducible first | apply ld_r | apply ldN_a | apply ldN_r | apply st_r | apply stN_a); (exact X.rws)) | ((with_reducible first | apply bound_of | apply wr_i64 | apply wr_u8 | apply wr_u64 | apply wr_i32 | apply wr_i16 | apply wr_u32 | apply wr_u16); (exact X.om); (exact X.om)) | ((with_reducible first | apply ints_at | apply le_andI | apply le_andN | apply ne_andI); (exact X.om)) | ((with_reducible first | apply same_and | apply same_andW); (exact X.olz)) | (with_reducible refine ite_of (fun _ => ?_) (fun _ => ?_)))
    refine calls_mono (strHasPrefix_any w1 L (ws.getD k [])) ?_
    rintro _ w2 ⟨rfl, hw2⟩
    rw [hw2]; clear hw2 w2
    have ho := h.fr hF (fun h => h)
    have hsp : ws.drop k = ws.getD k [] :: ws.drop (k + 1) := by
      rw [List.drop_eq_getElem_cons (show k < ws.length by omega), List.getD_eq_getElem?_getD, List.getElem?_eq_getElem (show k < ws.length by omega)]; rfl
    rw [hsp, wordL] at he
    have hak := ha k (by omega)
    have hlc := lcp_le L (ws.getD k [])
    generalize hwd : ws.getD k [] = wd at *
    by_cases hp : lcp L wd = wd.length
    · rw [if_pos hp] at he
      simp only [hp, decide_true]
      (repeat' first | (simp only [RA, MI, S.dst, Nat.reduceAdd, Nat.reduceMul, Nat.reduceEqDiff, ↓reduceIte, reduceCtorEq, ne_eq, Nat.reduceLT, Nat.reduceLeDiff, gt_iff_lt, ge_iff_le, Int.reduceToNat, Nat.reduceSub, Int.reduceEq, Int.reduceLT, Int.reduceLE, not_true_eq_false, c33, x33.down, btE, tup_10, List.take_length, ba_nil, ba_size, ba_list, ba_ext, ba_add, true_and, at_z, at_s, putc1, putc4, List.setIfInBounds_toArray, List.set_cons_zero, List.set_cons_succ, List.size_toArray, List.length_cons, List.length_nil, List.toList_toArray, zRef]) | ((with_reducible first | apply ld_r | apply ldN_a | apply ldN_r | apply st_r | apply stN_a); (exact X.rws)) | ((with_reducible first | apply bound_of | apply wr_i64 | apply wr_u8 | apply wr_u64 | apply wr_i32 | apply wr_i16 | apply wr_u32 | apply wr_u16); (exact X.om); (exact X.om)) | ((with_reducible first | apply ints_at | apply le_andI | apply le_andN | apply ne_andI); (exact X.om)) | ((with_reducible first | apply same_and | apply same_andW); (exact X.olz)) | (with_reducible refine ite_of (fun _ => ?_) (fun _ => ?_)))
      refine ⟨(hF.mono fun _ _ h => h.elim).setRow _ _ fun _ => rfl, ?_⟩
      rw [wordP_ok (hLe ▸ he)]
      refine ⟨by rw [hwd], ?_⟩
      rw [show ((i : Int) + (wd.length : Nat)) = ((i + wd.length : Nat) : Int) by omega]
      exact ho.set _
    · rw [if_neg hp] at he
      simp only [hp, decide_false]
      (repeat' first | (simp only [RA, MI, S.dst, Nat.reduceAdd, Nat.reduceMul, Nat.reduceEqDiff, ↓reduceIte, reduceCtorEq, ne_eq, Nat.reduceLT, Nat.reduceLeDiff, gt_iff_lt, ge_iff_le, Int.reduceToNat, Nat.reduceSub, Int.reduceEq, Int.reduceLT, Int.reduceLE, not_true_eq_false, c33, x33.down, btE, tup_10, List.take_length, ba_nil, ba_size, ba_list, ba_ext, ba_add, true_and, at_z, at_s, putc1, putc4, List.setIfInBounds_toArray, List.set_cons_zero, List.set_cons_succ, List.size_toArray, List.length_cons, List.length_nil, List.toList_toArray, zRef]) | ((with_reducible first | apply ld_r | apply ldN_a | apply ldN_r | apply st_r | apply stN_a); (exact X.rws)) | ((with_reducible first | apply bound_of | apply wr_i64 | apply wr_u8 | apply wr_u64 | apply wr_i32 | apply wr_i16 | apply wr_u32 | apply wr_u16); (exact X.om); (exact X.om)) | ((with_reducible first | apply ints_at | apply le_andI | apply le_andN | apply ne_andI); (exact X.om)) | ((with_reducible first | apply same_and | apply same_andW); (exact X.olz)) | (with_reducible refine ite_of (fun _ => ?_) (fun _ => ?_)))
      refine loop_ofx (σ := Nat) (fun p => [(0, .pointer (some ⟨b, 0, none⟩)), (5, .string (ba L)), (6, .int .i64 m), (9, .int .i64 p), (21, .slice (some ⟨b0, o, none⟩) ws.length cap), (22, .int .i64 ws.length), (23, .int .i64 k), (41, .pointer (some ⟨w1.heap.size, 0, none⟩))])
        (fun p w' => p ≤ wd.length ∧ p ≤ L.length ∧ w'.heap[w1.heap.size]? = some (.stringIter (ba wd) p) ∧ Fr no w w' ∧ L.take p = wd.take p) (fun p => wd.length - p) 0 [] rfl ⟨Nat.zero_le _, Nat.zero_le _, heap_alloc_new w1 _, by (exact X.frz), rfl⟩ ?_
      clear hF'
      rintro p x w2 ⟨hp1, hp2, hit, hF2, hpe⟩
      have hz := hF.size
      have e6 : (if (m : Int) < p then (p : Int) else m) = ((max m p : Nat) : Int) := by split <;> omega
      (repeat' first | (simp only [RA, MI, S.dst, Nat.reduceAdd, Nat.reduceMul, Nat.reduceEqDiff, ↓reduceIte, reduceCtorEq, ne_eq, Nat.reduceLT, Nat.reduceLeDiff, gt_iff_lt, ge_iff_le, Int.reduceToNat, Nat.reduceSub, Int.reduceEq, Int.reduceLT, Int.reduceLE, not_true_eq_false, c33, x33.down, btE, tup_10, List.take_length, ba_nil, ba_size, ba_list, ba_ext, ba_add, true_and, at_z, at_s, putc1, putc4, List.setIfInBounds_toArray, List.set_cons_zero, List.set_cons_succ, List.size_toArray, List.length_cons, List.length_nil, List.toList_toArray, zRef]) | ((with_reducible first | apply ld_r | apply ldN_a | apply ldN_r | apply st_r | apply stN_a); (exact X.rws)) | ((with_reducible first | apply bound_of | apply wr_i64 | apply wr_u8 | apply wr_u64 | apply wr_i32 | apply wr_i16 | apply wr_u32 | apply wr_u16); (exact X.om); (exact X.om)) | ((with_reducible first | apply ints_at | apply le_andI | apply le_andN | apply ne_andI); (exact X.om)) | ((with_reducible first | apply same_and | apply same_andW); (exact X.olz)) | (with_reducible refine ite_of (fun _ => ?_) (fun _ => ?_)))
      refine nxt_of hit (fun hq => ?_) (fun hq => ?_)
      · rw [ba_size] at hq
        rw [dec_asc hak.1 hq]
        have b1 := bt_lt wd p
        have b2 := bt_lt L p
        have hit2 := iterAt_same (s := ba wd) (p := p + 1) hit
        have hF3 := hF2.iterAt w1.heap.size (ba wd) (p + 1) fun h => absurd h (by omega)
        simp only
        generalize w2.iterAt _ _ _ = w3 at *
        (repeat' first | (simp only [RA, MI, S.dst, Nat.reduceAdd, Nat.reduceMul, Nat.reduceEqDiff, ↓reduceIte, reduceCtorEq, ne_eq, Nat.reduceLT, Nat.reduceLeDiff, gt_iff_lt, ge_iff_le, Int.reduceToNat, Nat.reduceSub, Int.reduceEq, Int.reduceLT, Int.reduceLE, not_true_eq_false, c33, x33.down, btE, tup_10, List.take_length, ba_nil, ba_size, ba_list, ba_ext, ba_add, true_and, at_z, at_s, putc1, putc4, List.setIfInBounds_toArray, List.set_cons_zero, List.set_cons_succ, List.size_toArray, List.length_cons, List.length_nil, List.toList_toArray, zRef]) | ((with_reducible first | apply ld_r | apply ldN_a | apply ldN_r | apply st_r | apply stN_a); (exact X.rws)) | ((with_reducible first | apply bound_of | apply wr_i64 | apply wr_u8 | apply wr_u64 | apply wr_i32 | apply wr_i16 | apply wr_u32 | apply wr_u16); (exact X.om); (exact X.om)) | ((with_reducible first | apply ints_at | apply le_andI | apply le_andN | apply ne_andI); (exact X.om)) | ((with_reducible first | apply same_and | apply same_andW); (exact X.olz)) | (with_reducible refine ite_of (fun _ => ?_) (fun _ => ?_)))
        all_goals first
          | (exfalso; omega)
          | (have hlp : lcp L wd = p := lcp_at hpe hp2 hp1 (by omega)
             exact ⟨(k + 1, max m p), ⟨[], by rw [e6]; rfl⟩, ⟨by simp only; omega, hF3, by simp only; omega, by rw [he, hlp]⟩, by simp only; omega⟩)
          | (refine ⟨p + 1, ⟨[], by (exact X.envz)⟩, ⟨by omega, by omega, hit2, hF3, ?_⟩, by omega⟩
             rw [take_bt (by omega), take_bt hq, hpe]
             congr 3; omega)
      · rw [ba_size] at hq
        have hlp : lcp L wd = p := lcp_at hpe hp2 hp1 (by omega)
        (repeat' first | (simp only [RA, MI, S.dst, Nat.reduceAdd, Nat.reduceMul, Nat.reduceEqDiff, ↓reduceIte, reduceCtorEq, ne_eq, Nat.reduceLT, Nat.reduceLeDiff, gt_iff_lt, ge_iff_le, Int.reduceToNat, Nat.reduceSub, Int.reduceEq, Int.reduceLT, Int.reduceLE, not_true_eq_false, c33, x33.down, btE, tup_10, List.take_length, ba_nil, ba_size, ba_list, ba_ext, ba_add, true_and, at_z, at_s, putc1, putc4, List.setIfInBounds_toArray, List.set_cons_zero, List.set_cons_succ, List.size_toArray, List.length_cons, List.length_nil, List.toList_toArray, zRef]) | ((with_reducible first | apply ld_r | apply ldN_a | apply ldN_r | apply st_r | apply stN_a); (exact X.rws)) | ((with_reducible first | apply bound_of | apply wr_i64 | apply wr_u8 | apply wr_u64 | apply wr_i32 | apply wr_i16 | apply wr_u32 | apply wr_u16); (exact X.om); (exact X.om)) | ((with_reducible first | apply ints_at | apply le_andI | apply le_andN | apply ne_andI); (exact X.om)) | ((with_reducible first | apply same_and | apply same_andW); (exact X.olz)) | (with_reducible refine ite_of (fun _ => ?_) (fun _ => ?_)))
        exact ⟨(k + 1, max m p), ⟨[], by rw [e6]; rfl⟩, ⟨by simp only; omega, hF2, by simp only; omega, by rw [he, hlp]⟩, by simp only; omega⟩
  · obtain rfl : k = ws.length := by omega
    rw [List.drop_length, wordL] at he
    refine ld_row (h.fr hF (fun h => h)).row ?_
    (repeat' first | (simp only [RA, MI, S.dst, Nat.reduceAdd, Nat.reduceMul, Nat.reduceEqDiff, ↓reduceIte, reduceCtorEq, ne_eq, Nat.reduceLT, Nat.reduceLeDiff, gt_iff_lt, ge_iff_le, Int.reduceToNat, Nat.reduceSub, Int.reduceEq, Int.reduceLT, Int.reduceLE, not_true_eq_false, c33, x33.down, btE, tup_10, List.take_length, ba_nil, ba_size, ba_list, ba_ext, ba_add, true_and, at_z, at_s, putc1, putc4, List.setIfInBounds_toArray, List.set_cons_zero, List.set_cons_succ, List.size_toArray, List.length_cons, List.length_nil, List.toList_toArray, zRef]) | ((with_reducible first | apply ld_r | apply ldN_a | apply ldN_r | apply st_r | apply stN_a); (exact X.rws)) | ((with_reducible first | apply bound_of | apply wr_i64 | apply wr_u8 | apply wr_u64 | apply wr_i32 | apply wr_i16 | apply wr_u32 | apply wr_u16); (exact X.om); (exact X.om)) | ((with_reducible first | apply ints_at | apply le_andI | apply le_andN | apply ne_andI); (exact X.om)) | ((with_reducible first | apply same_and | apply same_andW); (exact X.olz)) | (with_reducible refine ite_of (fun _ => ?_) (fun _ => ?_)))
    refine calls_mono (fail_any w1 b s i (i + m) (hRD.fr hF (fun h => h))) ?_
    rintro _ w3 ⟨rfl, hf⟩
    unfold panE
    simp only [call_pan, p_block_pan, p_then_pan, p_end_pan]
    refine ⟨(hF.and hf).mono fun _ _ h => h.elim, ?_⟩
    rw [wordP_no (hLe ▸ he)]
    rfl
end Go.Proofs.YtgibicifflfpfaaDoor
