/-
  A quoted text, read: walked. Conditions: none.
-/
import Derived.Test.YtgibicifflfpfaaDoorE21
set_option autoImplicit false
set_option linter.unusedSimpArgs false
set_option linter.unusedVariables false
namespace Go.Proofs.YtgibicifflfpfaaDoor
open X
set_option maxRecDepth 10000
set_option maxHeartbeats 1000000

theorem rb_len (r : Nat) : (rb r).length ≤ 4 := by
  unfold rb
  repeat' split
  all_goals simp
theorem unqE_len {l : List UInt8} {i j : Nat} {x : List UInt8} (h : unqE l i = (j, some x)) : x.length ≤ 4 ∧ i < j := by
  unfold unqE at h
  split at h
  · simp only [Prod.mk.injEq, Option.some.injEq] at h; obtain ⟨rfl, rfl⟩ := h; simp
  split at h
  · simp only [Prod.mk.injEq, Option.some.injEq] at h; obtain ⟨rfl, rfl⟩ := h; simp
  split at h
  · unfold unqU at h
    have hg := hexs_ge l 5 (i + 1 + 2) (dig (bt l (i + 1 + 1)))
    split at h
    · simp at h
    split at h
    · simp at h
    split at h
    · simp only [Prod.mk.injEq, Option.some.injEq] at h; obtain ⟨rfl, rfl⟩ := h; exact ⟨rb_len _, by omega⟩
    · simp at h
  split at h
  · split at h
    · simp at h
    split at h
    · simp at h
    simp only [Prod.mk.injEq, Option.some.injEq] at h; obtain ⟨rfl, rfl⟩ := h; simp
  · simp at h
theorem unqE_lt {l : List UInt8} {i : Nat} (hi : i ≤ l.length) : (unqE l i).1 ≤ l.length := unqE_le l i hi
theorem errAt_le (l : List UInt8) (i : Nat) : (errAt l i).1 ≤ l.length := by unfold errAt; split <;> simp only <;> omega
theorem unqL_le (l : List UInt8) : ∀ (f i : Nat) (out : List UInt8), (unqL l f i out).2.1 ≤ l.length
  | 0, i, out => errAt_le l i
  | f + 1, i, out => by
    unfold unqL
    split
    · exact errAt_le l i
    split
    · simp only; omega
    split
    · exact errAt_le l i
    split
    · exact unqL_le l f _ _
    rcases unqE l (i + 1) with ⟨j, _ | y⟩
    · exact errAt_le l j
    · exact unqL_le l f _ _
theorem unq_le (l : List UInt8) : (unq l).2.1 ≤ l.length := by
  unfold unq
  split
  · exact errAt_le l 0
  · exact unqL_le l _ _ _
theorem vec_str {w : World} {v : Value} {out : List UInt8} {b0 : Nat} {K : ByteArray → Prop} (hv : Vec w v 1 (bc out) b0) (h : K (ba out)) : Slc1 v fun _ n _ => Take w 1 n v fun cs => Bytes1 cs K := by
  obtain ⟨a, n, cap, rfl, hn, h0⟩ := hv.row
  rw [bc_len, Nat.mul_one] at hn
  simp only [Slc1_mk]
  rcases h0 with ⟨rfl, rfl, rfl⟩ | ⟨b', rest, h1, rfl, h2, h3⟩
  · have : out = [] := List.eq_nil_of_length_eq_zero (by omega)
    subst this
    exact ⟨rfl, h⟩
  · rw [tk_some]
    refine ldN_row h3.row (by simp [bc_len]; omega) ?_
    obtain rfl : n = (bc out).length := by rw [bc_len]; omega
    have e : ((bc out ++ rest).toArray.extract 0 (0 + (bc out).length * 1)).toList = bc out := by simp
    rw [e, bytes_bc]; exact h
theorem zGR : zcells Tryd.prog 103 = #[.string (ba []), .int .i64 (0 : Nat), .slice none 0 0, .int .i64 0] := by kernel_rfl
/-- What is answered of a quoted text. -/
def UP (w : World) (s : List UInt8) : Ending → World → Prop := fun r w' => r = .returned (.tuple #[.string (ba (unq s).1), .int .i64 (unq s).2.1, .int .i64 (unq s).2.2]) ∧ Fr no w w'
def tQ : C := (.seq (.block 0 (.loop (.seq (.seq (.region r47_3) (.cond (.tmp 16) .skip (.exit 0))) (.block 1 (.seq (.region r47_4) (.block 2 (.seq (.region r47_6) (.cond (.tmp 21) .skip (.seq (.region r47_7) (.cond (.tmp 27) (.seq (.regionD r47_8) .ret) (.seq (.region r47_9) (.cond (.tmp 40) (.seq (.region r47_10) (.region r47_11)) (.seq (.region r47_12) (.cond (.tmp 52) (.seq (.region r47_13) (.region r47_14)) (.region r47_5))))))))))))))) (.seq (.regionD r47_15) .ret))
theorem cQ_eq : c47 = (.seq (.region r47_0) (.seq (.region r47_1) (.seq (.region r47_2) tQ))) := rfl
theorem coreQ {w : World} {B : Nat} {s : List UInt8} (hB : w.heap.size ≤ B) (hs : s.length < 100000000000) (w1 : World) (i : Nat) (out : List UInt8) (e : Int) (hF : Fr no w w1) (hg : GR w1 B s i out e)
    (h1 : e = 0 → ∃ f, s.length < f + i ∧ i ≤ s.length ∧ out.length ≤ 4 * i ∧ unq s = unqL s f i out) (h2 : ¬ e = 0 → unq s = ([], i, e)) :
    vc Tryd.prog tQ (endPost [.t 2, .t 3, .t 4] (UP w s)) [(5, .pointer (some ⟨B, 0, none⟩))] w1 := by
  (repeat' first | (simp only [RA, MI, S.dst, Nat.reduceAdd, Nat.reduceMul, Nat.reduceEqDiff, ↓reduceIte, reduceCtorEq, ne_eq, Nat.reduceLT, Nat.reduceLeDiff, gt_iff_lt, ge_iff_le, Int.reduceToNat, Nat.reduceSub, Int.reduceEq, Int.reduceLT, Int.reduceLE, not_true_eq_false, x47.down, btE, tup_10, List.take_length, ba_nil, ba_size, ba_list, ba_ext, ba_add, true_and, at_z, at_s, putc1, putc4, List.setIfInBounds_toArray, List.set_cons_zero, List.set_cons_succ, List.size_toArray, List.length_cons, List.length_nil, List.toList_toArray, tQ, zU1]) | ((with_reducible first | apply ld_r | apply ldN_a | apply ldN_r | apply st_r | apply stN_a); (exact X.rws)) | ((with_reducible first | apply bound_of | apply wr_i64 | apply wr_u8 | apply wr_u64 | apply wr_i32 | apply wr_i16 | apply wr_u32 | apply wr_u16); (exact X.om); (exact X.om)) | ((with_reducible first | apply ints_at | apply le_andI | apply le_andN | apply ne_andI); (exact X.om)) | ((with_reducible first | apply same_and | apply same_andW); (exact X.olz)) | (with_reducible refine ite_of (fun _ => ?_) (fun _ => ?_)))
  refine loop_ofx (σ := Nat × List UInt8 × Int) (fun _ => [(5, .pointer (some ⟨B, 0, none⟩))])
    (fun k w' => Fr no w w' ∧ GR w' B s k.1 k.2.1 k.2.2 ∧ (k.2.2 = 0 → ∃ f, s.length < f + k.1 ∧ k.1 ≤ s.length ∧ k.2.1.length ≤ 4 * k.1 ∧ unq s = unqL s f k.1 k.2.1) ∧ (¬ k.2.2 = 0 → unq s = ([], k.1, k.2.2)))
    (fun k => if k.2.2 = 0 then s.length - k.1 + 1 else 0) (i, out, e) [] rfl ⟨hF, hg, h1, h2⟩ ?_
  clear hF hg h1 h2 w1 i out e
  rintro ⟨i, out, e⟩ x w1 ⟨hF, hg, h1, h2⟩
  simp only at hg h1 h2
  have hz := hF.size
  by_cases he : e = 0
  · subst he
    obtain ⟨f, hf, hi, hl, hu⟩ := h1 rfl
    clear h1 h2
    obtain ⟨f, rfl⟩ : ∃ g, f = g + 1 := ⟨f - 1, by omega⟩
    have hg0 := hg
    obtain ⟨v, ho, hv⟩ := hg
    have hBl := ho.lt
    (repeat' first | (simp only [RA, MI, S.dst, Nat.reduceAdd, Nat.reduceMul, Nat.reduceEqDiff, ↓reduceIte, reduceCtorEq, ne_eq, Nat.reduceLT, Nat.reduceLeDiff, gt_iff_lt, ge_iff_le, Int.reduceToNat, Nat.reduceSub, Int.reduceEq, Int.reduceLT, Int.reduceLE, not_true_eq_false, x47.down, btE, tup_10, List.take_length, ba_nil, ba_size, ba_list, ba_ext, ba_add, true_and, at_z, at_s, putc1, putc4, List.setIfInBounds_toArray, List.set_cons_zero, List.set_cons_succ, List.size_toArray, List.length_cons, List.length_nil, List.toList_toArray, tQ, zU1]) | ((with_reducible first | apply ld_r | apply ldN_a | apply ldN_r | apply st_r | apply stN_a); (exact X.rws)) | ((with_reducible first | apply bound_of | apply wr_i64 | apply wr_u8 | apply wr_u64 | apply wr_i32 | apply wr_i16 | apply wr_u32 | apply wr_u16); (exact X.om); (exact X.om)) | ((with_reducible first | apply ints_at | apply le_andI | apply le_andN | apply ne_andI); (exact X.om)) | ((with_reducible first | apply same_and | apply same_andW); (exact X.olz)) | (with_reducible refine ite_of (fun _ => ?_) (fun _ => ?_)))
    rcases Nat.lt_or_ge i s.length with hil | hil
    · refine calls_mono (byte_in w1 B s out i hil hg0) ?_
      clear ho hv v hg0
      rintro _ w2 ⟨rfl, hF2, hg2⟩
      replace hF := hF.trans' hF2 fun k hk h => absurd h (by omega)
      have hz2 := hF2.size
      clear hF2
      have hg0 := hg2
      obtain ⟨v, ho, hv⟩ := hg2
      have hb := bt_lt s i
      rw [unqL, if_neg (by omega)] at hu
      by_cases c1 : bt s i = 34
      · rw [if_pos c1] at hu
        (repeat' first | (simp only [RA, MI, S.dst, Nat.reduceAdd, Nat.reduceMul, Nat.reduceEqDiff, ↓reduceIte, reduceCtorEq, ne_eq, Nat.reduceLT, Nat.reduceLeDiff, gt_iff_lt, ge_iff_le, Int.reduceToNat, Nat.reduceSub, Int.reduceEq, Int.reduceLT, Int.reduceLE, not_true_eq_false, x47.down, btE, tup_10, List.take_length, ba_nil, ba_size, ba_list, ba_ext, ba_add, true_and, at_z, at_s, putc1, putc4, List.setIfInBounds_toArray, List.set_cons_zero, List.set_cons_succ, List.size_toArray, List.length_cons, List.length_nil, List.toList_toArray, tQ, zU1]) | ((with_reducible first | apply ld_r | apply ldN_a | apply ldN_r | apply st_r | apply stN_a); (exact X.rws)) | ((with_reducible first | apply bound_of | apply wr_i64 | apply wr_u8 | apply wr_u64 | apply wr_i32 | apply wr_i16 | apply wr_u32 | apply wr_u16); (exact X.om); (exact X.om)) | ((with_reducible first | apply ints_at | apply le_andI | apply le_andN | apply ne_andI); (exact X.om)) | ((with_reducible first | apply same_and | apply same_andW); (exact X.olz)) | (with_reducible refine ite_of (fun _ => ?_) (fun _ => ?_)))
        all_goals first | (exfalso; omega) | skip
        refine vec_str (hv.fr ((Fr.refl X.no w2).drew) fun _ _ h => h) ?_
        (repeat' first | (simp only [RA, MI, S.dst, Nat.reduceAdd, Nat.reduceMul, Nat.reduceEqDiff, ↓reduceIte, reduceCtorEq, ne_eq, Nat.reduceLT, Nat.reduceLeDiff, gt_iff_lt, ge_iff_le, Int.reduceToNat, Nat.reduceSub, Int.reduceEq, Int.reduceLT, Int.reduceLE, not_true_eq_false, x47.down, btE, tup_10, List.take_length, ba_nil, ba_size, ba_list, ba_ext, ba_add, true_and, at_z, at_s, putc1, putc4, List.setIfInBounds_toArray, List.set_cons_zero, List.set_cons_succ, List.size_toArray, List.length_cons, List.length_nil, List.toList_toArray, tQ, zU1]) | ((with_reducible first | apply ld_r | apply ldN_a | apply ldN_r | apply st_r | apply stN_a); (exact X.rws)) | ((with_reducible first | apply bound_of | apply wr_i64 | apply wr_u8 | apply wr_u64 | apply wr_i32 | apply wr_i16 | apply wr_u32 | apply wr_u16); (exact X.om); (exact X.om)) | ((with_reducible first | apply ints_at | apply le_andI | apply le_andN | apply ne_andI); (exact X.om)) | ((with_reducible first | apply same_and | apply same_andW); (exact X.olz)) | (with_reducible refine ite_of (fun _ => ?_) (fun _ => ?_)))
        refine ⟨?_, hF.drew⟩
        rw [hu]; rfl
      rw [if_neg c1] at hu
      by_cases c2 : bt s i = 92
      · rw [if_neg (by omega), if_neg (by omega)] at hu
        have hS : Fr (· = B) w2 (w2.setRow B #[.string (ba s), .int .i64 ((i : Int) + 1), v, .int .i64 0]) := (Fr.refl _ _).setRow B _ fun _ => rfl
        have ho3 : Own (w2.setRow B #[.string (ba s), .int .i64 ((i : Int) + 1), v, .int .i64 0]) B #[.string (ba s), .int .i64 ((i + 1 : Nat) : Int), v, .int .i64 0] := ho.set _
        have hv3 : Vec (w2.setRow B #[.string (ba s), .int .i64 ((i : Int) + 1), v, .int .i64 0]) v 1 (bc out) (B + 1) := hv.fr hS fun k hk h => by have := hv.blk_ge k hk; omega
        have hF3 : Fr no w (w2.setRow B #[.string (ba s), .int .i64 ((i : Int) + 1), v, .int .i64 0]) := hF.trans' hS fun k hk h => absurd h (by omega)
        (repeat' first | (simp only [RA, MI, S.dst, Nat.reduceAdd, Nat.reduceMul, Nat.reduceEqDiff, ↓reduceIte, reduceCtorEq, ne_eq, Nat.reduceLT, Nat.reduceLeDiff, gt_iff_lt, ge_iff_le, Int.reduceToNat, Nat.reduceSub, Int.reduceEq, Int.reduceLT, Int.reduceLE, not_true_eq_false, x47.down, btE, tup_10, List.take_length, ba_nil, ba_size, ba_list, ba_ext, ba_add, true_and, at_z, at_s, putc1, putc4, List.setIfInBounds_toArray, List.set_cons_zero, List.set_cons_succ, List.size_toArray, List.length_cons, List.length_nil, List.toList_toArray, tQ, zU1]) | ((with_reducible first | apply ld_r | apply ldN_a | apply ldN_r | apply st_r | apply stN_a); (exact X.rws)) | ((with_reducible first | apply bound_of | apply wr_i64 | apply wr_u8 | apply wr_u64 | apply wr_i32 | apply wr_i16 | apply wr_u32 | apply wr_u16); (exact X.om); (exact X.om)) | ((with_reducible first | apply ints_at | apply le_andI | apply le_andN | apply ne_andI); (exact X.om)) | ((with_reducible first | apply same_and | apply same_andW); (exact X.olz)) | (with_reducible refine ite_of (fun _ => ?_) (fun _ => ?_)))
        all_goals first | (exfalso; omega) | skip
        generalize World.setRow w2 B _ = w3 at *
        have hz3 := hF3.size
        refine calls_mono (escape_any w3 B (i + 1) s out ⟨v, ho3, hv3⟩ (by omega) (by omega) (by omega) ho3.lt) ?_
        have hge := unqE_ge s (i + 1)
        have hle := unqE_le s (i + 1) (by omega)
        have hlen := @unqE_len s (i + 1)
        rcases hE : unqE s (i + 1) with ⟨j, _ | y⟩
        · rintro _ w4 ⟨rfl, hF4, o, hg4⟩
          rw [hE] at hu hge hle
          simp only at hu hge hle
          (repeat' first | (simp only [RA, MI, S.dst, Nat.reduceAdd, Nat.reduceMul, Nat.reduceEqDiff, ↓reduceIte, reduceCtorEq, ne_eq, Nat.reduceLT, Nat.reduceLeDiff, gt_iff_lt, ge_iff_le, Int.reduceToNat, Nat.reduceSub, Int.reduceEq, Int.reduceLT, Int.reduceLE, not_true_eq_false, x47.down, btE, tup_10, List.take_length, ba_nil, ba_size, ba_list, ba_ext, ba_add, true_and, at_z, at_s, putc1, putc4, List.setIfInBounds_toArray, List.set_cons_zero, List.set_cons_succ, List.size_toArray, List.length_cons, List.length_nil, List.toList_toArray, tQ, zU1]) | ((with_reducible first | apply ld_r | apply ldN_a | apply ldN_r | apply st_r | apply stN_a); (exact X.rws)) | ((with_reducible first | apply bound_of | apply wr_i64 | apply wr_u8 | apply wr_u64 | apply wr_i32 | apply wr_i16 | apply wr_u32 | apply wr_u16); (exact X.om); (exact X.om)) | ((with_reducible first | apply ints_at | apply le_andI | apply le_andN | apply ne_andI); (exact X.om)) | ((with_reducible first | apply same_and | apply same_andW); (exact X.olz)) | (with_reducible refine ite_of (fun _ => ?_) (fun _ => ?_)))
          have hne := errAt_ne s j
          refine ⟨((errAt s j).1, o, (errAt s j).2), ⟨_, rfl⟩, ⟨hF3.trans' hF4 fun k hk h => absurd h (by omega), hg4, fun h => absurd h hne, fun _ => by rw [hu, fault]⟩, ?_⟩
          simp only
          rw [if_neg hne]; omega
        · rintro _ w4 ⟨rfl, hF4, hg4⟩
          rw [hE] at hu hge hle
          simp only at hu hge hle
          have hy := hlen hE
          (repeat' first | (simp only [RA, MI, S.dst, Nat.reduceAdd, Nat.reduceMul, Nat.reduceEqDiff, ↓reduceIte, reduceCtorEq, ne_eq, Nat.reduceLT, Nat.reduceLeDiff, gt_iff_lt, ge_iff_le, Int.reduceToNat, Nat.reduceSub, Int.reduceEq, Int.reduceLT, Int.reduceLE, not_true_eq_false, x47.down, btE, tup_10, List.take_length, ba_nil, ba_size, ba_list, ba_ext, ba_add, true_and, at_z, at_s, putc1, putc4, List.setIfInBounds_toArray, List.set_cons_zero, List.set_cons_succ, List.size_toArray, List.length_cons, List.length_nil, List.toList_toArray, tQ, zU1]) | ((with_reducible first | apply ld_r | apply ldN_a | apply ldN_r | apply st_r | apply stN_a); (exact X.rws)) | ((with_reducible first | apply bound_of | apply wr_i64 | apply wr_u8 | apply wr_u64 | apply wr_i32 | apply wr_i16 | apply wr_u32 | apply wr_u16); (exact X.om); (exact X.om)) | ((with_reducible first | apply ints_at | apply le_andI | apply le_andN | apply ne_andI); (exact X.om)) | ((with_reducible first | apply same_and | apply same_andW); (exact X.olz)) | (with_reducible refine ite_of (fun _ => ?_) (fun _ => ?_)))
          refine ⟨(j, out ++ y, 0), ⟨_, rfl⟩, ⟨hF3.trans' hF4 fun k hk h => absurd h (by omega), hg4, fun _ => ⟨f, by simp only; omega, hle, by simp only [List.length_append]; omega, hu⟩, fun h => absurd rfl h⟩, ?_⟩
          simp only
          rw [if_pos trivial]; omega
      by_cases c3 : bt s i < 32 ∨ 126 < bt s i
      · rw [if_pos c3] at hu
        (repeat' first | (simp only [RA, MI, S.dst, Nat.reduceAdd, Nat.reduceMul, Nat.reduceEqDiff, ↓reduceIte, reduceCtorEq, ne_eq, Nat.reduceLT, Nat.reduceLeDiff, gt_iff_lt, ge_iff_le, Int.reduceToNat, Nat.reduceSub, Int.reduceEq, Int.reduceLT, Int.reduceLE, not_true_eq_false, x47.down, btE, tup_10, List.take_length, ba_nil, ba_size, ba_list, ba_ext, ba_add, true_and, at_z, at_s, putc1, putc4, List.setIfInBounds_toArray, List.set_cons_zero, List.set_cons_succ, List.size_toArray, List.length_cons, List.length_nil, List.toList_toArray, tQ, zU1]) | ((with_reducible first | apply ld_r | apply ldN_a | apply ldN_r | apply st_r | apply stN_a); (exact X.rws)) | ((with_reducible first | apply bound_of | apply wr_i64 | apply wr_u8 | apply wr_u64 | apply wr_i32 | apply wr_i16 | apply wr_u32 | apply wr_u16); (exact X.om); (exact X.om)) | ((with_reducible first | apply ints_at | apply le_andI | apply le_andN | apply ne_andI); (exact X.om)) | ((with_reducible first | apply same_and | apply same_andW); (exact X.olz)) | (with_reducible refine ite_of (fun _ => ?_) (fun _ => ?_)))
        all_goals first | (exfalso; omega) | skip
        all_goals
          refine calls_mono (stop_in w2 B s out i hg0) ?_
          rintro _ w4 ⟨rfl, hF4, hg4⟩
          (repeat' first | (simp only [RA, MI, S.dst, Nat.reduceAdd, Nat.reduceMul, Nat.reduceEqDiff, ↓reduceIte, reduceCtorEq, ne_eq, Nat.reduceLT, Nat.reduceLeDiff, gt_iff_lt, ge_iff_le, Int.reduceToNat, Nat.reduceSub, Int.reduceEq, Int.reduceLT, Int.reduceLE, not_true_eq_false, x47.down, btE, tup_10, List.take_length, ba_nil, ba_size, ba_list, ba_ext, ba_add, true_and, at_z, at_s, putc1, putc4, List.setIfInBounds_toArray, List.set_cons_zero, List.set_cons_succ, List.size_toArray, List.length_cons, List.length_nil, List.toList_toArray, tQ, zU1]) | ((with_reducible first | apply ld_r | apply ldN_a | apply ldN_r | apply st_r | apply stN_a); (exact X.rws)) | ((with_reducible first | apply bound_of | apply wr_i64 | apply wr_u8 | apply wr_u64 | apply wr_i32 | apply wr_i16 | apply wr_u32 | apply wr_u16); (exact X.om); (exact X.om)) | ((with_reducible first | apply ints_at | apply le_andI | apply le_andN | apply ne_andI); (exact X.om)) | ((with_reducible first | apply same_and | apply same_andW); (exact X.olz)) | (with_reducible refine ite_of (fun _ => ?_) (fun _ => ?_)))
          have hne := errAt_ne s i
          refine ⟨((errAt s i).1, out, (errAt s i).2), ⟨_, rfl⟩, ⟨hF.trans' hF4 fun k hk h => absurd h (by omega), hg4, fun h => absurd h hne, fun _ => by rw [hu, fault]⟩, ?_⟩
          simp only
          rw [if_neg hne]; omega
      · rw [if_neg c3, if_pos c2] at hu
        have hS : Fr (· = B) w2 (w2.setRow B #[.string (ba s), .int .i64 ((i : Int) + 1), v, .int .i64 0]) := (Fr.refl _ _).setRow B _ fun _ => rfl
        have ho3 : Own (w2.setRow B #[.string (ba s), .int .i64 ((i : Int) + 1), v, .int .i64 0]) B #[.string (ba s), .int .i64 ((i + 1 : Nat) : Int), v, .int .i64 0] := ho.set _
        have hv3 : Vec (w2.setRow B #[.string (ba s), .int .i64 ((i : Int) + 1), v, .int .i64 0]) v 1 (bc out) (B + 1) := hv.fr hS fun k hk h => by have := hv.blk_ge k hk; omega
        have hF3 : Fr no w (w2.setRow B #[.string (ba s), .int .i64 ((i : Int) + 1), v, .int .i64 0]) := hF.trans' hS fun k hk h => absurd h (by omega)
        (repeat' first | (simp only [RA, MI, S.dst, Nat.reduceAdd, Nat.reduceMul, Nat.reduceEqDiff, ↓reduceIte, reduceCtorEq, ne_eq, Nat.reduceLT, Nat.reduceLeDiff, gt_iff_lt, ge_iff_le, Int.reduceToNat, Nat.reduceSub, Int.reduceEq, Int.reduceLT, Int.reduceLE, not_true_eq_false, x47.down, btE, tup_10, List.take_length, ba_nil, ba_size, ba_list, ba_ext, ba_add, true_and, at_z, at_s, putc1, putc4, List.setIfInBounds_toArray, List.set_cons_zero, List.set_cons_succ, List.size_toArray, List.length_cons, List.length_nil, List.toList_toArray, tQ, zU1]) | ((with_reducible first | apply ld_r | apply ldN_a | apply ldN_r | apply st_r | apply stN_a); (exact X.rws)) | ((with_reducible first | apply bound_of | apply wr_i64 | apply wr_u8 | apply wr_u64 | apply wr_i32 | apply wr_i16 | apply wr_u32 | apply wr_u16); (exact X.om); (exact X.om)) | ((with_reducible first | apply ints_at | apply le_andI | apply le_andN | apply ne_andI); (exact X.om)) | ((with_reducible first | apply same_and | apply same_andW); (exact X.olz)) | (with_reducible refine ite_of (fun _ => ?_) (fun _ => ?_)))
        all_goals first | (exfalso; omega) | skip
        generalize World.setRow w2 B _ = w3 at *
        rw [show ((bt s i : Nat) : Int) = ((UInt8.ofNat (bt s i)).toNat : Int) by rw [ofNat_small hb]]
        refine app_one (w0 := w3) (Fr.refl _ _) ho3 hv3 (by omega) ?_
        intro r w4 hF4 ho4 hv4 h1
        (repeat' first | (simp only [RA, MI, S.dst, Nat.reduceAdd, Nat.reduceMul, Nat.reduceEqDiff, ↓reduceIte, reduceCtorEq, ne_eq, Nat.reduceLT, Nat.reduceLeDiff, gt_iff_lt, ge_iff_le, Int.reduceToNat, Nat.reduceSub, Int.reduceEq, Int.reduceLT, Int.reduceLE, not_true_eq_false, x47.down, btE, tup_10, List.take_length, ba_nil, ba_size, ba_list, ba_ext, ba_add, true_and, at_z, at_s, putc1, putc4, List.setIfInBounds_toArray, List.set_cons_zero, List.set_cons_succ, List.size_toArray, List.length_cons, List.length_nil, List.toList_toArray, tQ, zU1]) | ((with_reducible first | apply ld_r | apply ldN_a | apply ldN_r | apply st_r | apply stN_a); (exact X.rws)) | ((with_reducible first | apply bound_of | apply wr_i64 | apply wr_u8 | apply wr_u64 | apply wr_i32 | apply wr_i16 | apply wr_u32 | apply wr_u16); (exact X.om); (exact X.om)) | ((with_reducible first | apply ints_at | apply le_andI | apply le_andN | apply ne_andI); (exact X.om)) | ((with_reducible first | apply same_and | apply same_andW); (exact X.olz)) | (with_reducible refine ite_of (fun _ => ?_) (fun _ => ?_)))
        have hq := gr_set hF4 hv4 ho4
        refine ⟨(i + 1, out ++ [UInt8.ofNat (bt s i)], 0), ⟨_, rfl⟩, ⟨hF3.trans' hq.1 fun k hk h => absurd h (by omega), hq.2, fun _ => ⟨f, by simp only; omega, by simp only; omega, by simp; omega, ?_⟩, fun h => absurd rfl h⟩, ?_⟩
        · rw [hu, getD_bt]
        · simp only
          rw [if_pos trivial]; omega
    · refine calls_mono (byte_end w1 B s out i hil hg0) ?_
      rintro _ w2 ⟨rfl, hF2, hg2⟩
      have hg0 := hg2
      obtain ⟨v, ho, hv⟩ := hg2
      rw [unqL, if_pos hil] at hu
      (repeat' first | (simp only [RA, MI, S.dst, Nat.reduceAdd, Nat.reduceMul, Nat.reduceEqDiff, ↓reduceIte, reduceCtorEq, ne_eq, Nat.reduceLT, Nat.reduceLeDiff, gt_iff_lt, ge_iff_le, Int.reduceToNat, Nat.reduceSub, Int.reduceEq, Int.reduceLT, Int.reduceLE, not_true_eq_false, x47.down, btE, tup_10, List.take_length, ba_nil, ba_size, ba_list, ba_ext, ba_add, true_and, at_z, at_s, putc1, putc4, List.setIfInBounds_toArray, List.set_cons_zero, List.set_cons_succ, List.size_toArray, List.length_cons, List.length_nil, List.toList_toArray, tQ, zU1]) | ((with_reducible first | apply ld_r | apply ldN_a | apply ldN_r | apply st_r | apply stN_a); (exact X.rws)) | ((with_reducible first | apply bound_of | apply wr_i64 | apply wr_u8 | apply wr_u64 | apply wr_i32 | apply wr_i16 | apply wr_u32 | apply wr_u16); (exact X.om); (exact X.om)) | ((with_reducible first | apply ints_at | apply le_andI | apply le_andN | apply ne_andI); (exact X.om)) | ((with_reducible first | apply same_and | apply same_andW); (exact X.olz)) | (with_reducible refine ite_of (fun _ => ?_) (fun _ => ?_)))
      all_goals first | (exfalso; omega) | skip
      refine ⟨(s.length, out, 2), ⟨_, rfl⟩, ⟨hF.trans' hF2 fun k hk h => absurd h (by omega), hg0, fun h => absurd h (by simp), fun _ => by rw [hu, fault, errAt_end hil]⟩, ?_⟩
      simp only
      rw [if_neg (by decide)]; omega
  · have hu := h2 he
    obtain ⟨v, ho, hv⟩ := hg
    (repeat' first | (simp only [RA, MI, S.dst, Nat.reduceAdd, Nat.reduceMul, Nat.reduceEqDiff, ↓reduceIte, reduceCtorEq, ne_eq, Nat.reduceLT, Nat.reduceLeDiff, gt_iff_lt, ge_iff_le, Int.reduceToNat, Nat.reduceSub, Int.reduceEq, Int.reduceLT, Int.reduceLE, not_true_eq_false, x47.down, btE, tup_10, List.take_length, ba_nil, ba_size, ba_list, ba_ext, ba_add, true_and, at_z, at_s, putc1, putc4, List.setIfInBounds_toArray, List.set_cons_zero, List.set_cons_succ, List.size_toArray, List.length_cons, List.length_nil, List.toList_toArray, tQ, zU1]) | ((with_reducible first | apply ld_r | apply ldN_a | apply ldN_r | apply st_r | apply stN_a); (exact X.rws)) | ((with_reducible first | apply bound_of | apply wr_i64 | apply wr_u8 | apply wr_u64 | apply wr_i32 | apply wr_i16 | apply wr_u32 | apply wr_u16); (exact X.om); (exact X.om)) | ((with_reducible first | apply ints_at | apply le_andI | apply le_andN | apply ne_andI); (exact X.om)) | ((with_reducible first | apply same_and | apply same_andW); (exact X.olz)) | (with_reducible refine ite_of (fun _ => ?_) (fun _ => ?_)))
    all_goals first | (exfalso; omega) | skip
    refine ⟨?_, hF.drew⟩
    rw [hu]
theorem Unquote_any (w : World) (s : List UInt8) (hs : s.length < 100000000000) : Calls Tryd.prog 47 [.string (ba s)].toArray w (UP w s) := by
  refine enter47 (by simp) ?_
  (repeat' first | (simp only [RA, MI, S.dst, Nat.reduceAdd, Nat.reduceMul, Nat.reduceEqDiff, ↓reduceIte, reduceCtorEq, ne_eq, Nat.reduceLT, Nat.reduceLeDiff, gt_iff_lt, ge_iff_le, Int.reduceToNat, Nat.reduceSub, Int.reduceEq, Int.reduceLT, Int.reduceLE, not_true_eq_false, x47.down, btE, tup_10, List.take_length, ba_nil, ba_size, ba_list, ba_ext, ba_add, true_and, at_z, at_s, putc1, putc4, List.setIfInBounds_toArray, List.set_cons_zero, List.set_cons_succ, List.size_toArray, List.length_cons, List.length_nil, List.toList_toArray, zGR, zU1, cQ_eq]) | ((with_reducible first | apply ld_r | apply ldN_a | apply ldN_r | apply st_r | apply stN_a); (exact X.rws)) | ((with_reducible first | apply bound_of | apply wr_i64 | apply wr_u8 | apply wr_u64 | apply wr_i32 | apply wr_i16 | apply wr_u32 | apply wr_u16); (exact X.om); (exact X.om)) | ((with_reducible first | apply ints_at | apply le_andI | apply le_andN | apply ne_andI); (exact X.om)) | ((with_reducible first | apply same_and | apply same_andW); (exact X.olz)) | (with_reducible refine ite_of (fun _ => ?_) (fun _ => ?_)))
  generalize hB : w.heap.size = B at *
  have hg0 : GR (w.alloc (Obj.cells #[Value.string (ba s), Value.int IntKind.i64 ((0 : Nat) : Int), Value.slice none 0 0, Value.int IntKind.i64 0] 103)) B s 0 [] 0 := ⟨_, Own.newE hB.symm, .inl ⟨rfl, rfl⟩⟩
  have hF0 : Fr X.no w (w.alloc (Obj.cells #[Value.string (ba s), Value.int IntKind.i64 ((0 : Nat) : Int), Value.slice none 0 0, Value.int IntKind.i64 0] 103)) := (Fr.refl _ _).alloc _
  generalize World.alloc w _ = w0 at *
  have core := @coreQ w B s (by omega) hs
  by_cases hq : bt s 0 = 34
  · have h0 := bt_lt_of (l := s) (i := 0) (by omega)
    refine calls_mono (want_ok w0 B s [] 0 34 hq (by omega) h0 (by omega) hg0) ?_
    rintro _ w1 ⟨rfl, hF1, hg1⟩
    (repeat' first | (simp only [RA, MI, S.dst, Nat.reduceAdd, Nat.reduceMul, Nat.reduceEqDiff, ↓reduceIte, reduceCtorEq, ne_eq, Nat.reduceLT, Nat.reduceLeDiff, gt_iff_lt, ge_iff_le, Int.reduceToNat, Nat.reduceSub, Int.reduceEq, Int.reduceLT, Int.reduceLE, not_true_eq_false, x47.down, btE, tup_10, List.take_length, ba_nil, ba_size, ba_list, ba_ext, ba_add, true_and, at_z, at_s, putc1, putc4, List.setIfInBounds_toArray, List.set_cons_zero, List.set_cons_succ, List.size_toArray, List.length_cons, List.length_nil, List.toList_toArray, zGR, zU1, cQ_eq]) | ((with_reducible first | apply ld_r | apply ldN_a | apply ldN_r | apply st_r | apply stN_a); (exact X.rws)) | ((with_reducible first | apply bound_of | apply wr_i64 | apply wr_u8 | apply wr_u64 | apply wr_i32 | apply wr_i16 | apply wr_u32 | apply wr_u16); (exact X.om); (exact X.om)) | ((with_reducible first | apply ints_at | apply le_andI | apply le_andN | apply ne_andI); (exact X.om)) | ((with_reducible first | apply same_and | apply same_andW); (exact X.olz)) | (with_reducible refine ite_of (fun _ => ?_) (fun _ => ?_)))
    refine core w1 1 [] 0 (hF0.trans' hF1 fun k hk h => by omega) hg1 (fun _ => ⟨s.length, by omega, by omega, by simp, ?_⟩) (fun h => absurd rfl h)
    rw [unq, hq, if_neg (by simp)]
  · refine calls_mono (want_no w0 B s [] 0 34 hq hg0) ?_
    rintro _ w1 ⟨rfl, hF1, hg1⟩
    (repeat' first | (simp only [RA, MI, S.dst, Nat.reduceAdd, Nat.reduceMul, Nat.reduceEqDiff, ↓reduceIte, reduceCtorEq, ne_eq, Nat.reduceLT, Nat.reduceLeDiff, gt_iff_lt, ge_iff_le, Int.reduceToNat, Nat.reduceSub, Int.reduceEq, Int.reduceLT, Int.reduceLE, not_true_eq_false, x47.down, btE, tup_10, List.take_length, ba_nil, ba_size, ba_list, ba_ext, ba_add, true_and, at_z, at_s, putc1, putc4, List.setIfInBounds_toArray, List.set_cons_zero, List.set_cons_succ, List.size_toArray, List.length_cons, List.length_nil, List.toList_toArray, zGR, zU1, cQ_eq]) | ((with_reducible first | apply ld_r | apply ldN_a | apply ldN_r | apply st_r | apply stN_a); (exact X.rws)) | ((with_reducible first | apply bound_of | apply wr_i64 | apply wr_u8 | apply wr_u64 | apply wr_i32 | apply wr_i16 | apply wr_u32 | apply wr_u16); (exact X.om); (exact X.om)) | ((with_reducible first | apply ints_at | apply le_andI | apply le_andN | apply ne_andI); (exact X.om)) | ((with_reducible first | apply same_and | apply same_andW); (exact X.olz)) | (with_reducible refine ite_of (fun _ => ?_) (fun _ => ?_)))
    refine core w1 _ [] _ (hF0.trans' hF1 fun k hk h => by omega) hg1 (fun h => absurd h (errAt_ne s 0)) (fun _ => ?_)
    rw [unq, if_pos hq, fault]
end Go.Proofs.YtgibicifflfpfaaDoor
