/-
  A reply, written: walked. Conditions: none.
-/
import Derived.Test.YtdggcoaabohlmaaDoorC9
set_option autoImplicit false
set_option linter.unusedSimpArgs false
set_option linter.unusedVariables false
namespace Go.Proofs.YtdggcoaabohlmaaDoor
open X
set_option maxRecDepth 10000

/-- An entry of a list. -/
structure Ent where
  id : Int
  ver : Int
  name : List UInt8
def entC (x : Ent) : Array Value := #[.int .i64 x.id, .int .i64 x.ver, .string (ba x.name)]
structure Rpl where
  kind : Int
  e : Int
  id : Int
  ver : Int
  wd : Int
  ht : Int
  body : List UInt8
  es : List Ent
def rplC (r : Rpl) (v : Value) : Array Value := #[.int .i64 r.kind, .int .i64 r.e, .int .i64 r.id, .int .i64 r.ver, .int .i64 r.wd, .int .i64 r.ht, .string (ba r.body), v]
def entB (x : Ent) : List UInt8 := numB x.id 4 ++ numB x.ver 4 ++ (numB x.name.length 1 ++ x.name)
def entBad (x : Ent) : Bool := !decide (fits x.id 4) || !decide (fits x.ver 4) || !decide (fits x.name.length 1)
def listB (es : List Ent) : List UInt8 := es.flatMap entB
def listBad (es : List Ent) : Bool := es.any entBad
theorem entB_len (x : Ent) : (entB x).length ≤ x.name.length + 9 := by
  have h1 := numB_len x.id 4; have h2 := numB_len x.ver 4; have h3 := numB_len x.name.length 1
  simp only [entB, List.length_append]; omega
theorem zEnt : zcells Tryd.prog 52 = #[.int .i64 0, .int .i64 0, .string (ba [])] := by kernel_rfl

theorem list_any (w : World) (b : Nat) (l : List UInt8) (v : Value) (es : List Ent) (bad : Bool) {b0 x B : Nat} (h : Wtr w b l bad b0 x) (hv : Sl w B v 3 (es.map entC)) (hB : B ≤ b) (hl : l.length + (es.length + 1) * 7000 ≤ 500000000) (hes : ∀ x ∈ es, x.name.length ≤ 6000) :
    Calls Tryd.prog 31 [.pointer (some ⟨b, 0, none⟩), v].toArray w fun e w' => (∃ v, e = .returned v) ∧ Fr (fun k => k = b ∨ b0 ≤ k) w w' ∧ ∃ y, Wtr w' b (l ++ listB es) (bad || listBad es) b0 y := by
  refine enter31 (by simp) ?_
  obtain ⟨a, cap, hv1⟩ := hv.len
  rw [List.length_map] at hv1
  have hlim := h.lim
  rw [hv1]
  (repeat' first | (simp only [RA, MI, S.dst, Nat.reduceAdd, Nat.reduceMul, Nat.reduceEqDiff, ↓reduceIte, reduceCtorEq, ne_eq, Nat.reduceLT, Nat.reduceLeDiff, gt_iff_lt, ge_iff_le, Int.reduceToNat, Nat.reduceSub, Int.reduceEq, Int.reduceLT, Int.reduceLE, not_true_eq_false, c31, x31, ba_nil, ba_size, ba_list, ba_ext, ba_add, true_and, at_z, at_s, zEnt]) | ((with_reducible first | apply ld_r | apply ldN_a | apply ldN_r | apply st_r | apply stN_a); (focus ((repeat' first | (with_reducible first | assumption | apply Own.set | apply Own.new | apply Own.newD | apply Own.drew | apply Row.drew | apply OwnT.drew | apply Row.set | apply Row.new | apply Row.newD | apply And.intro | apply Ones.nil | apply Ones.cons | apply one_i | apply one_s | apply one_b | apply one_p | apply one_l) | ((with_reducible first | apply Own.newE | apply Row.newE | apply OwnT.newE); (focus (first | omega | (focus (simp only [LN] at *; done)) | (focus (simp only [LN] at *; omega))))) | ((with_reducible first | apply Own.setE | apply Row.setE | apply OwnT.setE); (focus (first | omega | (focus (simp only [LN] at *; done)) | (focus (simp only [LN] at *; omega))))) | (with_reducible first | apply Own.alloc | apply Row.alloc | apply OwnT.alloc | apply Own.ne | apply Row.ne | apply OwnT.ne | apply Own.row) | (first | omega | (focus (simp only [LN] at *; done)) | (focus (simp only [LN] at *; omega))) | rfl); done))) | ((with_reducible first | apply bound_of | apply wr_i64 | apply wr_u8 | apply wr_u64); (first | omega | (focus (simp only [LN] at *; done)) | (focus (simp only [LN] at *; omega))); (first | omega | (focus (simp only [LN] at *; done)) | (focus (simp only [LN] at *; omega)))) | ((with_reducible first | apply ints_at | apply le_andI | apply le_andN | apply ne_andI); (first | omega | (focus (simp only [LN] at *; done)) | (focus (simp only [LN] at *; omega)))) | ((with_reducible first | apply same_and | apply same_andW); (focus ((repeat' first | (with_reducible first | assumption | apply And.intro | apply SameB.drew | apply SameB.drew' | apply SameB.alloc | apply SameB.setRow | exact SameB.refl _ _) | (intro _; (first | omega | (focus (simp only [LN] at *; done)) | (focus (simp only [LN] at *; omega)))) | (first | omega | (focus (simp only [LN] at *; done)) | (focus (simp only [LN] at *; omega)))); done))) | (with_reducible refine ite_of (fun _ => ?_) (fun _ => ?_)))
  rw [← hv1]
  refine loop_of (σ := Nat) (fun i => [(0, .pointer (some ⟨b, 0, none⟩)), (6, v), (7, .int .i64 es.length), (8, .int .i64 i)])
    (fun i w' => i ≤ es.length ∧ (∃ y, Wtr w' b (l ++ listB (es.take i)) (bad || listBad (es.take i)) b0 y) ∧ (l ++ listB (es.take i)).length ≤ l.length + i * 7000 ∧ Fr (fun k => k = b ∨ b0 ≤ k) w w') (fun i => es.length - i) 0 rfl ⟨by omega, ⟨x, ?_⟩, by simp [listB], Fr.refl _ _⟩ ?_
  · simpa [listB, listBad] using h
  rintro i w1 ⟨hi, ⟨y, hW⟩, hbd, hF⟩
  rcases Nat.lt_or_ge i es.length with hlt | hge
  · obtain ⟨e, hx⟩ : ∃ e, es[i]? = some e := ⟨_, List.getElem?_eq_getElem hlt⟩
    obtain ⟨b2, o, cap2, C, hb1, hb2, hv2, hrow, hsz, hcell⟩ := (hv.fr hF (fun k hk _ h => by omega)).at (i := i) (by rw [List.length_map]; exact hlt)
    rw [List.length_map] at hv2
    have hxe : (es.map entC)[i]'(by rw [List.length_map]; exact hlt) = entC e := by
      rw [List.getElem_map]; congr 1; exact (List.getElem?_eq_some_iff.1 hx).2
    rw [hxe] at hcell
    have hmul : i * 7000 + 7000 ≤ (es.length + 1) * 7000 := by omega
    have hxn := hes e (List.mem_of_getElem? hx)
    subst hv2
    (repeat' first | (simp only [RA, MI, S.dst, Nat.reduceAdd, Nat.reduceMul, Nat.reduceEqDiff, ↓reduceIte, reduceCtorEq, ne_eq, Nat.reduceLT, Nat.reduceLeDiff, gt_iff_lt, ge_iff_le, Int.reduceToNat, Nat.reduceSub, Int.reduceEq, Int.reduceLT, Int.reduceLE, not_true_eq_false, c31, x31, ba_nil, ba_size, ba_list, ba_ext, ba_add, true_and, at_z, at_s, zEnt]) | ((with_reducible first | apply ld_r | apply ldN_a | apply ldN_r | apply st_r | apply stN_a); (focus ((repeat' first | (with_reducible first | assumption | apply Own.set | apply Own.new | apply Own.newD | apply Own.drew | apply Row.drew | apply OwnT.drew | apply Row.set | apply Row.new | apply Row.newD | apply And.intro | apply Ones.nil | apply Ones.cons | apply one_i | apply one_s | apply one_b | apply one_p | apply one_l) | ((with_reducible first | apply Own.newE | apply Row.newE | apply OwnT.newE); (focus (first | omega | (focus (simp only [LN] at *; done)) | (focus (simp only [LN] at *; omega))))) | ((with_reducible first | apply Own.setE | apply Row.setE | apply OwnT.setE); (focus (first | omega | (focus (simp only [LN] at *; done)) | (focus (simp only [LN] at *; omega))))) | (with_reducible first | apply Own.alloc | apply Row.alloc | apply OwnT.alloc | apply Own.ne | apply Row.ne | apply OwnT.ne | apply Own.row) | (first | omega | (focus (simp only [LN] at *; done)) | (focus (simp only [LN] at *; omega))) | rfl); done))) | ((with_reducible first | apply bound_of | apply wr_i64 | apply wr_u8 | apply wr_u64); (first | omega | (focus (simp only [LN] at *; done)) | (focus (simp only [LN] at *; omega))); (first | omega | (focus (simp only [LN] at *; done)) | (focus (simp only [LN] at *; omega)))) | ((with_reducible first | apply ints_at | apply le_andI | apply le_andN | apply ne_andI); (first | omega | (focus (simp only [LN] at *; done)) | (focus (simp only [LN] at *; omega)))) | ((with_reducible first | apply same_and | apply same_andW); (focus ((repeat' first | (with_reducible first | assumption | apply And.intro | apply SameB.drew | apply SameB.drew' | apply SameB.alloc | apply SameB.setRow | exact SameB.refl _ _) | (intro _; (first | omega | (focus (simp only [LN] at *; done)) | (focus (simp only [LN] at *; omega)))) | (first | omega | (focus (simp only [LN] at *; done)) | (focus (simp only [LN] at *; omega)))); done))) | (with_reducible refine ite_of (fun _ => ?_) (fun _ => ?_)))
    · rw [hcell]
      have hlim1 := hW.lim
      have hbs := hF.size
      unfold entC
      refine ⟨rfl, ?_⟩
      (repeat' first | (simp only [RA, MI, S.dst, Nat.reduceAdd, Nat.reduceMul, Nat.reduceEqDiff, ↓reduceIte, reduceCtorEq, ne_eq, Nat.reduceLT, Nat.reduceLeDiff, gt_iff_lt, ge_iff_le, Int.reduceToNat, Nat.reduceSub, Int.reduceEq, Int.reduceLT, Int.reduceLE, not_true_eq_false, c31, x31, ba_nil, ba_size, ba_list, ba_ext, ba_add, true_and, at_z, at_s, zEnt]) | ((with_reducible first | apply ld_r | apply ldN_a | apply ldN_r | apply st_r | apply stN_a); (focus ((repeat' first | (with_reducible first | assumption | apply Own.set | apply Own.new | apply Own.newD | apply Own.drew | apply Row.drew | apply OwnT.drew | apply Row.set | apply Row.new | apply Row.newD | apply And.intro | apply Ones.nil | apply Ones.cons | apply one_i | apply one_s | apply one_b | apply one_p | apply one_l) | ((with_reducible first | apply Own.newE | apply Row.newE | apply OwnT.newE); (focus (first | omega | (focus (simp only [LN] at *; done)) | (focus (simp only [LN] at *; omega))))) | ((with_reducible first | apply Own.setE | apply Row.setE | apply OwnT.setE); (focus (first | omega | (focus (simp only [LN] at *; done)) | (focus (simp only [LN] at *; omega))))) | (with_reducible first | apply Own.alloc | apply Row.alloc | apply OwnT.alloc | apply Own.ne | apply Row.ne | apply OwnT.ne | apply Own.row) | (first | omega | (focus (simp only [LN] at *; done)) | (focus (simp only [LN] at *; omega))) | rfl); done))) | ((with_reducible first | apply bound_of | apply wr_i64 | apply wr_u8 | apply wr_u64); (first | omega | (focus (simp only [LN] at *; done)) | (focus (simp only [LN] at *; omega))); (first | omega | (focus (simp only [LN] at *; done)) | (focus (simp only [LN] at *; omega)))) | ((with_reducible first | apply ints_at | apply le_andI | apply le_andN | apply ne_andI); (first | omega | (focus (simp only [LN] at *; done)) | (focus (simp only [LN] at *; omega)))) | ((with_reducible first | apply same_and | apply same_andW); (focus ((repeat' first | (with_reducible first | assumption | apply And.intro | apply SameB.drew | apply SameB.drew' | apply SameB.alloc | apply SameB.setRow | exact SameB.refl _ _) | (intro _; (first | omega | (focus (simp only [LN] at *; done)) | (focus (simp only [LN] at *; omega)))) | (first | omega | (focus (simp only [LN] at *; done)) | (focus (simp only [LN] at *; omega)))); done))) | (with_reducible refine ite_of (fun _ => ?_) (fun _ => ?_)))
      generalize hw2 : World.setRow _ _ _ = w2
      have hX : Row w2 w1.heap.size (entC e) := by rw [← hw2]; unfold entC; (focus ((repeat' first | (with_reducible first | assumption | apply Own.set | apply Own.new | apply Own.newD | apply Own.drew | apply Row.drew | apply OwnT.drew | apply Row.set | apply Row.new | apply Row.newD | apply And.intro | apply Ones.nil | apply Ones.cons | apply one_i | apply one_s | apply one_b | apply one_p | apply one_l) | ((with_reducible first | apply Own.newE | apply Row.newE | apply OwnT.newE); (focus (first | omega | (focus (simp only [LN] at *; done)) | (focus (simp only [LN] at *; omega))))) | ((with_reducible first | apply Own.setE | apply Row.setE | apply OwnT.setE); (focus (first | omega | (focus (simp only [LN] at *; done)) | (focus (simp only [LN] at *; omega))))) | (with_reducible first | apply Own.alloc | apply Row.alloc | apply OwnT.alloc | apply Own.ne | apply Row.ne | apply OwnT.ne | apply Own.row) | (first | omega | (focus (simp only [LN] at *; done)) | (focus (simp only [LN] at *; omega))) | rfl); done))
      have hF2 : Fr X.no w1 w2 := by rw [← hw2]; (focus ((repeat' first | (with_reducible first | assumption | apply Fr.drew | apply Fr.alloc | apply Fr.setRow | exact Fr.refl _ _) | (intro _; rfl) | (intro hb; first | (simp only [X.no] at *; omega) | (simp only [X.no, LN] at *; omega))); done))
      have hsz2 : w2.heap.size = w1.heap.size + 1 := by rw [← hw2]; simp only [sz_setRow, sz_alloc]
      clear hw2
      have hW2 := hW.apart hF2 w1.heap.size (Nat.le_refl _) (by omega)
      generalize hxb : w1.heap.size = xb at *
      have hF := hF.and hF2
      clear hW
      refine calls_mono (num_any _ b _ e.id 4 _ hW2 (by decide) (by omega)) ?_
      rintro _ w3 ⟨⟨v3, rfl⟩, hf3, hW3⟩
      replace hX := hX.fr hf3 (by omega)
      replace hF := hF.trans' hf3 (fun k hk h => by omega)
      unfold entC at hX
      (repeat' first | (simp only [RA, MI, S.dst, Nat.reduceAdd, Nat.reduceMul, Nat.reduceEqDiff, ↓reduceIte, reduceCtorEq, ne_eq, Nat.reduceLT, Nat.reduceLeDiff, gt_iff_lt, ge_iff_le, Int.reduceToNat, Nat.reduceSub, Int.reduceEq, Int.reduceLT, Int.reduceLE, not_true_eq_false, c31, x31, ba_nil, ba_size, ba_list, ba_ext, ba_add, true_and, at_z, at_s, zEnt]) | ((with_reducible first | apply ld_r | apply ldN_a | apply ldN_r | apply st_r | apply stN_a); (focus ((repeat' first | (with_reducible first | assumption | apply Own.set | apply Own.new | apply Own.newD | apply Own.drew | apply Row.drew | apply OwnT.drew | apply Row.set | apply Row.new | apply Row.newD | apply And.intro | apply Ones.nil | apply Ones.cons | apply one_i | apply one_s | apply one_b | apply one_p | apply one_l) | ((with_reducible first | apply Own.newE | apply Row.newE | apply OwnT.newE); (focus (first | omega | (focus (simp only [LN] at *; done)) | (focus (simp only [LN] at *; omega))))) | ((with_reducible first | apply Own.setE | apply Row.setE | apply OwnT.setE); (focus (first | omega | (focus (simp only [LN] at *; done)) | (focus (simp only [LN] at *; omega))))) | (with_reducible first | apply Own.alloc | apply Row.alloc | apply OwnT.alloc | apply Own.ne | apply Row.ne | apply OwnT.ne | apply Own.row) | (first | omega | (focus (simp only [LN] at *; done)) | (focus (simp only [LN] at *; omega))) | rfl); done))) | ((with_reducible first | apply bound_of | apply wr_i64 | apply wr_u8 | apply wr_u64); (first | omega | (focus (simp only [LN] at *; done)) | (focus (simp only [LN] at *; omega))); (first | omega | (focus (simp only [LN] at *; done)) | (focus (simp only [LN] at *; omega)))) | ((with_reducible first | apply ints_at | apply le_andI | apply le_andN | apply ne_andI); (first | omega | (focus (simp only [LN] at *; done)) | (focus (simp only [LN] at *; omega)))) | ((with_reducible first | apply same_and | apply same_andW); (focus ((repeat' first | (with_reducible first | assumption | apply And.intro | apply SameB.drew | apply SameB.drew' | apply SameB.alloc | apply SameB.setRow | exact SameB.refl _ _) | (intro _; (first | omega | (focus (simp only [LN] at *; done)) | (focus (simp only [LN] at *; omega)))) | (first | omega | (focus (simp only [LN] at *; done)) | (focus (simp only [LN] at *; omega)))); done))) | (with_reducible refine ite_of (fun _ => ?_) (fun _ => ?_)))
      have n1 := numB_len e.id 4
      refine calls_mono (num_any _ b _ e.ver 4 _ hW3 (by decide) (by rw [List.length_append]; omega)) ?_
      rintro _ w4 ⟨⟨v4, rfl⟩, hf4, hW4⟩
      replace hX := hX.fr hf4 (by omega)
      replace hF := hF.trans' hf4 (fun k hk h => by omega)
      (repeat' first | (simp only [RA, MI, S.dst, Nat.reduceAdd, Nat.reduceMul, Nat.reduceEqDiff, ↓reduceIte, reduceCtorEq, ne_eq, Nat.reduceLT, Nat.reduceLeDiff, gt_iff_lt, ge_iff_le, Int.reduceToNat, Nat.reduceSub, Int.reduceEq, Int.reduceLT, Int.reduceLE, not_true_eq_false, c31, x31, ba_nil, ba_size, ba_list, ba_ext, ba_add, true_and, at_z, at_s, zEnt]) | ((with_reducible first | apply ld_r | apply ldN_a | apply ldN_r | apply st_r | apply stN_a); (focus ((repeat' first | (with_reducible first | assumption | apply Own.set | apply Own.new | apply Own.newD | apply Own.drew | apply Row.drew | apply OwnT.drew | apply Row.set | apply Row.new | apply Row.newD | apply And.intro | apply Ones.nil | apply Ones.cons | apply one_i | apply one_s | apply one_b | apply one_p | apply one_l) | ((with_reducible first | apply Own.newE | apply Row.newE | apply OwnT.newE); (focus (first | omega | (focus (simp only [LN] at *; done)) | (focus (simp only [LN] at *; omega))))) | ((with_reducible first | apply Own.setE | apply Row.setE | apply OwnT.setE); (focus (first | omega | (focus (simp only [LN] at *; done)) | (focus (simp only [LN] at *; omega))))) | (with_reducible first | apply Own.alloc | apply Row.alloc | apply OwnT.alloc | apply Own.ne | apply Row.ne | apply OwnT.ne | apply Own.row) | (first | omega | (focus (simp only [LN] at *; done)) | (focus (simp only [LN] at *; omega))) | rfl); done))) | ((with_reducible first | apply bound_of | apply wr_i64 | apply wr_u8 | apply wr_u64); (first | omega | (focus (simp only [LN] at *; done)) | (focus (simp only [LN] at *; omega))); (first | omega | (focus (simp only [LN] at *; done)) | (focus (simp only [LN] at *; omega)))) | ((with_reducible first | apply ints_at | apply le_andI | apply le_andN | apply ne_andI); (first | omega | (focus (simp only [LN] at *; done)) | (focus (simp only [LN] at *; omega)))) | ((with_reducible first | apply same_and | apply same_andW); (focus ((repeat' first | (with_reducible first | assumption | apply And.intro | apply SameB.drew | apply SameB.drew' | apply SameB.alloc | apply SameB.setRow | exact SameB.refl _ _) | (intro _; (first | omega | (focus (simp only [LN] at *; done)) | (focus (simp only [LN] at *; omega)))) | (first | omega | (focus (simp only [LN] at *; done)) | (focus (simp only [LN] at *; omega)))); done))) | (with_reducible refine ite_of (fun _ => ?_) (fun _ => ?_)))
      have n2 := numB_len e.ver 4
      refine calls_mono (name_any _ b _ e.name _ hW4 (by simp only [List.length_append] at *; omega) (by omega)) ?_
      rintro _ w5 ⟨⟨v5, rfl⟩, hf5, hW5⟩
      replace hF := hF.trans' hf5 (fun k hk h => by omega)
      have hx2 := (List.getElem?_eq_some_iff.1 hx).2
      have e1 : listB (es.take (i + 1)) = listB (es.take i) ++ entB e := by rw [List.take_succ_eq_append_getElem hlt, hx2]; simp [listB]
      have e2 : listBad (es.take (i + 1)) = (listBad (es.take i) || entBad e) := by rw [List.take_succ_eq_append_getElem hlt, hx2]; simp [listBad]
      have hel := entB_len e
      (repeat' first | (simp only [RA, MI, S.dst, Nat.reduceAdd, Nat.reduceMul, Nat.reduceEqDiff, ↓reduceIte, reduceCtorEq, ne_eq, Nat.reduceLT, Nat.reduceLeDiff, gt_iff_lt, ge_iff_le, Int.reduceToNat, Nat.reduceSub, Int.reduceEq, Int.reduceLT, Int.reduceLE, not_true_eq_false, c31, x31, ba_nil, ba_size, ba_list, ba_ext, ba_add, true_and, at_z, at_s, zEnt]) | ((with_reducible first | apply ld_r | apply ldN_a | apply ldN_r | apply st_r | apply stN_a); (focus ((repeat' first | (with_reducible first | assumption | apply Own.set | apply Own.new | apply Own.newD | apply Own.drew | apply Row.drew | apply OwnT.drew | apply Row.set | apply Row.new | apply Row.newD | apply And.intro | apply Ones.nil | apply Ones.cons | apply one_i | apply one_s | apply one_b | apply one_p | apply one_l) | ((with_reducible first | apply Own.newE | apply Row.newE | apply OwnT.newE); (focus (first | omega | (focus (simp only [LN] at *; done)) | (focus (simp only [LN] at *; omega))))) | ((with_reducible first | apply Own.setE | apply Row.setE | apply OwnT.setE); (focus (first | omega | (focus (simp only [LN] at *; done)) | (focus (simp only [LN] at *; omega))))) | (with_reducible first | apply Own.alloc | apply Row.alloc | apply OwnT.alloc | apply Own.ne | apply Row.ne | apply OwnT.ne | apply Own.row) | (first | omega | (focus (simp only [LN] at *; done)) | (focus (simp only [LN] at *; omega))) | rfl); done))) | ((with_reducible first | apply bound_of | apply wr_i64 | apply wr_u8 | apply wr_u64); (first | omega | (focus (simp only [LN] at *; done)) | (focus (simp only [LN] at *; omega))); (first | omega | (focus (simp only [LN] at *; done)) | (focus (simp only [LN] at *; omega)))) | ((with_reducible first | apply ints_at | apply le_andI | apply le_andN | apply ne_andI); (first | omega | (focus (simp only [LN] at *; done)) | (focus (simp only [LN] at *; omega)))) | ((with_reducible first | apply same_and | apply same_andW); (focus ((repeat' first | (with_reducible first | assumption | apply And.intro | apply SameB.drew | apply SameB.drew' | apply SameB.alloc | apply SameB.setRow | exact SameB.refl _ _) | (intro _; (first | omega | (focus (simp only [LN] at *; done)) | (focus (simp only [LN] at *; omega)))) | (first | omega | (focus (simp only [LN] at *; done)) | (focus (simp only [LN] at *; omega)))); done))) | (with_reducible refine ite_of (fun _ => ?_) (fun _ => ?_)))
      refine ⟨i + 1, by (first | rfl | (simp only [List.cons.injEq, Prod.mk.injEq, Value.int.injEq, Value.bool.injEq, true_and, and_true, List.cons_append, List.nil_append]; done) | (simp only [List.cons.injEq, Prod.mk.injEq, Value.int.injEq, Value.bool.injEq, true_and, and_true, List.cons_append, List.nil_append]; omega)), ⟨by omega, ⟨xb, ?_⟩, ?_, hF⟩, by omega⟩
      · rw [e1, e2]
        simp only [entB, entBad, List.append_assoc, Bool.or_assoc] at hW5 ⊢
        exact hW5
      · rw [e1]; simp only [List.length_append] at *; omega
    · exfalso; omega
  · obtain rfl : i = es.length := by omega
    rw [List.take_length] at hW
    (repeat' first | (simp only [RA, MI, S.dst, Nat.reduceAdd, Nat.reduceMul, Nat.reduceEqDiff, ↓reduceIte, reduceCtorEq, ne_eq, Nat.reduceLT, Nat.reduceLeDiff, gt_iff_lt, ge_iff_le, Int.reduceToNat, Nat.reduceSub, Int.reduceEq, Int.reduceLT, Int.reduceLE, not_true_eq_false, c31, x31, ba_nil, ba_size, ba_list, ba_ext, ba_add, true_and, at_z, at_s, zEnt]) | ((with_reducible first | apply ld_r | apply ldN_a | apply ldN_r | apply st_r | apply stN_a); (focus ((repeat' first | (with_reducible first | assumption | apply Own.set | apply Own.new | apply Own.newD | apply Own.drew | apply Row.drew | apply OwnT.drew | apply Row.set | apply Row.new | apply Row.newD | apply And.intro | apply Ones.nil | apply Ones.cons | apply one_i | apply one_s | apply one_b | apply one_p | apply one_l) | ((with_reducible first | apply Own.newE | apply Row.newE | apply OwnT.newE); (focus (first | omega | (focus (simp only [LN] at *; done)) | (focus (simp only [LN] at *; omega))))) | ((with_reducible first | apply Own.setE | apply Row.setE | apply OwnT.setE); (focus (first | omega | (focus (simp only [LN] at *; done)) | (focus (simp only [LN] at *; omega))))) | (with_reducible first | apply Own.alloc | apply Row.alloc | apply OwnT.alloc | apply Own.ne | apply Row.ne | apply OwnT.ne | apply Own.row) | (first | omega | (focus (simp only [LN] at *; done)) | (focus (simp only [LN] at *; omega))) | rfl); done))) | ((with_reducible first | apply bound_of | apply wr_i64 | apply wr_u8 | apply wr_u64); (first | omega | (focus (simp only [LN] at *; done)) | (focus (simp only [LN] at *; omega))); (first | omega | (focus (simp only [LN] at *; done)) | (focus (simp only [LN] at *; omega)))) | ((with_reducible first | apply ints_at | apply le_andI | apply le_andN | apply ne_andI); (first | omega | (focus (simp only [LN] at *; done)) | (focus (simp only [LN] at *; omega)))) | ((with_reducible first | apply same_and | apply same_andW); (focus ((repeat' first | (with_reducible first | assumption | apply And.intro | apply SameB.drew | apply SameB.drew' | apply SameB.alloc | apply SameB.setRow | exact SameB.refl _ _) | (intro _; (first | omega | (focus (simp only [LN] at *; done)) | (focus (simp only [LN] at *; omega)))) | (first | omega | (focus (simp only [LN] at *; done)) | (focus (simp only [LN] at *; omega)))); done))) | (with_reducible refine ite_of (fun _ => ?_) (fun _ => ?_)))
    · exfalso; omega
    · exact ⟨⟨_, rfl⟩, hF, y, hW⟩

/-- While a message is written: block h has what is written, h + 1 the result, h + 2 the writer, h + 3 what of it was written. -/
structure WS (w0 w : World) (h : Nat) (A R C : Array Value) (l : List UInt8) (bad : Bool) : Prop where
  a : Row w h A
  r : Own w (h + 1) R
  c : Own w (h + 1 + 1 + 1) C
  t : ∃ x, Wtr w (h + 1 + 1) l bad (h + 4) x
  f : Fr X.no w0 w
  e : h = w0.heap.size
section
variable {w0 w : World} {h : Nat} {A R C : Array Value} {l : List UInt8} {bad : Bool}
theorem WS.setC (hS : WS w0 w h A R C l bad) (C' : Array Value) : WS w0 (w.setRow (h + 1 + 1 + 1) C') h A R C' l bad := by
  have hf : Fr (fun k => k = h + 1 + 1 + 1) w (w.setRow (h + 1 + 1 + 1) C') := (Fr.refl _ w).setRow _ _ fun _ => rfl
  obtain ⟨x, ht⟩ := hS.t
  have he := hS.e
  exact ⟨hS.a.fr hf (by omega), hS.r.fr hf (by omega), hS.c.set _, ⟨x, ht.fr hf (by omega)⟩, hS.f.trans' hf (fun k hk h => by omega), he⟩
theorem WS.set (hS : WS w0 w h A R C l bad) {C' : Array Value} {w' : World} (e : w.setRow (h + 1 + 1 + 1) C' = w') : WS w0 w' h A R C' l bad := e ▸ hS.setC C'
theorem WS.drew (hS : WS w0 w h A R C l bad) : WS w0 w.drew h A R C l bad := by
  have hf : Fr X.no w w.drew := (Fr.refl _ w).drew
  obtain ⟨x, ht⟩ := hS.t
  exact ⟨hS.a.fr hf (fun h => h), hS.r.fr hf (fun h => h), hS.c.fr hf (fun h => h), ⟨x, ht.fr hf (fun _ _ h => h)⟩, hS.f.and hf, hS.e⟩
theorem WS.go (hS : WS w0 w h A R C l bad) {w' : World} {l' : List UInt8} {bad' : Bool} {x y : Nat} (hf : Fr (fun k => k = h + 1 + 1 ∨ (h + 4 ≤ k ∧ k ≠ x)) w w') (ht : Wtr w' (h + 1 + 1) l' bad' (h + 4) y) : WS w0 w' h A R C l' bad' := by
  have he := hS.e
  exact ⟨hS.a.fr hf (by omega), hS.r.fr hf (by omega), hS.c.fr hf (by omega), ⟨y, ht⟩, hS.f.trans' hf (fun k hk h => by omega), he⟩
theorem WS.num (hS : WS w0 w h A R C l bad) (n : Int) (k : Nat) (hk : 1 ≤ k ∧ k ≤ 4) (hl : l.length ≤ 900000000) {K : Ending → World → Prop} (hK : ∀ v w', WS w0 w' h A R C (l ++ numB n k) (bad || !decide (fits n k)) → K (.returned v) w') :
    Calls Tryd.prog 28 #[.pointer (some ⟨h + 1 + 1, 0, none⟩), .int .i64 n, .int .i64 k] w K := by
  obtain ⟨x, ht⟩ := hS.t
  refine calls_mono (num_any w _ l n k bad ht hk hl) ?_
  rintro _ w' ⟨⟨v, rfl⟩, hf, h2⟩
  exact hK v w' (hS.go hf h2)
theorem WS.str (hS : WS w0 w h A R C l bad) (m : List UInt8) (hl : l.length + m.length ≤ 1000000000) {K : Ending → World → Prop} (hK : ∀ v w', WS w0 w' h A R C (l ++ m) bad → K (.returned v) w') :
    Calls Tryd.prog 30 #[.pointer (some ⟨h + 1 + 1, 0, none⟩), .string (ba m)] w K := by
  obtain ⟨x, ht⟩ := hS.t
  refine calls_mono (WriteString_any w _ l m bad ht hl) ?_
  rintro _ w' ⟨⟨v, rfl⟩, hf, h2⟩
  exact hK v w' (hS.go hf h2)
theorem WS.list (hS : WS w0 w h A R C l bad) {v : Value} {es : List Ent} (hv : Sl w0 w0.heap.size v 3 (es.map entC)) (hl : l.length + (es.length + 1) * 7000 ≤ 500000000) (hes : ∀ x ∈ es, x.name.length ≤ 6000) {K : Ending → World → Prop} (hK : ∀ v w', WS w0 w' h A R C (l ++ listB es) (bad || listBad es) → K (.returned v) w') :
    Calls Tryd.prog 31 #[.pointer (some ⟨h + 1 + 1, 0, none⟩), v] w K := by
  obtain ⟨x, ht⟩ := hS.t
  have he := hS.e
  refine calls_mono (list_any w _ l v es bad ht (hv.fr hS.f (fun _ _ _ h => h)) (by omega) hl hes) ?_
  rintro _ w' ⟨⟨v, rfl⟩, hf, y, h2⟩
  have hlim := h2.lim
  refine hK v w' ?_
  exact ⟨hS.a.fr hf (by omega), hS.r.fr hf (by omega), hS.c.fr hf (by omega), ⟨y, h2⟩, hS.f.trans' hf (fun k hk h => by omega), he⟩
theorem WS.done (hS : WS w0 w h A R C l bad) (hl : l.length ≤ 1000000000) {K : Ending → World → Prop} (hK : ∀ w', Own w' (h + 1) R → Own w' (h + 1 + 1 + 1) C → Fr X.no w0 w' → K (.returned (.tuple #[.string (ba l), .bool (!bad && decide (l.length ≤ 16781312))])) w') :
    Calls Tryd.prog 29 #[.pointer (some ⟨h + 1 + 1, 0, none⟩)] w K := by
  obtain ⟨x, ht⟩ := hS.t
  have he := hS.e
  refine calls_mono (done_any w _ l bad ht hl) ?_
  rintro _ w' ⟨rfl, hf⟩
  exact hK w' (hS.r.fr hf (by omega)) (hS.c.fr hf (by omega)) (hS.f.trans' hf (fun k hk h => by omega))
theorem WS.opn (hS : WS w0 w h A R C l bad) : ∃ p v, Own w (h + 1 + 1) #[p, v, .bool bad] ∧ ∀ b2, WS w0 (w.setRow (h + 1 + 1) #[p, v, .bool b2]) h A R C l b2 := by
  obtain ⟨x, p, v, g1, g2, g3, g4, g5, g6, g7⟩ := hS.t
  have he := hS.e
  refine ⟨p, v, ⟨_, g1⟩, fun b2 => ?_⟩
  have hf : Fr (fun k => k = h + 1 + 1) w (w.setRow (h + 1 + 1) #[p, v, .bool b2]) := (Fr.refl _ w).setRow _ _ fun _ => rfl
  exact ⟨hS.a.fr hf (by omega), hS.r.fr hf (by omega), hS.c.fr hf (by omega), ⟨x, p, v, setRow_heap w _ _ _ _ _ g1, g2, g3.fr hf (fun k hk he => by have := g3.blk_ge k hk; omega), g4, by rw [sz_setRow]; exact g5, by rw [sz_setRow]; exact g6, g7⟩, hS.f.trans' hf (fun k hk h => by omega), he⟩
end
end Go.Proofs.YtdggcoaabohlmaaDoor
