/-
  Layer 5: the document's Find and Codes (of a table that New takes).
-/
import Derived.Test.YtomckpllbihikaaP3
import Derived.Test.YtomckpllbihikaaB7
import Derived.Test.YtomckpllbihikaaB1r
import Derived.Test.YtomckpllbihikaaXV
set_option autoImplicit false
set_option linter.unusedSimpArgs false
set_option linter.unusedVariables false
namespace Go.Proofs.Ytomckpllbihikaa
open X

theorem app_at {k : IntKind} {m : List Int} {rest : List Value} {i : Nat} {K : Value → Prop} (h : i < m.length) (hk : K (.int k (g m i))) : At (m.map (Value.int k) ++ rest).toArray i K :=
  at_of (v := .int k (g m i)) (by simp [List.getElem?_append_left, h, g, List.getD]) hk
theorem app_ld3 {k : IntKind} {m : List Int} {rest : List Value} {w : World} {b i : Nat} {K : Array Value → Prop} (hr : Row w b (m.map (Value.int k) ++ rest).toArray) (h : i + 3 ≤ m.length)
    (hk : K #[.int k (g m i), .int k (g m (i + 1)), .int k (g m (i + 2))]) : LdN w ⟨b, i, none⟩ 3 K := by
  refine ldN_row hr (by simp; omega) ?_
  have e : (m.map (Value.int k) ++ rest).toArray.extract i (i + 3) = #[.int k (g m i), .int k (g m (i + 1)), .int k (g m (i + 2))] := by
    apply Array.ext_getElem?
    intro j
    rw [Array.getElem?_extract]
    have at' : ∀ q, q < m.length → (m.map (Value.int k) ++ rest).toArray[q]? = some (.int k (g m q)) := fun q hq => by simp [List.getElem?_append_left, hq, g, List.getD]
    have hs : (m.map (Value.int k) ++ rest).toArray.size = m.length + rest.length := by simp
    match j with
    | 0 => rw [if_pos (by omega)]; exact at' i (by omega)
    | 1 => rw [if_pos (by omega)]; exact at' (i + 1) (by omega)
    | 2 => rw [if_pos (by omega)]; exact at' (i + 2) (by omega)
    | j + 3 => rw [if_neg (by omega)]; rfl
  rw [e]; exact hk
theorem z43 : zcells Try.prog 43 = #[.int .i64 0, .int .i64 0, .int .i64 0] := by kernel_rfl
theorem z43_size : (zcells Try.prog 43).size = 3 := by kernel_rfl
theorem st43 {w : World} {b : Nat} {u v x : Value} {K : World → Prop} (ho : ∃ C, C.size = 3 ∧ Own w b C) (hu : one u = true) (hv : one v = true) (hx : one x = true) (hk : K (w.setRow b #[u, v, x])) : StN w ⟨b, 0, none⟩ [u, v, x] K := by
  obtain ⟨C, hC, ho⟩ := ho
  refine stN_row ho (by simp [hC]) (by intro y hy; simp at hy; rcases hy with rfl | rfl | rfl <;> assumption) ?_
  have e : over C 0 [u, v, x] = #[u, v, x] := by
    unfold over
    have : C.toList.length = 3 := by simpa using hC
    simp [List.drop_eq_nil_of_le, this]
  rw [e]; exact hk

/-- A symbol's code. -/
def findL (L : List (Nat × Nat × Nat)) (i : Nat) : Option (Nat × Nat × Nat) := L.find? fun t => t.1 == i
def FindPost (w : World) : Option (Nat × Nat × Nat) → Ending → World → Prop
  | none => fun e w' => e = .returned (.tuple #[.agg #[.int .i64 0, .int .i64 0, .int .i64 0], .bool false]) ∧ Fr no w w'
  | some t => fun e w' => e = .returned (.tuple #[.agg #[.int .i64 t.1, .int .i64 t.2.1, .int .i64 t.2.2], .bool true]) ∧ Fr no w w'

set_option maxRecDepth 10000 in
theorem Find_any (w : World) (b cap : Nat) (L : List (Nat × Nat × Nat)) (rest : List Value) (hL : L.length < 100000) (hb : Row w b ((fl L).map (Value.int .i64) ++ rest).toArray) (i : Nat) (hi : i < 256) (Z : Option (Nat × Nat × Nat)) (hZ : findL L i = Z) :
    Calls Try.prog 16 [.slice (some ⟨b, 0, none⟩) L.length cap, .int .i64 (i : Int)].toArray w (FindPost w Z) := by
  refine enter16 (by simp) ?_
  have hfl := fl_len L
  (repeat' first | (simp only [RA, MI, S.dst, Nat.reduceAdd, Nat.reduceMul, Nat.reduceEqDiff, ↓reduceIte, reduceCtorEq, ne_eq, Nat.reduceLT, Nat.reduceLeDiff, gt_iff_lt, ge_iff_le, Int.reduceToNat, Nat.reduceSub, c16, x16, ints_ext, ints_set, true_and, z43_size]) | (first | ((with_reducible apply app_at); (first | omega | (simp only [LN] at *; omega))) | ((with_reducible apply app_ld3); (focus ((repeat' first | (with_reducible first | assumption | apply Own.set | apply Own.new | apply Own.newD | apply Own.drew | apply Row.drew | apply Row.set | apply Row.new | apply Row.newD | apply Own.alloc | apply Row.alloc | apply Own.ne | apply Row.ne | apply Own.row) | (first | omega | (simp only [LN] at *; omega))); done)); (first | omega | (simp only [LN] at *; omega)))) | ((with_reducible first | apply bound_of | apply wr_i64 | apply wr_u8 | apply wr_u64); (first | omega | (simp only [LN] at *; omega)); (first | omega | (simp only [LN] at *; omega))) | ((with_reducible apply ld_row); (focus ((repeat' first | (with_reducible first | assumption | apply Own.set | apply Own.new | apply Own.newD | apply Own.drew | apply Row.drew | apply Row.set | apply Row.new | apply Row.newD | apply Own.alloc | apply Row.alloc | apply Own.ne | apply Row.ne | apply Own.row) | (first | omega | (simp only [LN] at *; omega))); done))) | ((with_reducible apply ldN_row); (focus ((repeat' first | (with_reducible first | assumption | apply Own.set | apply Own.new | apply Own.newD | apply Own.drew | apply Row.drew | apply Row.set | apply Row.new | apply Row.newD | apply Own.alloc | apply Row.alloc | apply Own.ne | apply Row.ne | apply Own.row) | (first | omega | (simp only [LN] at *; omega))); done)); (first | omega | (simp only [LN] at *; omega))) | ((with_reducible apply st_row); (focus ((repeat' first | (with_reducible first | assumption | apply Own.set | apply Own.new | apply Own.newD | apply Own.drew | apply Row.drew | apply Row.set | apply Row.new | apply Row.newD | apply Own.alloc | apply Row.alloc | apply Own.ne | apply Row.ne | apply Own.row) | (first | omega | (simp only [LN] at *; omega))); done)); (first | omega | (simp only [LN] at *; omega)); rfl) | ((with_reducible first | apply ints_at | apply le_andI | apply le_andN | apply ne_andI); (first | omega | (simp only [LN] at *; omega))) | (with_reducible refine ite_of (fun _ => ?_) (fun _ => ?_)))
  have ho : Own (w.alloc (Obj.cells (zcells Try.prog 43) 43)) w.heap.size (zcells Try.prog 43) := by (focus ((repeat' first | (with_reducible first | assumption | apply Own.set | apply Own.new | apply Own.newD | apply Own.drew | apply Row.drew | apply Row.set | apply Row.new | apply Row.newD | apply Own.alloc | apply Row.alloc | apply Own.ne | apply Row.ne | apply Own.row) | (first | omega | (simp only [LN] at *; omega))); done))
  have hb2 : Row (w.alloc (Obj.cells (zcells Try.prog 43) 43)) b ((fl L).map (Value.int .i64) ++ rest).toArray := by (focus ((repeat' first | (with_reducible first | assumption | apply Own.set | apply Own.new | apply Own.newD | apply Own.drew | apply Row.drew | apply Row.set | apply Row.new | apply Row.newD | apply Own.alloc | apply Row.alloc | apply Own.ne | apply Row.ne | apply Own.row) | (first | omega | (simp only [LN] at *; omega))); done))
  have hfr : Fr no w (w.alloc (Obj.cells (zcells Try.prog 43) 43)) := by (focus ((repeat' first | (with_reducible first | assumption | apply Fr.drew | apply Fr.alloc | apply Fr.setRow | exact Fr.refl _ _) | (intro _; rfl) | (intro hb; simp only [X.no] at *; omega)); done))
  generalize (w.alloc (Obj.cells (zcells Try.prog 43) 43)) = w1 at *
  refine loop_of (σ := Nat) (fun k => [(0, .slice (some ⟨b, 0, none⟩) L.length cap), (1, .int .i64 (i : Int)), (4, .pointer (some ⟨w.heap.size, 0, none⟩)), (6, .int .i64 (k : Int))])
    (fun k w' => w' = w1 ∧ k ≤ L.length ∧ findL (L.drop k) i = Z) (fun k => L.length - k) 0 rfl ⟨rfl, by omega, by simpa using hZ⟩ ?_
  rintro k _ ⟨rfl, hk, hf⟩
  have hcons : ∀ t, L[k]? = some t → findL (L.drop k) i = if t.1 == i then some t else findL (L.drop (k + 1)) i := by
    intro t ht
    have hlt : k < L.length := by
      rcases Nat.lt_or_ge k L.length with h | h
      · exact h
      · rw [List.getElem?_eq_none h] at ht; cases ht
    have : L.drop k = t :: L.drop (k + 1) := by
      rw [List.drop_eq_getElem_cons hlt]; congr 1
      rw [List.getElem?_eq_getElem hlt] at ht; exact Option.some.inj ht
    rw [this, findL, List.find?_cons]
    by_cases h : (t.1 == i) = true
    · rw [h]; simp
    · have h' : (t.1 == i) = false := by simpa using h
      rw [h']; simp [findL]
  (repeat' first | (simp only [RA, MI, S.dst, Nat.reduceAdd, Nat.reduceMul, Nat.reduceEqDiff, ↓reduceIte, reduceCtorEq, ne_eq, Nat.reduceLT, Nat.reduceLeDiff, gt_iff_lt, ge_iff_le, Int.reduceToNat, Nat.reduceSub, c16, x16, ints_ext, ints_set, true_and, z43_size]) | (first | ((with_reducible apply app_at); (first | omega | (simp only [LN] at *; omega))) | ((with_reducible apply app_ld3); (focus ((repeat' first | (with_reducible first | assumption | apply Own.set | apply Own.new | apply Own.newD | apply Own.drew | apply Row.drew | apply Row.set | apply Row.new | apply Row.newD | apply Own.alloc | apply Row.alloc | apply Own.ne | apply Row.ne | apply Own.row) | (first | omega | (simp only [LN] at *; omega))); done)); (first | omega | (simp only [LN] at *; omega)))) | ((with_reducible first | apply bound_of | apply wr_i64 | apply wr_u8 | apply wr_u64); (first | omega | (simp only [LN] at *; omega)); (first | omega | (simp only [LN] at *; omega))) | ((with_reducible apply ld_row); (focus ((repeat' first | (with_reducible first | assumption | apply Own.set | apply Own.new | apply Own.newD | apply Own.drew | apply Row.drew | apply Row.set | apply Row.new | apply Row.newD | apply Own.alloc | apply Row.alloc | apply Own.ne | apply Row.ne | apply Own.row) | (first | omega | (simp only [LN] at *; omega))); done))) | ((with_reducible apply ldN_row); (focus ((repeat' first | (with_reducible first | assumption | apply Own.set | apply Own.new | apply Own.newD | apply Own.drew | apply Row.drew | apply Row.set | apply Row.new | apply Row.newD | apply Own.alloc | apply Row.alloc | apply Own.ne | apply Row.ne | apply Own.row) | (first | omega | (simp only [LN] at *; omega))); done)); (first | omega | (simp only [LN] at *; omega))) | ((with_reducible apply st_row); (focus ((repeat' first | (with_reducible first | assumption | apply Own.set | apply Own.new | apply Own.newD | apply Own.drew | apply Row.drew | apply Row.set | apply Row.new | apply Row.newD | apply Own.alloc | apply Row.alloc | apply Own.ne | apply Row.ne | apply Own.row) | (first | omega | (simp only [LN] at *; omega))); done)); (first | omega | (simp only [LN] at *; omega)); rfl) | ((with_reducible first | apply ints_at | apply le_andI | apply le_andN | apply ne_andI); (first | omega | (simp only [LN] at *; omega))) | (with_reducible refine ite_of (fun _ => ?_) (fun _ => ?_)))
  · rename_i hlt heq
    obtain ⟨t, ht⟩ : ∃ t, L[k]? = some t := ⟨_, List.getElem?_eq_getElem (by omega)⟩
    obtain ⟨e1, e2, e3⟩ := fl_g L k t ht
    have hc := hcons t ht
    rw [if_pos (by simp; omega), hf] at hc
    subst hc
    rw [e1, e2, e3]
    refine st43 ⟨_, z43_size, ho⟩ rfl rfl rfl ?_
    refine ldN_all (by (focus ((repeat' first | (with_reducible first | assumption | apply Own.set | apply Own.new | apply Own.newD | apply Own.drew | apply Row.drew | apply Row.set | apply Row.new | apply Row.newD | apply Own.alloc | apply Row.alloc | apply Own.ne | apply Row.ne | apply Own.row) | (first | omega | (simp only [LN] at *; omega))); done))) rfl ?_
    exact ⟨rfl, by (focus ((repeat' first | (with_reducible first | assumption | apply Fr.drew | apply Fr.alloc | apply Fr.setRow | exact Fr.refl _ _) | (intro _; rfl) | (intro hb; simp only [X.no] at *; omega)); done))⟩
  · rename_i hlt heq
    obtain ⟨t, ht⟩ : ∃ t, L[k]? = some t := ⟨_, List.getElem?_eq_getElem (by omega)⟩
    obtain ⟨e1, e2, e3⟩ := fl_g L k t ht
    have hc := hcons t ht
    rw [if_neg (by simp; omega), hf] at hc
    refine ⟨k + 1, ?_, ⟨by omega, hc.symm⟩, by omega⟩
    (first | rfl | (simp only [List.cons.injEq, Prod.mk.injEq, Value.int.injEq, Value.bool.injEq, true_and, and_true, List.cons_append, List.nil_append]; done) | (simp only [List.cons.injEq, Prod.mk.injEq, Value.int.injEq, Value.bool.injEq, true_and, and_true, List.cons_append, List.nil_append]; omega))
  · rename_i hlt
    have : L.drop k = [] := List.drop_eq_nil_of_le (by omega)
    rw [this] at hf
    obtain rfl : none = Z := hf
    rw [z43]
    refine st43 ⟨_, z43_size, ho⟩ rfl rfl rfl ?_
    refine ldN_all (by (focus ((repeat' first | (with_reducible first | assumption | apply Own.set | apply Own.new | apply Own.newD | apply Own.drew | apply Row.drew | apply Row.set | apply Row.new | apply Row.newD | apply Own.alloc | apply Row.alloc | apply Own.ne | apply Row.ne | apply Own.row) | (first | omega | (simp only [LN] at *; omega))); done))) rfl ?_
    exact ⟨rfl, by (focus ((repeat' first | (with_reducible first | assumption | apply Fr.drew | apply Fr.alloc | apply Fr.setRow | exact Fr.refl _ _) | (intro _; rfl) | (intro hb; simp only [X.no] at *; omega)); done))⟩
end Go.Proofs.Ytomckpllbihikaa
