/-
  The document's Lengths, walked.
-/
import Derived.Test.YtomckpllbihikaaT1
import Derived.Test.YtomckpllbihikaaP6
import Derived.Test.YtomckpllbihikaaB1r
import Derived.Test.YtomckpllbihikaaW2
set_option autoImplicit false
set_option linter.unusedSimpArgs false
set_option linter.unusedVariables false
namespace Go.Proofs.Ytomckpllbihikaa
open X

/-- v is a slice of the numbers l, in a block from base on, that is none of A. -/
def SlI (w : World) (base : Nat) (A : Nat → Prop) (v : Value) (l : List Nat) : Prop := ∃ b cap rest, v = .slice (some ⟨b, 0, none⟩) l.length cap ∧ base ≤ b ∧ b < w.heap.size ∧ ¬ A b ∧ Row w b ((l.map fun (x : Nat) => Value.int .i64 (x : Int)) ++ rest).toArray
theorem SlI.fr {S A : Nat → Prop} {w w' : World} {base : Nat} {v : Value} {l : List Nat} (h : SlI w base A v l) (hf : Fr S w w') (hS : ∀ k, base ≤ k → k < w.heap.size → ¬ A k → ¬ S k) : SlI w' base A v l := by
  obtain ⟨b, cap, rest, h1, h2, h3, h5, h4⟩ := h
  exact ⟨b, cap, rest, h1, h2, Nat.lt_of_lt_of_le h3 hf.size, h5, h4.fr hf (hS b h2 h3 h5)⟩
theorem SlI.re {A A' : Nat → Prop} {w : World} {base : Nat} {v : Value} {l : List Nat} (h : SlI w base A v l) (hA : ∀ k, base ≤ k → k < w.heap.size → ¬ A k → ¬ A' k) : SlI w base A' v l := by
  obtain ⟨b, cap, rest, h1, h2, h3, h5, h4⟩ := h
  exact ⟨b, cap, rest, h1, h2, h3, hA b h2 h3 h5, h4⟩
theorem SlI.one {A : Nat → Prop} {w : World} {base : Nat} {v : Value} {l : List Nat} (h : SlI w base A v l) : one v = true := by
  obtain ⟨b, cap, rest, h1, _⟩ := h
  rw [h1]; rfl
/-- All groups' symbols. -/
def Alls (w : World) (base : Nat) (A : Nat → Prop) (cs : Nat → List Nat) (v : Nat → Value) (R : List Nat) : Prop := ∀ i, i ∈ R → SlI w base A (v i) (cs i)
theorem Alls.fr {S A : Nat → Prop} {w w' : World} {base : Nat} {cs : Nat → List Nat} {v : Nat → Value} {R : List Nat} (h : Alls w base A cs v R) (hf : Fr S w w') (hS : ∀ k, base ≤ k → k < w.heap.size → ¬ A k → ¬ S k) : Alls w' base A cs v R := fun i hi => (h i hi).fr hf hS
theorem Alls.re {A A' : Nat → Prop} {w : World} {base : Nat} {cs : Nat → List Nat} {v : Nat → Value} {R : List Nat} (h : Alls w base A cs v R) (hA : ∀ k, base ≤ k → k < w.heap.size → ¬ A k → ¬ A' k) : Alls w base A' cs v R := fun i hi => (h i hi).re hA
def updv (v : Nat → Value) (i : Nat) (s : Value) (k : Nat) : Value := if k = i then s else v k

theorem grp_congr {m m' : List Int} {v v' : Nat → Value} : ∀ (R : List Nat), (∀ k ∈ R, v' k = v k ∧ g m' k = g m k) → grp m' v' R = grp m v R
  | [], _ => rfl
  | i :: R, h => by
    have e : ∀ (m : List Int) (v : Nat → Value), grp m v (i :: R) = .int .i64 (i : Int) :: .int .i64 (g m i) :: v i :: grp m v R := fun _ _ => rfl
    obtain ⟨h1, h2⟩ := h i (List.mem_cons_self ..)
    rw [e, e, h1, h2, grp_congr R fun k hk => h k (List.mem_cons_of_mem _ hk)]
theorem grp_one {m : List Int} {v : Nat → Value} : ∀ (R : List Nat), (∀ i ∈ R, one (v i) = true) → ∀ x ∈ grp m v R, one x = true
  | [], _, x, hx => by cases hx
  | i :: R, h, x, hx => by
    have e : grp m v (i :: R) = .int .i64 (i : Int) :: .int .i64 (g m i) :: v i :: grp m v R := rfl
    rw [e] at hx
    simp only [List.mem_cons] at hx
    rcases hx with rfl | rfl | rfl | hx
    · rfl
    · rfl
    · exact h i (List.mem_cons_self ..)
    · exact grp_one R (fun k hk => h k (List.mem_cons_of_mem _ hk)) x hx
theorem szA (a b c : Value) : (#[a, b, c] : Array Value).size = 3 := rfl
theorem z72 : zcells Try.prog 72 = #[.int .i64 0, .int .i64 0, .slice none 0 0] := by kernel_rfl
theorem put72 (a b c : Value) : putc (putc (putc #[.int .i64 0, .int .i64 0, .slice none 0 0] 0 #[a]) 1 #[b]) 2 #[c] = #[a, b, c] := by kernel_rfl
theorem rep72 : zrep #[.int .i64 0, .int .i64 0, .slice none 0 0] 3 = #[.int .i64 0, .int .i64 0, .slice none 0 0] := by kernel_rfl
theorem put72s (a b c : Value) : putc #[.int .i64 0, .int .i64 0, .slice none 0 0] 0 #[a, b, c] = #[a, b, c] := by kernel_rfl

/-- A group is put behind the others. -/
theorem app_grp {wX : World} {base : Nat} {val : Value} {m : List Int} {v : Nat → Value} {R : List Nat} {cs : Nat → List Nat} {i bX : Nat} {s : Value} {K : Value → World → Prop} (hv : Vec wX val 3 (grp m v R) base) (hbase : base ≤ wX.heap.size) (hal : Alls wX base (blk val) cs v R)
    (hs : SlI wX base (blk val) s (cs i)) (hi : i ∉ R) (hR : R.length < 1000000) (hX : Row wX bX #[.int .i64 (i : Int), .int .i64 (g m i), s])
    (hk : ∀ r w2, Vec w2 r 3 (grp m (updv v i s) (R ++ [i])) base → Alls w2 base (blk r) cs (updv v i s) (R ++ [i]) → Fr (blk val) wX w2 → (∀ k, blk r k → blk val k ∨ wX.heap.size ≤ k) → K r w2) : AppVC Try.prog 72 3 40 wX val (.slice (some ⟨bX, 0, none⟩) 1 1) K := by
  have hgl := grp_len m v R
  refine vec_append (m := 1) (new := [Value.int .i64 (i : Int), Value.int .i64 (g m i), s]) hv hbase (by rw [z72]; rfl) ⟨R.length, hgl, by omega, by omega⟩ (by decide) (fun R h => h) (fun R h => ?_) rfl ?_ ?_
  · rw [tk_some]; exact ldN_all hX rfl h
  · intro x hx
    rcases List.mem_append.1 hx with h | h
    · exact grp_one _ (fun k hk => (hal k hk).one) x h
    · simp only [List.mem_cons, List.not_mem_nil, or_false] at h
      rcases h with rfl | rfl | rfl
      · rfl
      · rfl
      · exact hs.one
  · intro r w2 h1 h2 h3
    have e : grp m (updv v i s) (R ++ [i]) = grp m v R ++ [Value.int .i64 (i : Int), Value.int .i64 (g m i), s] := by
      rw [grp_app, grp_congr (m := m) (v := v) R fun k hk => ⟨by unfold updv; rw [if_neg (fun (e : k = i) => hi (by rw [← e]; exact hk))], rfl⟩]
      congr 1
      show [Value.int .i64 (i : Int), Value.int .i64 (g m i), updv v i s i] ++ [] = _
      unfold updv; rw [if_pos rfl]; rfl
    refine hk r w2 (by rw [e]; exact h1) (fun k hk => ?_) h2 h3
    have mv : ∀ {u : Value} {l : List Nat}, SlI wX base (blk val) u l → SlI w2 base (blk r) u l := fun h =>
      ((h.re (A' := fun k => blk val k ∨ blk r k) fun k _ k2 k3 k4 => by
        rcases k4 with k4 | k4
        · exact k3 k4
        · rcases h3 k k4 with y | y
          · exact k3 y
          · omega).fr h2 fun k _ _ k3 k4 => k3 (.inl k4)).re fun k _ _ k3 k4 => k3 (.inr k4)
    unfold updv
    split
    · rename_i e; subst e; exact mv hs
    · rename_i e
      rcases List.mem_append.1 hk with y | y
      · exact mv (hal k y)
      · exact absurd (List.mem_singleton.1 y) e

theorem roots0 {f : List Int} (hf : f.length = 256) : Roots (m0 f) (pl (fun x => g f x) 256 ++ [256]) := by
  have hm : ∀ x, x ∈ pl (fun x => g f x) 256 ↔ x < 256 ∧ 0 < g f x := fun x => by simp [pl]
  refine ⟨?_, fun i => ?_⟩
  · rw [List.nodup_append]
    refine ⟨List.Pairwise.filter _ List.nodup_range, by simp, fun x hx y hy e => ?_⟩
    rw [List.mem_singleton] at hy
    have := (hm x).1 hx; omega
  · rw [List.mem_append, hm, List.mem_singleton]
    constructor
    · rintro (⟨h1, h2⟩ | rfl)
      · exact ⟨by omega, by rw [m0_lo hf h1]; exact h2⟩
      · exact ⟨by omega, by rw [m0_none hf]; omega⟩
    · rintro ⟨h1, h2⟩
      rcases (m0_pos hf h1).1 h2 with h | h
      · exact .inr h
      · rcases Nat.lt_or_ge i 256 with y | y
        · exact .inl ⟨y, h⟩
        · exact .inr (by omega)
theorem m0_cnt' {f : List Int} (h : f.length = 256) : cnt (m0 f) ≤ 257 := by
  unfold cnt
  exact Nat.le_trans List.countP_le_length (by have := m0_len h; rw [List.length_take]; omega)
/-- What Lengths keeps in its main loop. -/
structure LInv (f : List Int) (w w' : World) (m : List Int) (cs : Nat → List Nat) (R : List Nat) (v : Nat → Value) (val : Value) (O : List Int) : Prop where
  ki : KI (Comes f) m cs
  run : ∃ n, cnt m ≤ n ∧ (runT n (m, cs)).1 = tree f
  roots : Roots m R
  vec : Vec w' val 3 (grp m v R) (w.heap.size + 3)
  alls : Alls w' (w.heap.size + 3) (blk val) cs v R
  h2 : Own w' (w.heap.size + 1) (ints .i64 (List.replicate 257 0))
  h3 : Own w' (w.heap.size + 2) (ints .i64 O)
  hO : O.length = 257
  gO : ∀ x, x < 257 → g O x = g m (257 + x)
  fr : Fr no w w'
  sz : w.heap.size + 3 ≤ w'.heap.size

theorem old_alloc (w : World) (T : Nat → Prop) (o : Obj) : Old ⟨w, T⟩ (w.alloc o) := fun b _ hb => by
  have h : b < w.heap.size := hb
  show (w.heap.push o)[b]? = w.heap[b]?
  rw [Array.getElem?_push, if_neg (by omega)]
theorem old_fr {w w' : World} (T : Nat → Prop) (h : Fr no w w') : Old ⟨w, T⟩ w' := fun b _ hb => h.block b hb fun x => x
theorem grp_ld3 {m : List Int} {v : Nat → Value} {R : List Nat} {rest : List Value} {w : World} {b p : Nat} {K : Array Value → Prop} (hr : Row w b (grp m v R ++ rest).toArray) (h : p < R.length) (hk : K #[.int .i64 (rAt R p), .int .i64 (g m (rAt R p)), v (rAt R p)]) : LdN w ⟨b, p * 3, none⟩ 3 K := by
  have hl := grp_len m v R
  refine ldN_row hr (by simp; omega) ?_
  have e : (grp m v R ++ rest).toArray.extract (p * 3) (p * 3 + 3) = #[.int .i64 (rAt R p), .int .i64 (g m (rAt R p)), v (rAt R p)] := by
    apply Array.ext'
    obtain ⟨h1, h2, h3⟩ := grp_get m v R p h
    apply List.ext_getElem?
    intro i
    simp only [List.extract_toArray, List.extract_eq_take_drop, List.getElem?_take, List.getElem?_drop]
    match i with
    | 0 => rw [if_pos (by omega), Nat.add_zero, List.getElem?_append_left (by omega), h1]; rfl
    | 1 => rw [if_pos (by omega), List.getElem?_append_left (by omega), h2]; rfl
    | 2 => rw [if_pos (by omega), List.getElem?_append_left (by omega), h3]; rfl
    | i + 3 => rw [if_neg (by omega)]; rfl
  rw [e]; exact hk
theorem nat_at {l : List Nat} {rest : List Value} {j : Nat} {K : Value → Prop} (h : j < l.length) (hk : K (.int .i64 (rAt l j))) : At ((l.map fun (x : Nat) => Value.int .i64 (x : Int)) ++ rest).toArray j K := by
  refine at_of ?_ hk
  rw [List.getElem?_toArray, List.getElem?_append_left (by simpa using h), List.getElem?_map, List.getElem?_eq_getElem h]
  simp [rAt, List.getD_eq_getElem?_getD, List.getElem?_eq_getElem h]
theorem nat_one (l : List Nat) : ∀ x ∈ (l.map fun (x : Nat) => Value.int .i64 (x : Int)), one x = true := fun x hx => by
  obtain ⟨y, _, rfl⟩ := List.mem_map.1 hx; rfl
theorem updv_self (v : Nat → Value) (i : Nat) : updv v i (v i) = v := by
  funext k; unfold updv; split
  · rename_i e; rw [e]
  · rfl
theorem take_mem {l : List Nat} (hn : l.Nodup) {j x : Nat} (hj : j < l.length) : x ∈ l.take (j + 1) ↔ x ∈ l.take j ∨ x = rAt l j := by
  rw [List.take_add_one, List.mem_append, List.getElem?_eq_getElem hj]
  simp [rAt, List.getD_eq_getElem?_getD, List.getElem?_eq_getElem hj]
theorem take_not {l : List Nat} (hn : l.Nodup) {j : Nat} (hj : j < l.length) : rAt l j ∉ l.take j := fun h => by
  obtain ⟨k, hk, e⟩ := List.mem_iff_getElem.1 h
  rw [List.length_take] at hk
  rw [List.getElem_take] at e
  have e2 : rAt l j = l[j] := by simp [rAt, List.getD_eq_getElem?_getD, List.getElem?_eq_getElem hj]
  rw [e2] at e
  exact List.pairwise_iff_getElem.1 hn k j (by omega) hj (by omega) e
/-- A slice of numbers is put behind another one. -/
theorem app_nat {w : World} {s x : Value} {l k : List Nat} {b0 bx cap : Nat} {rest : List Value} {K : Value → World → Prop} (hv : Vec w s 1 (l.map fun (x : Nat) => Value.int .i64 (x : Int)) b0) (hb0 : b0 ≤ w.heap.size) (hl : l.length < 100000) (hk : k.length < 100000)
    (hx : x = .slice (some ⟨bx, 0, none⟩) k.length cap) (hr : Row w bx ((k.map fun (x : Nat) => Value.int .i64 (x : Int)) ++ rest).toArray)
    (h : ∀ r w', Vec w' r 1 ((l ++ k).map fun (x : Nat) => Value.int .i64 (x : Int)) b0 → Fr (blk s) w w' → (∀ q, blk r q → blk s q ∨ w.heap.size ≤ q) → K r w') : AppVC Try.prog 3 1 8 w s x K := by
  subst hx
  refine vec_append (m := k.length) (new := k.map fun (x : Nat) => Value.int .i64 (x : Int)) hv hb0 (by rw [z3]; rfl) ⟨l.length, by rw [List.length_map, Nat.mul_one], by omega, by omega⟩ (by decide) (fun R h => h) (fun R h => ?_) (by rw [List.length_map, Nat.mul_one]) (fun y hy => ?_) ?_
  · rw [tk_some, Nat.mul_one]
    refine ldN_row hr (by simp) ?_
    have e1 : (((k.map fun (x : Nat) => Value.int .i64 (x : Int)) ++ rest).toArray.extract 0 (0 + k.length)).toList = k.map fun (x : Nat) => Value.int .i64 (x : Int) := by
      have : k.length = (k.map fun (x : Nat) => Value.int .i64 (x : Int)).length := by rw [List.length_map]
      rw [Nat.zero_add, this]; simp
    rw [e1]; exact h
  · rcases List.mem_append.1 hy with q | q
    · exact nat_one _ y q
    · exact nat_one _ y q
  · intro r w' h1 h2 h3
    rw [← List.map_append] at h1
    exact h r w' h1 h2 h3
theorem drew_size (w : World) : w.drew.heap.size = w.heap.size := rfl
theorem cells_int (k : IntKind) (x : Int) : (Value.int k x).cells = #[.int k x] := rfl

set_option maxHeartbeats 1000000 in
set_option maxRecDepth 10000 in
theorem Lengths_any (w : World) (f : List Int) (hf : f.length = 256) (hg : ∀ i, i < 256 → 0 ≤ g f i ∧ g f i ≤ 1099511627776) :
    Calls Try.prog 23 [.agg (ints .i64 f)].toArray w fun e w' => e = .returned (.agg (ints .i64 (((tree f).take 514).drop 257))) ∧ Fr no w w' := by
  refine enter23 (by simp) ?_
  (repeat' first | (simp only [RA, MI, S.dst, Nat.reduceAdd, Nat.reduceMul, Nat.reduceEqDiff, ↓reduceIte, reduceCtorEq, ne_eq, Nat.reduceLT, Nat.reduceLeDiff, gt_iff_lt, ge_iff_le, Int.reduceToNat, Nat.reduceSub, c23, x23, ints_ext, ints_set, true_and, ints_size, z48, z3, z72, put72, rep72, put72s, one_cell, one_size, putc_size, szA, drew_size, cells_int, World.size_alloc]) | (first | ((with_reducible apply grp_at1); (first | omega | (simp only [LN] at *; omega))) | ((with_reducible apply grp_at2); (first | omega | (simp only [LN] at *; omega))) | ((with_reducible apply grp_at0); (first | omega | (simp only [LN] at *; omega))) | ((with_reducible apply nat_at); (first | omega | (simp only [LN] at *; omega)))) | ((with_reducible first | apply bound_of | apply wr_i64 | apply wr_u8 | apply wr_u64); (first | omega | (simp only [LN] at *; omega)); (first | omega | (simp only [LN] at *; omega))) | ((with_reducible apply ld_row); (focus ((repeat' first | (with_reducible first | assumption | apply Own.set | apply Own.new | apply Own.newD | apply Own.drew | apply Row.drew | apply Row.set | apply Row.new | apply Row.newD | apply Own.alloc | apply Row.alloc | apply Own.ne | apply Row.ne | apply Own.row) | (first | omega | (simp only [LN] at *; omega))); done))) | ((with_reducible apply ldN_row); (focus ((repeat' first | (with_reducible first | assumption | apply Own.set | apply Own.new | apply Own.newD | apply Own.drew | apply Row.drew | apply Row.set | apply Row.new | apply Row.newD | apply Own.alloc | apply Row.alloc | apply Own.ne | apply Row.ne | apply Own.row) | (first | omega | (simp only [LN] at *; omega))); done)); (first | omega | (simp only [LN] at *; omega))) | ((with_reducible apply st_row); (focus ((repeat' first | (with_reducible first | assumption | apply Own.set | apply Own.new | apply Own.newD | apply Own.drew | apply Row.drew | apply Row.set | apply Row.new | apply Row.newD | apply Own.alloc | apply Row.alloc | apply Own.ne | apply Row.ne | apply Own.row) | (first | omega | (simp only [LN] at *; omega))); done)); (first | omega | (simp only [LN] at *; omega)); rfl) | ((with_reducible first | apply ints_at | apply le_andI | apply le_andN | apply ne_andI); (first | omega | (simp only [LN] at *; omega))) | (with_reducible refine ite_of (fun _ => ?_) (fun _ => ?_)))
  have h1 : Row (((w.alloc (Obj.cells (ints .i64 f) 22)).alloc (Obj.cells (ints .i64 (List.replicate 257 0)) 48)).alloc (Obj.cells (ints .i64 (List.replicate 257 0)) 48)) w.heap.size (ints .i64 f) := by (focus ((repeat' first | (with_reducible first | assumption | apply Own.set | apply Own.new | apply Own.newD | apply Own.drew | apply Row.drew | apply Row.set | apply Row.new | apply Row.newD | apply Own.alloc | apply Row.alloc | apply Own.ne | apply Row.ne | apply Own.row) | (first | omega | (simp only [LN] at *; omega))); done))
  have h2 : Own (((w.alloc (Obj.cells (ints .i64 f) 22)).alloc (Obj.cells (ints .i64 (List.replicate 257 0)) 48)).alloc (Obj.cells (ints .i64 (List.replicate 257 0)) 48)) (w.heap.size + 1) (ints .i64 (List.replicate 257 0)) := by
    have := (Own.new (w.alloc (Obj.cells (ints .i64 f) 22)) (ints .i64 (List.replicate 257 0)) 48).alloc (Obj.cells (ints .i64 (List.replicate 257 0)) 48)
    rwa [World.size_alloc] at this
  have h3 : Own (((w.alloc (Obj.cells (ints .i64 f) 22)).alloc (Obj.cells (ints .i64 (List.replicate 257 0)) 48)).alloc (Obj.cells (ints .i64 (List.replicate 257 0)) 48)) (w.heap.size + 2) (ints .i64 (List.replicate 257 0)) := by
    have := Own.new ((w.alloc (Obj.cells (ints .i64 f) 22)).alloc (Obj.cells (ints .i64 (List.replicate 257 0)) 48)) (ints .i64 (List.replicate 257 0)) 48
    rwa [World.size_alloc, World.size_alloc] at this
  have hfr : Fr no w (((w.alloc (Obj.cells (ints .i64 f) 22)).alloc (Obj.cells (ints .i64 (List.replicate 257 0)) 48)).alloc (Obj.cells (ints .i64 (List.replicate 257 0)) 48)) := by (focus ((repeat' first | (with_reducible first | assumption | apply Fr.drew | apply Fr.alloc | apply Fr.setRow | exact Fr.refl _ _) | (intro _; rfl) | (intro hb; simp only [X.no] at *; omega)); done))
  have hsz : w.heap.size + 3 ≤ (((w.alloc (Obj.cells (ints .i64 f) 22)).alloc (Obj.cells (ints .i64 (List.replicate 257 0)) 48)).alloc (Obj.cells (ints .i64 (List.replicate 257 0)) 48)).heap.size := by simp
  generalize (((w.alloc (Obj.cells (ints .i64 f) 22)).alloc (Obj.cells (ints .i64 (List.replicate 257 0)) 48)).alloc (Obj.cells (ints .i64 (List.replicate 257 0)) 48)) = w1 at *
  refine loop_of (σ := Nat × Value × (Nat → Value)) (fun t => [(1, .pointer (some ⟨w.heap.size, 0, none⟩)), (2, .pointer (some ⟨w.heap.size + 1, 0, none⟩)), (3, .pointer (some ⟨w.heap.size + 2, 0, none⟩)), (4, t.2.1), (5, .int .i64 (t.1 : Int))])
    (fun t w' => t.1 ≤ 256 ∧ Vec w' t.2.1 3 (grp (m0 f) t.2.2 (pl (fun x => g f x) t.1)) (w.heap.size + 3) ∧ Alls w' (w.heap.size + 3) (blk t.2.1) (fun i => [i]) t.2.2 (pl (fun x => g f x) t.1) ∧ Row w' w.heap.size (ints .i64 f) ∧
      Own w' (w.heap.size + 1) (ints .i64 (List.replicate 257 0)) ∧ Own w' (w.heap.size + 2) (ints .i64 (List.replicate 257 0)) ∧ Fr no w w' ∧ w.heap.size + 3 ≤ w'.heap.size)
    (fun t => 256 - t.1) (0, .slice none 0 0, fun _ => undef) rfl ⟨by simp, .nil _ _ _, fun i hi => (by cases hi), h1, h2, h3, hfr, hsz⟩ ?_
  clear h1 h2 h3 hfr hsz
  rintro ⟨i, val, v⟩ w' ⟨hi, hv, hal, h1, h2, h3, hfr, hsz⟩
  dsimp only at *
  have hgi := hg i
  have hmemR : ∀ n x, x ∈ pl (fun x => g f x) n ↔ x < n ∧ 0 < g f x := fun n x => by simp [pl]
  have hge := hv.blk_ge
  have hlb := hv.blk_lt
  have hpl : (pl (fun x => g f x) i).length ≤ i := by
    have := List.length_filter_le (fun x => decide (0 < g f x)) (List.range i)
    rwa [List.length_range] at this
  (repeat' first | (simp only [RA, MI, S.dst, Nat.reduceAdd, Nat.reduceMul, Nat.reduceEqDiff, ↓reduceIte, reduceCtorEq, ne_eq, Nat.reduceLT, Nat.reduceLeDiff, gt_iff_lt, ge_iff_le, Int.reduceToNat, Nat.reduceSub, c23, x23, ints_ext, ints_set, true_and, ints_size, z48, z3, z72, put72, rep72, put72s, one_cell, one_size, putc_size, szA, drew_size, cells_int, World.size_alloc]) | (first | ((with_reducible apply grp_at1); (first | omega | (simp only [LN] at *; omega))) | ((with_reducible apply grp_at2); (first | omega | (simp only [LN] at *; omega))) | ((with_reducible apply grp_at0); (first | omega | (simp only [LN] at *; omega))) | ((with_reducible apply nat_at); (first | omega | (simp only [LN] at *; omega)))) | ((with_reducible first | apply bound_of | apply wr_i64 | apply wr_u8 | apply wr_u64); (first | omega | (simp only [LN] at *; omega)); (first | omega | (simp only [LN] at *; omega))) | ((with_reducible apply ld_row); (focus ((repeat' first | (with_reducible first | assumption | apply Own.set | apply Own.new | apply Own.newD | apply Own.drew | apply Row.drew | apply Row.set | apply Row.new | apply Row.newD | apply Own.alloc | apply Row.alloc | apply Own.ne | apply Row.ne | apply Own.row) | (first | omega | (simp only [LN] at *; omega))); done))) | ((with_reducible apply ldN_row); (focus ((repeat' first | (with_reducible first | assumption | apply Own.set | apply Own.new | apply Own.newD | apply Own.drew | apply Row.drew | apply Row.set | apply Row.new | apply Row.newD | apply Own.alloc | apply Row.alloc | apply Own.ne | apply Row.ne | apply Own.row) | (first | omega | (simp only [LN] at *; omega))); done)); (first | omega | (simp only [LN] at *; omega))) | ((with_reducible apply st_row); (focus ((repeat' first | (with_reducible first | assumption | apply Own.set | apply Own.new | apply Own.newD | apply Own.drew | apply Row.drew | apply Row.set | apply Row.new | apply Row.newD | apply Own.alloc | apply Row.alloc | apply Own.ne | apply Row.ne | apply Own.row) | (first | omega | (simp only [LN] at *; omega))); done)); (first | omega | (simp only [LN] at *; omega)); rfl) | ((with_reducible first | apply ints_at | apply le_andI | apply le_andN | apply ne_andI); (first | omega | (simp only [LN] at *; omega))) | (with_reducible refine ite_of (fun _ => ?_) (fun _ => ?_)))
  · rename_i hlt hpos
    have h256 : i < 256 := by omega
    have w7 : Vec ((w'.alloc (Obj.cells #[Value.int .i64 (i : Int)] 3)).alloc (Obj.cells #[Value.int .i64 (i : Int), Value.int .i64 (g f i), Value.slice (some ⟨w'.heap.size, 0, none⟩) 1 1] 72)) val 3 (grp (m0 f) v (pl (fun x => g f x) i)) (w.heap.size + 3) :=
      hv.fr (S := X.no) (by (focus ((repeat' first | (with_reducible first | assumption | apply Fr.drew | apply Fr.alloc | apply Fr.setRow | exact Fr.refl _ _) | (intro _; rfl) | (intro hb; simp only [X.no] at *; omega)); done))) fun _ _ h => h
    have hS : SlI ((w'.alloc (Obj.cells #[Value.int .i64 (i : Int)] 3)).alloc (Obj.cells #[Value.int .i64 (i : Int), Value.int .i64 (g f i), Value.slice (some ⟨w'.heap.size, 0, none⟩) 1 1] 72)) (w.heap.size + 3) (blk val) (Value.slice (some ⟨w'.heap.size, 0, none⟩) 1 1) [i] :=
      ⟨w'.heap.size, 1, [], rfl, hsz, by simp; omega, fun h => by have := hlb _ h; omega, (Row.new _ _ _).alloc _⟩
    have hX : Row ((w'.alloc (Obj.cells #[Value.int .i64 (i : Int)] 3)).alloc (Obj.cells #[Value.int .i64 (i : Int), Value.int .i64 (g f i), Value.slice (some ⟨w'.heap.size, 0, none⟩) 1 1] 72)) (w'.heap.size + 1) #[Value.int .i64 (i : Int), Value.int .i64 (g (m0 f) i), Value.slice (some ⟨w'.heap.size, 0, none⟩) 1 1] := by
      rw [m0_lo hf h256]
      have := Row.new (w'.alloc (Obj.cells #[Value.int .i64 (i : Int)] 3)) #[Value.int .i64 (i : Int), Value.int .i64 (g f i), Value.slice (some ⟨w'.heap.size, 0, none⟩) 1 1] 72
      rwa [World.size_alloc] at this
    have hal2 : Alls ((w'.alloc (Obj.cells #[Value.int .i64 (i : Int)] 3)).alloc (Obj.cells #[Value.int .i64 (i : Int), Value.int .i64 (g f i), Value.slice (some ⟨w'.heap.size, 0, none⟩) 1 1] 72)) (w.heap.size + 3) (blk val) (fun i => [i]) v (pl (fun x => g f x) i) := hal.fr (S := X.no) (by (focus ((repeat' first | (with_reducible first | assumption | apply Fr.drew | apply Fr.alloc | apply Fr.setRow | exact Fr.refl _ _) | (intro _; rfl) | (intro hb; simp only [X.no] at *; omega)); done))) fun _ _ _ _ h => h
    have hsz2 : w.heap.size + 3 ≤ ((w'.alloc (Obj.cells #[Value.int .i64 (i : Int)] 3)).alloc (Obj.cells #[Value.int .i64 (i : Int), Value.int .i64 (g f i), Value.slice (some ⟨w'.heap.size, 0, none⟩) 1 1] 72)).heap.size := by simp; omega
    replace h1 := (h1.alloc (Obj.cells #[Value.int .i64 (i : Int)] 3)).alloc (Obj.cells #[Value.int .i64 (i : Int), Value.int .i64 (g f i), Value.slice (some ⟨w'.heap.size, 0, none⟩) 1 1] 72)
    replace h2 := (h2.alloc (Obj.cells #[Value.int .i64 (i : Int)] 3)).alloc (Obj.cells #[Value.int .i64 (i : Int), Value.int .i64 (g f i), Value.slice (some ⟨w'.heap.size, 0, none⟩) 1 1] 72)
    replace h3 := (h3.alloc (Obj.cells #[Value.int .i64 (i : Int)] 3)).alloc (Obj.cells #[Value.int .i64 (i : Int), Value.int .i64 (g f i), Value.slice (some ⟨w'.heap.size, 0, none⟩) 1 1] 72)
    replace hfr := (hfr.alloc (Obj.cells #[Value.int .i64 (i : Int)] 3)).alloc (Obj.cells #[Value.int .i64 (i : Int), Value.int .i64 (g f i), Value.slice (some ⟨w'.heap.size, 0, none⟩) 1 1] 72)
    generalize ((w'.alloc (Obj.cells #[Value.int .i64 (i : Int)] 3)).alloc (Obj.cells #[Value.int .i64 (i : Int), Value.int .i64 (g f i), Value.slice (some ⟨w'.heap.size, 0, none⟩) 1 1] 72)) = w5 at *
    refine app_grp w7 hsz2 hal2 hS (fun h => by have := (hmemR i i).1 h; omega) (by omega) hX ?_
    intro r w6 hv6 hal6 hf6 hr6
    have epl : pl (fun x => g f x) (i + 1) = pl (fun x => g f x) i ++ [i] := by rw [pl_succ, if_pos hpos]
    (repeat' first | (simp only [RA, MI, S.dst, Nat.reduceAdd, Nat.reduceMul, Nat.reduceEqDiff, ↓reduceIte, reduceCtorEq, ne_eq, Nat.reduceLT, Nat.reduceLeDiff, gt_iff_lt, ge_iff_le, Int.reduceToNat, Nat.reduceSub, c23, x23, ints_ext, ints_set, true_and, ints_size, z48, z3, z72, put72, rep72, put72s, one_cell, one_size, putc_size, szA, drew_size, cells_int, World.size_alloc]) | (first | ((with_reducible apply grp_at1); (first | omega | (simp only [LN] at *; omega))) | ((with_reducible apply grp_at2); (first | omega | (simp only [LN] at *; omega))) | ((with_reducible apply grp_at0); (first | omega | (simp only [LN] at *; omega))) | ((with_reducible apply nat_at); (first | omega | (simp only [LN] at *; omega)))) | ((with_reducible first | apply bound_of | apply wr_i64 | apply wr_u8 | apply wr_u64); (first | omega | (simp only [LN] at *; omega)); (first | omega | (simp only [LN] at *; omega))) | ((with_reducible apply ld_row); (focus ((repeat' first | (with_reducible first | assumption | apply Own.set | apply Own.new | apply Own.newD | apply Own.drew | apply Row.drew | apply Row.set | apply Row.new | apply Row.newD | apply Own.alloc | apply Row.alloc | apply Own.ne | apply Row.ne | apply Own.row) | (first | omega | (simp only [LN] at *; omega))); done))) | ((with_reducible apply ldN_row); (focus ((repeat' first | (with_reducible first | assumption | apply Own.set | apply Own.new | apply Own.newD | apply Own.drew | apply Row.drew | apply Row.set | apply Row.new | apply Row.newD | apply Own.alloc | apply Row.alloc | apply Own.ne | apply Row.ne | apply Own.row) | (first | omega | (simp only [LN] at *; omega))); done)); (first | omega | (simp only [LN] at *; omega))) | ((with_reducible apply st_row); (focus ((repeat' first | (with_reducible first | assumption | apply Own.set | apply Own.new | apply Own.newD | apply Own.drew | apply Row.drew | apply Row.set | apply Row.new | apply Row.newD | apply Own.alloc | apply Row.alloc | apply Own.ne | apply Row.ne | apply Own.row) | (first | omega | (simp only [LN] at *; omega))); done)); (first | omega | (simp only [LN] at *; omega)); rfl) | ((with_reducible first | apply ints_at | apply le_andI | apply le_andN | apply ne_andI); (first | omega | (simp only [LN] at *; omega))) | (with_reducible refine ite_of (fun _ => ?_) (fun _ => ?_)))
    refine ⟨(i + 1, r, updv v i (Value.slice (some ⟨w'.heap.size, 0, none⟩) 1 1)), ?_, ⟨by dsimp only; omega, by dsimp only; rw [epl]; exact hv6, by dsimp only; rw [epl]; exact hal6, h1.fr hf6 (fun h => by have := hge _ h; omega), h2.fr hf6 (fun h => by have := hge _ h; omega), h3.fr hf6 (fun h => by have := hge _ h; omega),
      hfr.trans' hf6 (fun q hq h => by have := hge _ h; omega), by have := hf6.size; omega⟩, by dsimp only; omega⟩
    (first | rfl | (simp only [List.cons.injEq, Prod.mk.injEq, Value.int.injEq, Value.bool.injEq, true_and, and_true, List.cons_append, List.nil_append]; done) | (simp only [List.cons.injEq, Prod.mk.injEq, Value.int.injEq, Value.bool.injEq, true_and, and_true, List.cons_append, List.nil_append]; omega))
  · rename_i hlt hpos
    have epl : pl (fun x => g f x) (i + 1) = pl (fun x => g f x) i := by rw [pl_succ, if_neg hpos, List.append_nil]
    refine ⟨(i + 1, val, v), ?_, ⟨by dsimp only; omega, by dsimp only; rw [epl]; exact hv, by dsimp only; rw [epl]; exact hal, h1, h2, h3, hfr, hsz⟩, by dsimp only; omega⟩
    (first | rfl | (simp only [List.cons.injEq, Prod.mk.injEq, Value.int.injEq, Value.bool.injEq, true_and, and_true, List.cons_append, List.nil_append]; done) | (simp only [List.cons.injEq, Prod.mk.injEq, Value.int.injEq, Value.bool.injEq, true_and, and_true, List.cons_append, List.nil_append]; omega))
  · rename_i hlt
    obtain rfl : i = 256 := by omega
    have w7 : Vec ((w'.alloc (Obj.cells #[Value.int .i64 256] 3)).alloc (Obj.cells #[Value.int .i64 256, Value.int .i64 1, Value.slice (some ⟨w'.heap.size, 0, none⟩) 1 1] 72)) val 3 (grp (m0 f) v (pl (fun x => g f x) 256)) (w.heap.size + 3) :=
      hv.fr (S := X.no) (by (focus ((repeat' first | (with_reducible first | assumption | apply Fr.drew | apply Fr.alloc | apply Fr.setRow | exact Fr.refl _ _) | (intro _; rfl) | (intro hb; simp only [X.no] at *; omega)); done))) fun _ _ h => h
    have hS : SlI ((w'.alloc (Obj.cells #[Value.int .i64 256] 3)).alloc (Obj.cells #[Value.int .i64 256, Value.int .i64 1, Value.slice (some ⟨w'.heap.size, 0, none⟩) 1 1] 72)) (w.heap.size + 3) (blk val) (Value.slice (some ⟨w'.heap.size, 0, none⟩) 1 1) [256] :=
      ⟨w'.heap.size, 1, [], rfl, hsz, by simp; omega, fun h => by have := hlb _ h; omega, (Row.new _ _ _).alloc _⟩
    have hX : Row ((w'.alloc (Obj.cells #[Value.int .i64 256] 3)).alloc (Obj.cells #[Value.int .i64 256, Value.int .i64 1, Value.slice (some ⟨w'.heap.size, 0, none⟩) 1 1] 72)) (w'.heap.size + 1) #[Value.int .i64 ((256 : Nat) : Int), Value.int .i64 (g (m0 f) 256), Value.slice (some ⟨w'.heap.size, 0, none⟩) 1 1] := by
      rw [m0_none hf]
      have := Row.new (w'.alloc (Obj.cells #[Value.int .i64 256] 3)) #[Value.int .i64 256, Value.int .i64 1, Value.slice (some ⟨w'.heap.size, 0, none⟩) 1 1] 72
      rwa [World.size_alloc] at this
    have hal2 : Alls ((w'.alloc (Obj.cells #[Value.int .i64 256] 3)).alloc (Obj.cells #[Value.int .i64 256, Value.int .i64 1, Value.slice (some ⟨w'.heap.size, 0, none⟩) 1 1] 72)) (w.heap.size + 3) (blk val) (fun i => [i]) v (pl (fun x => g f x) 256) := hal.fr (S := X.no) (by (focus ((repeat' first | (with_reducible first | assumption | apply Fr.drew | apply Fr.alloc | apply Fr.setRow | exact Fr.refl _ _) | (intro _; rfl) | (intro hb; simp only [X.no] at *; omega)); done))) fun _ _ _ _ h => h
    have hsz2 : w.heap.size + 3 ≤ ((w'.alloc (Obj.cells #[Value.int .i64 256] 3)).alloc (Obj.cells #[Value.int .i64 256, Value.int .i64 1, Value.slice (some ⟨w'.heap.size, 0, none⟩) 1 1] 72)).heap.size := by simp; omega
    replace h2 := (h2.alloc (Obj.cells #[Value.int .i64 256] 3)).alloc (Obj.cells #[Value.int .i64 256, Value.int .i64 1, Value.slice (some ⟨w'.heap.size, 0, none⟩) 1 1] 72)
    replace h3 := (h3.alloc (Obj.cells #[Value.int .i64 256] 3)).alloc (Obj.cells #[Value.int .i64 256, Value.int .i64 1, Value.slice (some ⟨w'.heap.size, 0, none⟩) 1 1] 72)
    replace hfr := (hfr.alloc (Obj.cells #[Value.int .i64 256] 3)).alloc (Obj.cells #[Value.int .i64 256, Value.int .i64 1, Value.slice (some ⟨w'.heap.size, 0, none⟩) 1 1] 72)
    generalize ((w'.alloc (Obj.cells #[Value.int .i64 256] 3)).alloc (Obj.cells #[Value.int .i64 256, Value.int .i64 1, Value.slice (some ⟨w'.heap.size, 0, none⟩) 1 1] 72)) = w5 at *
    refine app_grp w7 hsz2 hal2 hS (fun h => by have := (hmemR 256 256).1 h; omega) (by omega) hX ?_
    intro r w6 hv6 hal6 hf6 hr6
    have hI : LInv f w w6 (m0 f) (fun i => [i]) (pl (fun x => g f x) 256 ++ [256]) (updv v 256 (Value.slice (some ⟨w'.heap.size, 0, none⟩) 1 1)) r (List.replicate 257 0) :=
      ⟨m0_ki hf hg, ⟨257, m0_cnt' hf, rfl⟩, roots0 hf, hv6, hal6, h2.fr hf6 (fun h => by have := hge _ h; omega), h3.fr hf6 (fun h => by have := hge _ h; omega), List.length_replicate, fun x hx => by rw [m0_mid hf hx]; exact g_rep _ _ _ hx,
        hfr.trans' hf6 (fun q hq h => by have := hge _ h; omega), by have := hf6.size; omega⟩
    clear hv hal h1 h2 h3 hfr hsz hgi hmemR hge hlb hpl hlt w7 hS hX hal2 hsz2 hv6 hal6 hf6 hr6
    generalize (updv v 256 (Value.slice (some ⟨w'.heap.size, 0, none⟩) 1 1)) = v2 at *
    (repeat' first | (simp only [RA, MI, S.dst, Nat.reduceAdd, Nat.reduceMul, Nat.reduceEqDiff, ↓reduceIte, reduceCtorEq, ne_eq, Nat.reduceLT, Nat.reduceLeDiff, gt_iff_lt, ge_iff_le, Int.reduceToNat, Nat.reduceSub, c23, x23, ints_ext, ints_set, true_and, ints_size, z48, z3, z72, put72, rep72, put72s, one_cell, one_size, putc_size, szA, drew_size, cells_int, World.size_alloc]) | (first | ((with_reducible apply grp_at1); (first | omega | (simp only [LN] at *; omega))) | ((with_reducible apply grp_at2); (first | omega | (simp only [LN] at *; omega))) | ((with_reducible apply grp_at0); (first | omega | (simp only [LN] at *; omega))) | ((with_reducible apply nat_at); (first | omega | (simp only [LN] at *; omega)))) | ((with_reducible first | apply bound_of | apply wr_i64 | apply wr_u8 | apply wr_u64); (first | omega | (simp only [LN] at *; omega)); (first | omega | (simp only [LN] at *; omega))) | ((with_reducible apply ld_row); (focus ((repeat' first | (with_reducible first | assumption | apply Own.set | apply Own.new | apply Own.newD | apply Own.drew | apply Row.drew | apply Row.set | apply Row.new | apply Row.newD | apply Own.alloc | apply Row.alloc | apply Own.ne | apply Row.ne | apply Own.row) | (first | omega | (simp only [LN] at *; omega))); done))) | ((with_reducible apply ldN_row); (focus ((repeat' first | (with_reducible first | assumption | apply Own.set | apply Own.new | apply Own.newD | apply Own.drew | apply Row.drew | apply Row.set | apply Row.new | apply Row.newD | apply Own.alloc | apply Row.alloc | apply Own.ne | apply Row.ne | apply Own.row) | (first | omega | (simp only [LN] at *; omega))); done)); (first | omega | (simp only [LN] at *; omega))) | ((with_reducible apply st_row); (focus ((repeat' first | (with_reducible first | assumption | apply Own.set | apply Own.new | apply Own.newD | apply Own.drew | apply Row.drew | apply Row.set | apply Row.new | apply Row.newD | apply Own.alloc | apply Row.alloc | apply Own.ne | apply Row.ne | apply Own.row) | (first | omega | (simp only [LN] at *; omega))); done)); (first | omega | (simp only [LN] at *; omega)); rfl) | ((with_reducible first | apply ints_at | apply le_andI | apply le_andN | apply ne_andI); (first | omega | (simp only [LN] at *; omega))) | (with_reducible refine ite_of (fun _ => ?_) (fun _ => ?_)))
    refine loop_of (σ := List Int × (Nat → List Nat) × List Nat × (Nat → Value) × Value × List Int) (fun t => [(2, .pointer (some ⟨w.heap.size + 1, 0, none⟩)), (3, .pointer (some ⟨w.heap.size + 2, 0, none⟩)), (4, t.2.2.2.2.1)])
      (fun t w' => LInv f w w' t.1 t.2.1 t.2.2.1 t.2.2.2.1 t.2.2.2.2.1 t.2.2.2.2.2) (fun t => t.2.2.1.length) (m0 f, fun i => [i], pl (fun x => g f x) 256 ++ [256], v2, r, List.replicate 257 0) rfl hI ?_
    clear hI
    rintro ⟨m, cs, R, v, val, O⟩ w' hI
    dsimp only at *
    obtain ⟨hki, ⟨n, hcn, hrun⟩, hR, hv, hal, h2, h3, hO, gO, hfr, hsz⟩ := hI
    obtain ⟨ad, nR, cap, rfl, hln, hrow⟩ := hv.row
    have hnR : nR = R.length := by rw [grp_len] at hln; omega
    subst hnR
    (repeat' first | (simp only [RA, MI, S.dst, Nat.reduceAdd, Nat.reduceMul, Nat.reduceEqDiff, ↓reduceIte, reduceCtorEq, ne_eq, Nat.reduceLT, Nat.reduceLeDiff, gt_iff_lt, ge_iff_le, Int.reduceToNat, Nat.reduceSub, c23, x23, ints_ext, ints_set, true_and, ints_size, z48, z3, z72, put72, rep72, put72s, one_cell, one_size, putc_size, szA, drew_size, cells_int, World.size_alloc]) | (first | ((with_reducible apply grp_at1); (first | omega | (simp only [LN] at *; omega))) | ((with_reducible apply grp_at2); (first | omega | (simp only [LN] at *; omega))) | ((with_reducible apply grp_at0); (first | omega | (simp only [LN] at *; omega))) | ((with_reducible apply nat_at); (first | omega | (simp only [LN] at *; omega)))) | ((with_reducible first | apply bound_of | apply wr_i64 | apply wr_u8 | apply wr_u64); (first | omega | (simp only [LN] at *; omega)); (first | omega | (simp only [LN] at *; omega))) | ((with_reducible apply ld_row); (focus ((repeat' first | (with_reducible first | assumption | apply Own.set | apply Own.new | apply Own.newD | apply Own.drew | apply Row.drew | apply Row.set | apply Row.new | apply Row.newD | apply Own.alloc | apply Row.alloc | apply Own.ne | apply Row.ne | apply Own.row) | (first | omega | (simp only [LN] at *; omega))); done))) | ((with_reducible apply ldN_row); (focus ((repeat' first | (with_reducible first | assumption | apply Own.set | apply Own.new | apply Own.newD | apply Own.drew | apply Row.drew | apply Row.set | apply Row.new | apply Row.newD | apply Own.alloc | apply Row.alloc | apply Own.ne | apply Row.ne | apply Own.row) | (first | omega | (simp only [LN] at *; omega))); done)); (first | omega | (simp only [LN] at *; omega))) | ((with_reducible apply st_row); (focus ((repeat' first | (with_reducible first | assumption | apply Own.set | apply Own.new | apply Own.newD | apply Own.drew | apply Row.drew | apply Row.set | apply Row.new | apply Row.newD | apply Own.alloc | apply Row.alloc | apply Own.ne | apply Row.ne | apply Own.row) | (first | omega | (simp only [LN] at *; omega))); done)); (first | omega | (simp only [LN] at *; omega)); rfl) | ((with_reducible first | apply ints_at | apply le_andI | apply le_andN | apply ne_andI); (first | omega | (simp only [LN] at *; omega))) | (with_reducible refine ite_of (fun _ => ?_) (fun _ => ?_)))
    · rename_i hR2
      rcases hrow with ⟨_, hx, _⟩ | ⟨bk, rest, hbk, rfl, hcap, hob⟩
      · exfalso; omega
      have hR257 : R.length ≤ 257 := by
        have := nodup_lt 257 R hR.nod fun x hx => ((hR.mem x).1 hx).1
        exact this
      have hbkl := hob.lt
      have hge := hv.blk_ge
      refine calls_mono (Least_any w' bk R.length cap m v R rest rfl (by omega) hob.row (-1) _ rfl) ?_
      rintro _ w2 ⟨rfl, hf2⟩
      obtain ⟨za0, za1⟩ := least_pos hR (q := -1) (bt := -1) (fun p _ => by omega) ⟨0, by omega, by omega⟩
      have zal := (rl_ge (fun p => g m (rAt R p)) (fun p => (rAt R p : Int)) (-1) R.length).2
      obtain ⟨pa, hpa⟩ : ∃ pa : Nat, rl (fun p => g m (rAt R p)) (fun p => (rAt R p : Int)) (-1) R.length = pa := ⟨(rl (fun p => g m (rAt R p)) (fun p => (rAt R p : Int)) (-1) R.length).toNat, by omega⟩
      rw [hpa] at za1 zal ⊢
      rw [Int.toNat_natCast] at za1
      clear za0 hpa
      have hob2 := hob.fr hf2 (fun h => h)
      (repeat' first | (simp only [RA, MI, S.dst, Nat.reduceAdd, Nat.reduceMul, Nat.reduceEqDiff, ↓reduceIte, reduceCtorEq, ne_eq, Nat.reduceLT, Nat.reduceLeDiff, gt_iff_lt, ge_iff_le, Int.reduceToNat, Nat.reduceSub, c23, x23, ints_ext, ints_set, true_and, ints_size, z48, z3, z72, put72, rep72, put72s, one_cell, one_size, putc_size, szA, drew_size, cells_int, World.size_alloc]) | (first | ((with_reducible apply grp_at1); (first | omega | (simp only [LN] at *; omega))) | ((with_reducible apply grp_at2); (first | omega | (simp only [LN] at *; omega))) | ((with_reducible apply grp_at0); (first | omega | (simp only [LN] at *; omega))) | ((with_reducible apply nat_at); (first | omega | (simp only [LN] at *; omega)))) | ((with_reducible first | apply bound_of | apply wr_i64 | apply wr_u8 | apply wr_u64); (first | omega | (simp only [LN] at *; omega)); (first | omega | (simp only [LN] at *; omega))) | ((with_reducible apply ld_row); (focus ((repeat' first | (with_reducible first | assumption | apply Own.set | apply Own.new | apply Own.newD | apply Own.drew | apply Row.drew | apply Row.set | apply Row.new | apply Row.newD | apply Own.alloc | apply Row.alloc | apply Own.ne | apply Row.ne | apply Own.row) | (first | omega | (simp only [LN] at *; omega))); done))) | ((with_reducible apply ldN_row); (focus ((repeat' first | (with_reducible first | assumption | apply Own.set | apply Own.new | apply Own.newD | apply Own.drew | apply Row.drew | apply Row.set | apply Row.new | apply Row.newD | apply Own.alloc | apply Row.alloc | apply Own.ne | apply Row.ne | apply Own.row) | (first | omega | (simp only [LN] at *; omega))); done)); (first | omega | (simp only [LN] at *; omega))) | ((with_reducible apply st_row); (focus ((repeat' first | (with_reducible first | assumption | apply Own.set | apply Own.new | apply Own.newD | apply Own.drew | apply Row.drew | apply Row.set | apply Row.new | apply Row.newD | apply Own.alloc | apply Row.alloc | apply Own.ne | apply Row.ne | apply Own.row) | (first | omega | (simp only [LN] at *; omega))); done)); (first | omega | (simp only [LN] at *; omega)); rfl) | ((with_reducible first | apply ints_at | apply le_andI | apply le_andN | apply ne_andI); (first | omega | (simp only [LN] at *; omega))) | (with_reducible refine ite_of (fun _ => ?_) (fun _ => ?_)))
      refine calls_mono (Least_any w2 bk R.length cap m v R rest rfl (by omega) hob2.row pa _ rfl) ?_
      rintro _ w3 ⟨rfl, hf3⟩
      obtain ⟨zb0, zb1⟩ := least_pos hR (q := pa) (bt := rAt R pa) (fun p hp => ⟨fun h => by rw [show p = pa by omega], fun h => by have := rAt_inj hR.nod hp (by omega) (Int.ofNat.inj h); omega⟩) ⟨if pa = 0 then 1 else 0, by split <;> omega, by split <;> omega⟩
      have zbl := (rl_ge (fun p => g m (rAt R p)) (fun p => (rAt R p : Int)) pa R.length).2
      have zbn := ((rl_spec (fun p => g m (rAt R p)) (fun p => (rAt R p : Int)) pa R.length).2 zb0).1
      obtain ⟨pb, hpb⟩ : ∃ pb : Nat, rl (fun p => g m (rAt R p)) (fun p => (rAt R p : Int)) pa R.length = pb := ⟨(rl (fun p => g m (rAt R p)) (fun p => (rAt R p : Int)) pa R.length).toNat, by omega⟩
      rw [hpb] at zb1 zbl zbn ⊢
      rw [Int.toNat_natCast] at zb1
      clear zb0 hpb
      have hpab : pa ≠ pb := fun e => zbn (by rw [e])
      have hfm := hf2.and hf3
      replace hv := hv.fr hfm (fun _ _ h => h)
      replace hal := hal.fr hfm (fun _ _ _ _ h => h)
      replace h2 := h2.fr hfm (fun h => h)
      replace h3 := h3.fr hfm (fun h => h)
      replace hob := hob.fr hfm (fun h => h)
      replace hfr := hfr.and hfm
      replace hsz := Nat.le_trans hsz hfm.size
      replace hbkl := Nat.lt_of_lt_of_le hbkl hfm.size
      clear hob2 hf2 hf3 hfm
      have ma := rAt_mem (R := R) (p := pa) (by omega)
      have mb := rAt_mem (R := R) (p := pb) (by omega)
      have hane : rAt R pa ≠ rAt R pb := fun e => hpab (rAt_inj hR.nod (by omega) (by omega) e)
      obtain ⟨a, hA0⟩ : ∃ a, rAt R pa = a := ⟨_, rfl⟩
      obtain ⟨b, hbb⟩ : ∃ b, rAt R pb = b := ⟨_, rfl⟩
      have ra := (hR.mem _).1 ma
      have rb := (hR.mem _).1 mb
      have hstep : stepT (m, cs) = some (mrg m a b (cs a) (cs b), fun i => if i = a then cs a ++ cs b else cs i) := by
        obtain ⟨a', b', e1, e2, _, _, _, _, _, e3⟩ := stepT_some hki.wf za1.symm zb1.symm (by omega)
        have e4 : a = a' := by rw [← hA0]; exact Int.ofNat.inj e1
        have e5 : b = b' := by rw [← hbb]; exact Int.ofNat.inj e2
        rw [e4, e5]; exact e3
      have hRs := hR.step (m' := mrg m (rAt R pa) (rAt R pb) (cs (rAt R pa)) (cs (rAt R pb))) (pa := pa) (pb := pb) (by omega) (by omega) hpab (mrg_facts hki.wf ra.1 rb.1 hane ra.2 rb.2).1
      rw [hA0, hbb] at hRs hane
      rw [hA0] at ra ma
      rw [hbb] at rb mb
      clear za1 zb1
      obtain ⟨hk2, hc2⟩ := hki.step ra.1 rb.1 hane ra.2 rb.2
      obtain ⟨hmf, hml⟩ := mrg_facts hki.wf ra.1 rb.1 hane ra.2 rb.2
      have hrun2 : ∃ n, cnt (mrg m a b (cs a) (cs b)) ≤ n ∧ (runT n (mrg m a b (cs a) (cs b), fun i => if i = a then cs a ++ cs b else cs i)).1 = tree f := by
        cases n with
        | zero => have := cnt_two hki.wf.len ra.1 rb.1 hane ra.2 rb.2; omega
        | succ n => exact ⟨n, by omega, by rw [← hrun]; simp only [runT, hstep]⟩
      have hwsum : g m a + g m b ≤ 1152921504606846976 := by
        have h1 := sum_set (m.take 257) a 0 (by have := hki.wf.len; simp; omega)
        have h2 := le_sum ((m.take 257).set a 0) (fun i hi => by
          rw [g_set _ _ _ _ (by have := hki.wf.len; simp; omega)]; split
          · exact Int.le_refl _
          · rw [g_take0 _ _ _ (by simp at hi; omega)]; exact hki.wf.nn i (by simp at hi; omega)) b (by have := hki.wf.len; simp; omega)
        rw [g_set _ _ _ _ (by have := hki.wf.len; simp; omega), if_neg hane, g_take0 _ _ _ rb.1] at h2
        rw [g_take0 _ _ _ ra.1] at h1
        have h3 := hki.wf.sum
        unfold tot at h3
        omega
      have ga := hki.wf.nn a ra.1
      have gb := hki.wf.nn b rb.1
      have hgl := grp_len m v R
      (repeat' first | (simp only [RA, MI, S.dst, Nat.reduceAdd, Nat.reduceMul, Nat.reduceEqDiff, ↓reduceIte, reduceCtorEq, ne_eq, Nat.reduceLT, Nat.reduceLeDiff, gt_iff_lt, ge_iff_le, Int.reduceToNat, Nat.reduceSub, c23, x23, ints_ext, ints_set, true_and, ints_size, z48, z3, z72, put72, rep72, put72s, one_cell, one_size, putc_size, szA, drew_size, cells_int, World.size_alloc]) | (first | ((with_reducible apply grp_at1); (first | omega | (simp only [LN] at *; omega))) | ((with_reducible apply grp_at2); (first | omega | (simp only [LN] at *; omega))) | ((with_reducible apply grp_at0); (first | omega | (simp only [LN] at *; omega))) | ((with_reducible apply nat_at); (first | omega | (simp only [LN] at *; omega)))) | ((with_reducible first | apply bound_of | apply wr_i64 | apply wr_u8 | apply wr_u64); (first | omega | (simp only [LN] at *; omega)); (first | omega | (simp only [LN] at *; omega))) | ((with_reducible apply ld_row); (focus ((repeat' first | (with_reducible first | assumption | apply Own.set | apply Own.new | apply Own.newD | apply Own.drew | apply Row.drew | apply Row.set | apply Row.new | apply Row.newD | apply Own.alloc | apply Row.alloc | apply Own.ne | apply Row.ne | apply Own.row) | (first | omega | (simp only [LN] at *; omega))); done))) | ((with_reducible apply ldN_row); (focus ((repeat' first | (with_reducible first | assumption | apply Own.set | apply Own.new | apply Own.newD | apply Own.drew | apply Row.drew | apply Row.set | apply Row.new | apply Row.newD | apply Own.alloc | apply Row.alloc | apply Own.ne | apply Row.ne | apply Own.row) | (first | omega | (simp only [LN] at *; omega))); done)); (first | omega | (simp only [LN] at *; omega))) | ((with_reducible apply st_row); (focus ((repeat' first | (with_reducible first | assumption | apply Own.set | apply Own.new | apply Own.newD | apply Own.drew | apply Row.drew | apply Row.set | apply Row.new | apply Row.newD | apply Own.alloc | apply Row.alloc | apply Own.ne | apply Row.ne | apply Own.row) | (first | omega | (simp only [LN] at *; omega))); done)); (first | omega | (simp only [LN] at *; omega)); rfl) | ((with_reducible first | apply ints_at | apply le_andI | apply le_andN | apply ne_andI); (first | omega | (simp only [LN] at *; omega))) | (with_reducible refine ite_of (fun _ => ?_) (fun _ => ?_)))
      refine ⟨fun _ => True, ?_⟩
      (repeat' first | (simp only [RA, MI, S.dst, Nat.reduceAdd, Nat.reduceMul, Nat.reduceEqDiff, ↓reduceIte, reduceCtorEq, ne_eq, Nat.reduceLT, Nat.reduceLeDiff, gt_iff_lt, ge_iff_le, Int.reduceToNat, Nat.reduceSub, c23, x23, ints_ext, ints_set, true_and, ints_size, z48, z3, z72, put72, rep72, put72s, one_cell, one_size, putc_size, szA, drew_size, cells_int, World.size_alloc]) | (first | ((with_reducible apply grp_at1); (first | omega | (simp only [LN] at *; omega))) | ((with_reducible apply grp_at2); (first | omega | (simp only [LN] at *; omega))) | ((with_reducible apply grp_at0); (first | omega | (simp only [LN] at *; omega))) | ((with_reducible apply nat_at); (first | omega | (simp only [LN] at *; omega)))) | ((with_reducible first | apply bound_of | apply wr_i64 | apply wr_u8 | apply wr_u64); (first | omega | (simp only [LN] at *; omega)); (first | omega | (simp only [LN] at *; omega))) | ((with_reducible apply ld_row); (focus ((repeat' first | (with_reducible first | assumption | apply Own.set | apply Own.new | apply Own.newD | apply Own.drew | apply Row.drew | apply Row.set | apply Row.new | apply Row.newD | apply Own.alloc | apply Row.alloc | apply Own.ne | apply Row.ne | apply Own.row) | (first | omega | (simp only [LN] at *; omega))); done))) | ((with_reducible apply ldN_row); (focus ((repeat' first | (with_reducible first | assumption | apply Own.set | apply Own.new | apply Own.newD | apply Own.drew | apply Row.drew | apply Row.set | apply Row.new | apply Row.newD | apply Own.alloc | apply Row.alloc | apply Own.ne | apply Row.ne | apply Own.row) | (first | omega | (simp only [LN] at *; omega))); done)); (first | omega | (simp only [LN] at *; omega))) | ((with_reducible apply st_row); (focus ((repeat' first | (with_reducible first | assumption | apply Own.set | apply Own.new | apply Own.newD | apply Own.drew | apply Row.drew | apply Row.set | apply Row.new | apply Row.newD | apply Own.alloc | apply Row.alloc | apply Own.ne | apply Row.ne | apply Own.row) | (first | omega | (simp only [LN] at *; omega))); done)); (first | omega | (simp only [LN] at *; omega)); rfl) | ((with_reducible first | apply ints_at | apply le_andI | apply le_andN | apply ne_andI); (first | omega | (simp only [LN] at *; omega))) | (with_reducible refine ite_of (fun _ => ?_) (fun _ => ?_)))
      simp only [hA0, hbb]
      (repeat' first | (simp only [RA, MI, S.dst, Nat.reduceAdd, Nat.reduceMul, Nat.reduceEqDiff, ↓reduceIte, reduceCtorEq, ne_eq, Nat.reduceLT, Nat.reduceLeDiff, gt_iff_lt, ge_iff_le, Int.reduceToNat, Nat.reduceSub, c23, x23, ints_ext, ints_set, true_and, ints_size, z48, z3, z72, put72, rep72, put72s, one_cell, one_size, putc_size, szA, drew_size, cells_int, World.size_alloc]) | (first | ((with_reducible apply grp_at1); (first | omega | (simp only [LN] at *; omega))) | ((with_reducible apply grp_at2); (first | omega | (simp only [LN] at *; omega))) | ((with_reducible apply grp_at0); (first | omega | (simp only [LN] at *; omega))) | ((with_reducible apply nat_at); (first | omega | (simp only [LN] at *; omega)))) | ((with_reducible first | apply bound_of | apply wr_i64 | apply wr_u8 | apply wr_u64); (first | omega | (simp only [LN] at *; omega)); (first | omega | (simp only [LN] at *; omega))) | ((with_reducible apply ld_row); (focus ((repeat' first | (with_reducible first | assumption | apply Own.set | apply Own.new | apply Own.newD | apply Own.drew | apply Row.drew | apply Row.set | apply Row.new | apply Row.newD | apply Own.alloc | apply Row.alloc | apply Own.ne | apply Row.ne | apply Own.row) | (first | omega | (simp only [LN] at *; omega))); done))) | ((with_reducible apply ldN_row); (focus ((repeat' first | (with_reducible first | assumption | apply Own.set | apply Own.new | apply Own.newD | apply Own.drew | apply Row.drew | apply Row.set | apply Row.new | apply Row.newD | apply Own.alloc | apply Row.alloc | apply Own.ne | apply Row.ne | apply Own.row) | (first | omega | (simp only [LN] at *; omega))); done)); (first | omega | (simp only [LN] at *; omega))) | ((with_reducible apply st_row); (focus ((repeat' first | (with_reducible first | assumption | apply Own.set | apply Own.new | apply Own.newD | apply Own.drew | apply Row.drew | apply Row.set | apply Row.new | apply Row.newD | apply Own.alloc | apply Row.alloc | apply Own.ne | apply Row.ne | apply Own.row) | (first | omega | (simp only [LN] at *; omega))); done)); (first | omega | (simp only [LN] at *; omega)); rfl) | ((with_reducible first | apply ints_at | apply le_andI | apply le_andN | apply ne_andI); (first | omega | (simp only [LN] at *; omega))) | (with_reducible refine ite_of (fun _ => ?_) (fun _ => ?_)))
      refine ⟨old_alloc _ _ _, st43 ⟨_, rfl, Own.newD _ _ _⟩ rfl rfl rfl ?_⟩
      have hX : Own ((w3.drew.alloc (Obj.cells #[Value.int .i64 0, Value.int .i64 0, Value.slice none 0 0] 72)).setRow w3.heap.size #[Value.int .i64 (a : Int), Value.int .i64 (g m a + g m b), Value.slice none 0 0]) w3.heap.size #[Value.int .i64 (a : Int), Value.int .i64 (g m a + g m b), Value.slice none 0 0] := (Own.newD _ _ _).set _
      have hf4 : Fr no w3 ((w3.drew.alloc (Obj.cells #[Value.int .i64 0, Value.int .i64 0, Value.slice none 0 0] 72)).setRow w3.heap.size #[Value.int .i64 (a : Int), Value.int .i64 (g m a + g m b), Value.slice none 0 0]) := (((Fr.refl X.no w3).drew).alloc _).setRow _ _ fun h => by omega
      have hsz4 : w3.heap.size < ((w3.drew.alloc (Obj.cells #[Value.int .i64 0, Value.int .i64 0, Value.slice none 0 0] 72)).setRow w3.heap.size #[Value.int .i64 (a : Int), Value.int .i64 (g m a + g m b), Value.slice none 0 0]).heap.size := by simp
      generalize ((w3.drew.alloc (Obj.cells #[Value.int .i64 0, Value.int .i64 0, Value.slice none 0 0] 72)).setRow w3.heap.size #[Value.int .i64 (a : Int), Value.int .i64 (g m a + g m b), Value.slice none 0 0]) = w4 at *
      obtain ⟨b8, hb8⟩ : ∃ b8, w3.heap.size = b8 := ⟨_, rfl⟩
      rw [hb8] at hX hsz4 hbkl hsz ⊢
      have halb : Alls w4 (w.heap.size + 3) (fun k => k = bk ∨ b8 ≤ k) cs v R := (hal.re (A' := fun k => k = bk ∨ b8 ≤ k) fun k _ k2 k3 k4 => by
        rcases k4 with k4 | k4
        · exact k3 k4
        · omega).fr hf4 fun _ _ _ _ h => h
      clear hal hv
      replace h2 := h2.fr hf4 (fun h => h)
      replace h3 := h3.fr hf4 (fun h => h)
      replace hob := hob.fr hf4 (fun h => h)
      replace hfr := hfr.and hf4
      clear hf4
      refine ⟨fun _ => True, ?_⟩
      (repeat' first | (simp only [RA, MI, S.dst, Nat.reduceAdd, Nat.reduceMul, Nat.reduceEqDiff, ↓reduceIte, reduceCtorEq, ne_eq, Nat.reduceLT, Nat.reduceLeDiff, gt_iff_lt, ge_iff_le, Int.reduceToNat, Nat.reduceSub, c23, x23, ints_ext, ints_set, true_and, ints_size, z48, z3, z72, put72, rep72, put72s, one_cell, one_size, putc_size, szA, drew_size, cells_int, World.size_alloc]) | (first | ((with_reducible apply grp_at1); (first | omega | (simp only [LN] at *; omega))) | ((with_reducible apply grp_at2); (first | omega | (simp only [LN] at *; omega))) | ((with_reducible apply grp_at0); (first | omega | (simp only [LN] at *; omega))) | ((with_reducible apply nat_at); (first | omega | (simp only [LN] at *; omega)))) | ((with_reducible first | apply bound_of | apply wr_i64 | apply wr_u8 | apply wr_u64); (first | omega | (simp only [LN] at *; omega)); (first | omega | (simp only [LN] at *; omega))) | ((with_reducible apply ld_row); (focus ((repeat' first | (with_reducible first | assumption | apply Own.set | apply Own.new | apply Own.newD | apply Own.drew | apply Row.drew | apply Row.set | apply Row.new | apply Row.newD | apply Own.alloc | apply Row.alloc | apply Own.ne | apply Row.ne | apply Own.row) | (first | omega | (simp only [LN] at *; omega))); done))) | ((with_reducible apply ldN_row); (focus ((repeat' first | (with_reducible first | assumption | apply Own.set | apply Own.new | apply Own.newD | apply Own.drew | apply Row.drew | apply Row.set | apply Row.new | apply Row.newD | apply Own.alloc | apply Row.alloc | apply Own.ne | apply Row.ne | apply Own.row) | (first | omega | (simp only [LN] at *; omega))); done)); (first | omega | (simp only [LN] at *; omega))) | ((with_reducible apply st_row); (focus ((repeat' first | (with_reducible first | assumption | apply Own.set | apply Own.new | apply Own.newD | apply Own.drew | apply Row.drew | apply Row.set | apply Row.new | apply Row.newD | apply Own.alloc | apply Row.alloc | apply Own.ne | apply Row.ne | apply Own.row) | (first | omega | (simp only [LN] at *; omega))); done)); (first | omega | (simp only [LN] at *; omega)); rfl) | ((with_reducible first | apply ints_at | apply le_andI | apply le_andN | apply ne_andI); (first | omega | (simp only [LN] at *; omega))) | (with_reducible refine ite_of (fun _ => ?_) (fun _ => ?_)))
      rw [hA0, hbb]
      have nda := (hki.wf.ch a ra.1 ra.2).2.2
      have ndb := (hki.wf.ch b rb.1 rb.2).2.2
      have lta := chain_lt (hki.wf.ch a ra.1 ra.2).2.1
      have ltb := chain_lt (hki.wf.ch b rb.1 rb.2).2.1
      have hdis := hki.wf.dis a b ra.1 rb.1 ra.2 rb.2 hane
      have nda7 := nodup_lt 257 _ nda lta
      have ndb7 := nodup_lt 257 _ ndb ltb
      obtain ⟨ba, capa, resta, ea, ba1, ba2, ba3, rowa⟩ := halb a ma
      refine app_nat (l := []) (k := cs a) (b0 := b8 + 1) (.nil _ _ _) (by rw [drew_size]; omega) (by simp) (by omega) ea rowa.drew ?_
      intro r1 w5 hv1 hf5 hr1
      replace hf5 : Fr X.no w4 w5 := (Fr.refl X.no w4).drew.trans' hf5 fun _ _ h => h.elim
      rw [List.nil_append] at hv1
      have hge1 := hv1.blk_ge
      replace halb := halb.fr hf5 (fun _ _ _ _ h => h)
      replace h2 := h2.fr hf5 (fun h => h)
      replace h3 := h3.fr hf5 (fun h => h)
      replace hob := hob.fr hf5 (fun h => h)
      replace hX := hX.fr hf5 (fun h => h)
      replace hfr := hfr.and hf5
      have hsz5 := hf5.size
      refine ⟨fun q _ hq => hf5.block q hq fun h => h, ?_⟩
      obtain ⟨bb, capb, restb, eb, bb1, bb2, bb3, rowb⟩ := halb b mb
      refine app_nat (l := cs a) (k := cs b) (b0 := b8 + 1) hv1 (by omega) (by omega) (by omega) eb rowb ?_
      intro r2 w6 hv2 hf6 hr2
      have hge2 := hv2.blk_ge
      replace halb := halb.fr hf6 (fun k _ _ k3 k4 => k3 (.inr (by have := hge1 k k4; omega)))
      replace h2 := h2.fr hf6 (fun h => by have := hge1 _ h; omega)
      replace h3 := h3.fr hf6 (fun h => by have := hge1 _ h; omega)
      replace hob := hob.fr hf6 (fun h => by have := hge1 _ h; omega)
      replace hX := hX.fr hf6 (fun h => by have := hge1 _ h; omega)
      replace hfr := hfr.trans' hf6 (fun q hq h => by have := hge1 _ h; omega)
      have hsz6 := hf6.size
      clear hf5 hf6 hr1 hr2 hv1 hge1 rowa rowb ba1 ba2 ba3 bb1 bb2 bb3 ea eb
      refine st_row hX (by simp) (by obtain ⟨_, _, _, e, _⟩ := hv2.row; rw [e]; rfl) ?_
      have eX : (#[Value.int .i64 (a : Int), Value.int .i64 (g m a + g m b), Value.slice none 0 0] : Array Value).setIfInBounds 2 r2 = #[Value.int .i64 (a : Int), Value.int .i64 (g m a + g m b), r2] := rfl
      rw [eX]
      replace hv2 := hv2.fr ((Fr.refl (· = b8) w6).setRow b8 #[Value.int .i64 (a : Int), Value.int .i64 (g m a + g m b), r2] fun _ => rfl) (fun k k1 k2 => by have := hge2 k k1; omega)
      replace halb := halb.fr ((Fr.refl (· = b8) w6).setRow b8 #[Value.int .i64 (a : Int), Value.int .i64 (g m a + g m b), r2] fun _ => rfl) (fun k _ _ k3 k4 => k3 (.inr (by omega)))
      replace h2 := h2.ne #[Value.int .i64 (a : Int), Value.int .i64 (g m a + g m b), r2] (c := b8) (by omega)
      replace h3 := h3.ne #[Value.int .i64 (a : Int), Value.int .i64 (g m a + g m b), r2] (c := b8) (by omega)
      replace hob := hob.ne #[Value.int .i64 (a : Int), Value.int .i64 (g m a + g m b), r2] (c := b8) (by omega)
      replace hX := hX.set #[Value.int .i64 (a : Int), Value.int .i64 (g m a + g m b), r2]
      replace hfr := hfr.setRow b8 #[Value.int .i64 (a : Int), Value.int .i64 (g m a + g m b), r2] (fun h => by have := hfr.size; omega)
      have hsz7 : b8 < (w6.setRow b8 #[Value.int .i64 (a : Int), Value.int .i64 (g m a + g m b), r2]).heap.size := by simp; omega
      generalize (w6.setRow b8 #[Value.int .i64 (a : Int), Value.int .i64 (g m a + g m b), r2]) = w7 at *
      obtain ⟨A, hA⟩ : ∃ A, cs a ++ cs b = A := ⟨_, rfl⟩
      have hAn : A.Nodup := by rw [← hA]; exact List.nodup_append.2 ⟨nda, ndb, fun x hx y hy e => hdis x hx (e ▸ hy)⟩
      have hAm : ∀ x, x ∈ A ↔ x ∈ cs a ∨ x ∈ cs b := fun x => by rw [← hA, List.mem_append]
      have hAl : A.length = (cs a).length + (cs b).length := by rw [← hA, List.length_append]
      have hA7 : ∀ x ∈ A, x < 257 := fun x hx => by
        rcases (hAm x).1 hx with y | y
        · exact lta x y
        · exact ltb x y
      have hA0' : 0 < A.length := by
        obtain ⟨t, ht⟩ := (hki.wf.ch a ra.1 ra.2).1
        rw [hAl, ht]; simp; omega
      rw [hA] at hv2 hk2 hrun2 hstep
      obtain ⟨adr, nr, capr, rfl, hlr, hrr⟩ := hv2.row
      rw [List.length_map, Nat.mul_one] at hlr
      subst hlr
      rcases hrr with ⟨_, hx, _⟩ | ⟨br, restr, hbr, rfl, hcapr, hor⟩
      · exfalso; omega
      have hbrl := hor.lt
      clear hv2 hge2 eX
      (repeat' first | (simp only [RA, MI, S.dst, Nat.reduceAdd, Nat.reduceMul, Nat.reduceEqDiff, ↓reduceIte, reduceCtorEq, ne_eq, Nat.reduceLT, Nat.reduceLeDiff, gt_iff_lt, ge_iff_le, Int.reduceToNat, Nat.reduceSub, c23, x23, ints_ext, ints_set, true_and, ints_size, z48, z3, z72, put72, rep72, put72s, one_cell, one_size, putc_size, szA, drew_size, cells_int, World.size_alloc]) | (first | ((with_reducible apply grp_at1); (first | omega | (simp only [LN] at *; omega))) | ((with_reducible apply grp_at2); (first | omega | (simp only [LN] at *; omega))) | ((with_reducible apply grp_at0); (first | omega | (simp only [LN] at *; omega))) | ((with_reducible apply nat_at); (first | omega | (simp only [LN] at *; omega)))) | ((with_reducible first | apply bound_of | apply wr_i64 | apply wr_u8 | apply wr_u64); (first | omega | (simp only [LN] at *; omega)); (first | omega | (simp only [LN] at *; omega))) | ((with_reducible apply ld_row); (focus ((repeat' first | (with_reducible first | assumption | apply Own.set | apply Own.new | apply Own.newD | apply Own.drew | apply Row.drew | apply Row.set | apply Row.new | apply Row.newD | apply Own.alloc | apply Row.alloc | apply Own.ne | apply Row.ne | apply Own.row) | (first | omega | (simp only [LN] at *; omega))); done))) | ((with_reducible apply ldN_row); (focus ((repeat' first | (with_reducible first | assumption | apply Own.set | apply Own.new | apply Own.newD | apply Own.drew | apply Row.drew | apply Row.set | apply Row.new | apply Row.newD | apply Own.alloc | apply Row.alloc | apply Own.ne | apply Row.ne | apply Own.row) | (first | omega | (simp only [LN] at *; omega))); done)); (first | omega | (simp only [LN] at *; omega))) | ((with_reducible apply st_row); (focus ((repeat' first | (with_reducible first | assumption | apply Own.set | apply Own.new | apply Own.newD | apply Own.drew | apply Row.drew | apply Row.set | apply Row.new | apply Row.newD | apply Own.alloc | apply Row.alloc | apply Own.ne | apply Row.ne | apply Own.row) | (first | omega | (simp only [LN] at *; omega))); done)); (first | omega | (simp only [LN] at *; omega)); rfl) | ((with_reducible first | apply ints_at | apply le_andI | apply le_andN | apply ne_andI); (first | omega | (simp only [LN] at *; omega))) | (with_reducible refine ite_of (fun _ => ?_) (fun _ => ?_)))
      refine loop_of (σ := Nat × List Int) (fun t => [(2, .pointer (some ⟨w.heap.size + 1, 0, none⟩)), (3, .pointer (some ⟨w.heap.size + 2, 0, none⟩)), (4, .slice (some ⟨bk, 0, none⟩) R.length cap), (6, .int .i64 (pa : Int)), (7, .int .i64 (pb : Int)), (8, .pointer (some ⟨b8, 0, none⟩)), (9, .int .i64 (t.1 : Int))])
        (fun t w' => t.1 ≤ A.length ∧ t.2.length = 257 ∧ (∀ x, x < 257 → g t.2 x = g m (257 + x) + if x ∈ A.take t.1 then 1 else 0) ∧ Own w' (w.heap.size + 2) (ints .i64 t.2) ∧ Own w' (w.heap.size + 1) (ints .i64 (List.replicate 257 0)) ∧
          Own w' bk (grp m v R ++ rest).toArray ∧ Row w' b8 #[Value.int .i64 (a : Int), Value.int .i64 (g m a + g m b), Value.slice (some ⟨br, 0, none⟩) A.length capr] ∧ Own w' br ((A.map fun (x : Nat) => Value.int .i64 (x : Int)) ++ restr).toArray ∧
          Alls w' (w.heap.size + 3) (fun k => k = bk ∨ b8 ≤ k) cs v R ∧ Fr no w w' ∧ br < w'.heap.size)
        (fun t => A.length - t.1) (0, O) rfl ⟨by simp, hO, fun x hx => by rw [gO x hx]; simp, h3, h2, hob, hX.row, hor, halb, hfr, hbrl⟩ ?_
      clear h3 h2 hob hX hor halb hfr hbrl hsz7 hO gO
      rintro ⟨j, O⟩ w' ⟨hj, hO, gO, h3, h2, hob, hX, hor, halb, hfr, hbrl⟩
      dsimp only at *
      have hx : j < A.length → rAt A j < 257 ∧ g O (rAt A j) ≤ 300 ∧ 0 ≤ g O (rAt A j) := fun hj => by
        have h1 := hA7 _ (rAt_mem hj)
        have h2 := hki.wf.le _ h1
        refine ⟨h1, ?_, ?_⟩ <;> rw [gO _ h1] <;> split <;> omega
      (repeat' first | (simp only [RA, MI, S.dst, Nat.reduceAdd, Nat.reduceMul, Nat.reduceEqDiff, ↓reduceIte, reduceCtorEq, ne_eq, Nat.reduceLT, Nat.reduceLeDiff, gt_iff_lt, ge_iff_le, Int.reduceToNat, Nat.reduceSub, c23, x23, ints_ext, ints_set, true_and, ints_size, z48, z3, z72, put72, rep72, put72s, one_cell, one_size, putc_size, szA, drew_size, cells_int, World.size_alloc]) | (first | ((with_reducible apply grp_at1); (first | omega | (simp only [LN] at *; omega))) | ((with_reducible apply grp_at2); (first | omega | (simp only [LN] at *; omega))) | ((with_reducible apply grp_at0); (first | omega | (simp only [LN] at *; omega))) | ((with_reducible apply nat_at); (first | omega | (simp only [LN] at *; omega)))) | ((with_reducible first | apply bound_of | apply wr_i64 | apply wr_u8 | apply wr_u64); (first | omega | (simp only [LN] at *; omega)); (first | omega | (simp only [LN] at *; omega))) | ((with_reducible apply ld_row); (focus ((repeat' first | (with_reducible first | assumption | apply Own.set | apply Own.new | apply Own.newD | apply Own.drew | apply Row.drew | apply Row.set | apply Row.new | apply Row.newD | apply Own.alloc | apply Row.alloc | apply Own.ne | apply Row.ne | apply Own.row) | (first | omega | (simp only [LN] at *; omega))); done))) | ((with_reducible apply ldN_row); (focus ((repeat' first | (with_reducible first | assumption | apply Own.set | apply Own.new | apply Own.newD | apply Own.drew | apply Row.drew | apply Row.set | apply Row.new | apply Row.newD | apply Own.alloc | apply Row.alloc | apply Own.ne | apply Row.ne | apply Own.row) | (first | omega | (simp only [LN] at *; omega))); done)); (first | omega | (simp only [LN] at *; omega))) | ((with_reducible apply st_row); (focus ((repeat' first | (with_reducible first | assumption | apply Own.set | apply Own.new | apply Own.newD | apply Own.drew | apply Row.drew | apply Row.set | apply Row.new | apply Row.newD | apply Own.alloc | apply Row.alloc | apply Own.ne | apply Row.ne | apply Own.row) | (first | omega | (simp only [LN] at *; omega))); done)); (first | omega | (simp only [LN] at *; omega)); rfl) | ((with_reducible first | apply ints_at | apply le_andI | apply le_andN | apply ne_andI); (first | omega | (simp only [LN] at *; omega))) | (with_reducible refine ite_of (fun _ => ?_) (fun _ => ?_)))
      · rename_i hlt
        obtain ⟨hx1, hx2, hx3⟩ := hx (by omega)
        (repeat' first | (simp only [RA, MI, S.dst, Nat.reduceAdd, Nat.reduceMul, Nat.reduceEqDiff, ↓reduceIte, reduceCtorEq, ne_eq, Nat.reduceLT, Nat.reduceLeDiff, gt_iff_lt, ge_iff_le, Int.reduceToNat, Nat.reduceSub, c23, x23, ints_ext, ints_set, true_and, ints_size, z48, z3, z72, put72, rep72, put72s, one_cell, one_size, putc_size, szA, drew_size, cells_int, World.size_alloc]) | (first | ((with_reducible apply grp_at1); (first | omega | (simp only [LN] at *; omega))) | ((with_reducible apply grp_at2); (first | omega | (simp only [LN] at *; omega))) | ((with_reducible apply grp_at0); (first | omega | (simp only [LN] at *; omega))) | ((with_reducible apply nat_at); (first | omega | (simp only [LN] at *; omega)))) | ((with_reducible first | apply bound_of | apply wr_i64 | apply wr_u8 | apply wr_u64); (first | omega | (simp only [LN] at *; omega)); (first | omega | (simp only [LN] at *; omega))) | ((with_reducible apply ld_row); (focus ((repeat' first | (with_reducible first | assumption | apply Own.set | apply Own.new | apply Own.newD | apply Own.drew | apply Row.drew | apply Row.set | apply Row.new | apply Row.newD | apply Own.alloc | apply Row.alloc | apply Own.ne | apply Row.ne | apply Own.row) | (first | omega | (simp only [LN] at *; omega))); done))) | ((with_reducible apply ldN_row); (focus ((repeat' first | (with_reducible first | assumption | apply Own.set | apply Own.new | apply Own.newD | apply Own.drew | apply Row.drew | apply Row.set | apply Row.new | apply Row.newD | apply Own.alloc | apply Row.alloc | apply Own.ne | apply Row.ne | apply Own.row) | (first | omega | (simp only [LN] at *; omega))); done)); (first | omega | (simp only [LN] at *; omega))) | ((with_reducible apply st_row); (focus ((repeat' first | (with_reducible first | assumption | apply Own.set | apply Own.new | apply Own.newD | apply Own.drew | apply Row.drew | apply Row.set | apply Row.new | apply Row.newD | apply Own.alloc | apply Row.alloc | apply Own.ne | apply Row.ne | apply Own.row) | (first | omega | (simp only [LN] at *; omega))); done)); (first | omega | (simp only [LN] at *; omega)); rfl) | ((with_reducible first | apply ints_at | apply le_andI | apply le_andN | apply ne_andI); (first | omega | (simp only [LN] at *; omega))) | (with_reducible refine ite_of (fun _ => ?_) (fun _ => ?_)))
        refine ⟨(j + 1, O.set (rAt A j) (g O (rAt A j) + 1)), ?_, ⟨by dsimp only; omega, by simp [hO], fun x hx => ?_, h3.drew.set _, h2.drew.ne _ (by omega), hob.drew.ne _ (by omega), hX.drew.ne _ (by omega), hor.drew.ne _ (by omega), halb.fr ((Fr.refl (· = w.heap.size + 2) w').drew.setRow (w.heap.size + 2) _ fun _ => rfl) (fun k k1 _ _ => by omega),
          hfr.drew.setRow _ _ (fun h => by omega), by simpa using hbrl⟩, by dsimp only; omega⟩
        · (first | rfl | (simp only [List.cons.injEq, Prod.mk.injEq, Value.int.injEq, Value.bool.injEq, true_and, and_true, List.cons_append, List.nil_append]; done) | (simp only [List.cons.injEq, Prod.mk.injEq, Value.int.injEq, Value.bool.injEq, true_and, and_true, List.cons_append, List.nil_append]; omega))
        · dsimp only
          rw [g_set _ _ _ _ (by omega)]
          by_cases e : rAt A j = x
          · rw [if_pos e, gO _ hx1, e, if_neg (by rw [← e]; exact take_not hAn (by omega)), if_pos ((take_mem hAn (by omega)).2 (.inr e.symm))]; omega
          · rw [if_neg e, gO x hx]
            congr 1
            by_cases h : x ∈ A.take j
            · rw [if_pos h, if_pos ((take_mem hAn (by omega)).2 (.inl h))]
            · rw [if_neg h, if_neg fun h2 => by
                rcases (take_mem hAn (by omega)).1 h2 with y | y
                · exact h y
                · exact e y.symm]
      · rename_i hlt
        obtain rfl : j = A.length := by omega
        rw [List.take_length] at gO
        have gO2 : ∀ x, x < 257 → g O x = g (mrg m a b (cs a) (cs b)) (257 + x) := fun x hx => by
          rw [gO x hx, hml x hx]
          by_cases h1 : x ∈ cs a
          · rw [if_pos ((hAm x).2 (.inl h1)), if_pos h1, if_neg (hdis x h1)]; omega
          · by_cases h2 : x ∈ cs b
            · rw [if_pos ((hAm x).2 (.inr h2)), if_neg h1, if_pos h2]; omega
            · rw [if_neg (fun h => by rcases (hAm x).1 h with y | y; exact h1 y; exact h2 y), if_neg h1, if_neg h2]; omega
        have hma : g (mrg m a b (cs a) (cs b)) a = g m a + g m b := by rw [hmf a ra.1, if_neg hane, if_pos rfl]
        have hmk : ∀ k, k < 257 → k ≠ a → k ≠ b → g (mrg m a b (cs a) (cs b)) k = g m k := fun k hk x y => by rw [hmf k hk, if_neg y, if_neg x]
        clear hx gO hlt hml hmf
        generalize mrg m a b (cs a) (cs b) = m' at *
        have hbase : br + 1 ≤ w'.heap.size := by omega
        (repeat' first | (simp only [RA, MI, S.dst, Nat.reduceAdd, Nat.reduceMul, Nat.reduceEqDiff, ↓reduceIte, reduceCtorEq, ne_eq, Nat.reduceLT, Nat.reduceLeDiff, gt_iff_lt, ge_iff_le, Int.reduceToNat, Nat.reduceSub, c23, x23, ints_ext, ints_set, true_and, ints_size, z48, z3, z72, put72, rep72, put72s, one_cell, one_size, putc_size, szA, drew_size, cells_int, World.size_alloc]) | (first | ((with_reducible apply grp_at1); (first | omega | (simp only [LN] at *; omega))) | ((with_reducible apply grp_at2); (first | omega | (simp only [LN] at *; omega))) | ((with_reducible apply grp_at0); (first | omega | (simp only [LN] at *; omega))) | ((with_reducible apply nat_at); (first | omega | (simp only [LN] at *; omega)))) | ((with_reducible first | apply bound_of | apply wr_i64 | apply wr_u8 | apply wr_u64); (first | omega | (simp only [LN] at *; omega)); (first | omega | (simp only [LN] at *; omega))) | ((with_reducible apply ld_row); (focus ((repeat' first | (with_reducible first | assumption | apply Own.set | apply Own.new | apply Own.newD | apply Own.drew | apply Row.drew | apply Row.set | apply Row.new | apply Row.newD | apply Own.alloc | apply Row.alloc | apply Own.ne | apply Row.ne | apply Own.row) | (first | omega | (simp only [LN] at *; omega))); done))) | ((with_reducible apply ldN_row); (focus ((repeat' first | (with_reducible first | assumption | apply Own.set | apply Own.new | apply Own.newD | apply Own.drew | apply Row.drew | apply Row.set | apply Row.new | apply Row.newD | apply Own.alloc | apply Row.alloc | apply Own.ne | apply Row.ne | apply Own.row) | (first | omega | (simp only [LN] at *; omega))); done)); (first | omega | (simp only [LN] at *; omega))) | ((with_reducible apply st_row); (focus ((repeat' first | (with_reducible first | assumption | apply Own.set | apply Own.new | apply Own.newD | apply Own.drew | apply Row.drew | apply Row.set | apply Row.new | apply Row.newD | apply Own.alloc | apply Row.alloc | apply Own.ne | apply Row.ne | apply Own.row) | (first | omega | (simp only [LN] at *; omega))); done)); (first | omega | (simp only [LN] at *; omega)); rfl) | ((with_reducible first | apply ints_at | apply le_andI | apply le_andN | apply ne_andI); (first | omega | (simp only [LN] at *; omega))) | (with_reducible refine ite_of (fun _ => ?_) (fun _ => ?_)))
        refine loop_of (σ := Nat × Value) (fun t => [(2, .pointer (some ⟨w.heap.size + 1, 0, none⟩)), (3, .pointer (some ⟨w.heap.size + 2, 0, none⟩)), (4, .slice (some ⟨bk, 0, none⟩) R.length cap), (6, .int .i64 (pa : Int)), (7, .int .i64 (pb : Int)), (8, .pointer (some ⟨b8, 0, none⟩)), (10, t.2), (11, .int .i64 (t.1 : Int))])
          (fun t w2 => t.1 ≤ R.length ∧ Vec w2 t.2 3 (grp m' v (keepR R pa pb t.1)) (w.heap.size + 3) ∧ (∀ k, blk t.2 k → w'.heap.size ≤ k ∧ k < w2.heap.size) ∧ Alls w2 (w.heap.size + 3) (fun k => w'.heap.size ≤ k ∨ b8 ≤ k ∧ k ≠ br) cs v R ∧ Own w2 (w.heap.size + 2) (ints .i64 O) ∧ Own w2 (w.heap.size + 1) (ints .i64 (List.replicate 257 0)) ∧
            Own w2 bk (grp m v R ++ rest).toArray ∧ Row w2 b8 #[Value.int .i64 (a : Int), Value.int .i64 (g m a + g m b), Value.slice (some ⟨br, 0, none⟩) A.length capr] ∧ Own w2 br ((A.map fun (x : Nat) => Value.int .i64 (x : Int)) ++ restr).toArray ∧ Fr no w w2 ∧ w'.heap.size ≤ w2.heap.size)
          (fun t => R.length - t.1) (0, .slice none 0 0) rfl ⟨by simp, .nil _ _ _, (fun k h => h.elim), halb.re (fun k _ k2 k3 k4 => by rcases k4 with k4 | k4; omega; exact k3 (.inr k4.1)), h3, h2, hob, hX, hor, hfr, Nat.le_refl _⟩ ?_
        clear h3 h2 hob hX hor halb hfr
        rintro ⟨i, val2⟩ w8 ⟨hi, hv, hvb, halb, h3, h2, hob, hX, hor, hfr, hsz8⟩
        dsimp only at *
        have hsk : ∀ n, n ≠ pa ∧ n ≠ pb → keepR R pa pb (n + 1) = keepR R pa pb n ++ [rAt R n] := fun n h => by simp only [keepR]; rw [if_pos h]
        have hsn : ∀ n, ¬ (n ≠ pa ∧ n ≠ pb) → keepR R pa pb (n + 1) = keepR R pa pb n := fun n h => by simp only [keepR]; rw [if_neg h]
        have hkl := keepR_len (R := R) hpab
        (repeat' first | (simp only [RA, MI, S.dst, Nat.reduceAdd, Nat.reduceMul, Nat.reduceEqDiff, ↓reduceIte, reduceCtorEq, ne_eq, Nat.reduceLT, Nat.reduceLeDiff, gt_iff_lt, ge_iff_le, Int.reduceToNat, Nat.reduceSub, c23, x23, ints_ext, ints_set, true_and, ints_size, z48, z3, z72, put72, rep72, put72s, one_cell, one_size, putc_size, szA, drew_size, cells_int, World.size_alloc]) | (first | ((with_reducible apply grp_at1); (first | omega | (simp only [LN] at *; omega))) | ((with_reducible apply grp_at2); (first | omega | (simp only [LN] at *; omega))) | ((with_reducible apply grp_at0); (first | omega | (simp only [LN] at *; omega))) | ((with_reducible apply nat_at); (first | omega | (simp only [LN] at *; omega)))) | ((with_reducible first | apply bound_of | apply wr_i64 | apply wr_u8 | apply wr_u64); (first | omega | (simp only [LN] at *; omega)); (first | omega | (simp only [LN] at *; omega))) | ((with_reducible apply ld_row); (focus ((repeat' first | (with_reducible first | assumption | apply Own.set | apply Own.new | apply Own.newD | apply Own.drew | apply Row.drew | apply Row.set | apply Row.new | apply Row.newD | apply Own.alloc | apply Row.alloc | apply Own.ne | apply Row.ne | apply Own.row) | (first | omega | (simp only [LN] at *; omega))); done))) | ((with_reducible apply ldN_row); (focus ((repeat' first | (with_reducible first | assumption | apply Own.set | apply Own.new | apply Own.newD | apply Own.drew | apply Row.drew | apply Row.set | apply Row.new | apply Row.newD | apply Own.alloc | apply Row.alloc | apply Own.ne | apply Row.ne | apply Own.row) | (first | omega | (simp only [LN] at *; omega))); done)); (first | omega | (simp only [LN] at *; omega))) | ((with_reducible apply st_row); (focus ((repeat' first | (with_reducible first | assumption | apply Own.set | apply Own.new | apply Own.newD | apply Own.drew | apply Row.drew | apply Row.set | apply Row.new | apply Row.newD | apply Own.alloc | apply Row.alloc | apply Own.ne | apply Row.ne | apply Own.row) | (first | omega | (simp only [LN] at *; omega))); done)); (first | omega | (simp only [LN] at *; omega)); rfl) | ((with_reducible first | apply ints_at | apply le_andI | apply le_andN | apply ne_andI); (first | omega | (simp only [LN] at *; omega))) | (with_reducible refine ite_of (fun _ => ?_) (fun _ => ?_)))
        · rename_i hlt hia hib
          have mi := rAt_mem (R := R) (p := i) (by omega)
          have mi7 := ((hR.mem _).1 mi).1
          have ina : rAt R i ≠ a := fun e => by have := rAt_inj hR.nod (by omega) (by omega) (e.trans hA0.symm); omega
          have inb : rAt R i ≠ b := fun e => by have := rAt_inj hR.nod (by omega) (by omega) (e.trans hbb.symm); omega
          refine grp_ld3 hob.row (by omega) ?_
          refine ⟨rfl, ?_⟩
          rw [put72s, ← hmk _ mi7 ina inb]
          have hX2 : Row (w8.alloc (Obj.cells #[Value.int .i64 (rAt R i : Int), Value.int .i64 (g m' (rAt R i)), v (rAt R i)] 72)) w8.heap.size #[Value.int .i64 (rAt R i : Int), Value.int .i64 (g m' (rAt R i)), v (rAt R i)] := by (focus ((repeat' first | (with_reducible first | assumption | apply Own.set | apply Own.new | apply Own.newD | apply Own.drew | apply Row.drew | apply Row.set | apply Row.new | apply Row.newD | apply Own.alloc | apply Row.alloc | apply Own.ne | apply Row.ne | apply Own.row) | (first | omega | (simp only [LN] at *; omega))); done))
          have hf9 : Fr X.no w8 (w8.alloc (Obj.cells #[Value.int .i64 (rAt R i : Int), Value.int .i64 (g m' (rAt R i)), v (rAt R i)] 72)) := by (focus ((repeat' first | (with_reducible first | assumption | apply Fr.drew | apply Fr.alloc | apply Fr.setRow | exact Fr.refl _ _) | (intro _; rfl) | (intro hb; simp only [X.no] at *; omega)); done))
          generalize (w8.alloc (Obj.cells #[Value.int .i64 (rAt R i : Int), Value.int .i64 (g m' (rAt R i)), v (rAt R i)] 72)) = w9 at *
          replace halb := halb.fr hf9 (fun _ _ _ _ h => h)
          have halv : Alls w9 (w.heap.size + 3) (blk val2) cs v R := halb.re fun k _ _ k3 k4 => k3 (.inl (hvb k k4).1)
          refine app_grp (cs := cs) (i := rAt R i) (hv.fr hf9 fun _ _ h => h) (by have := hf9.size; omega) (fun k hk => halv k (by
            obtain ⟨p, p1, _, _, p4⟩ := (keepR_mem _).1 hk
            rw [← p4]; exact rAt_mem (by omega))) (halv _ mi) (fun h => by
            obtain ⟨p, p1, _, _, p4⟩ := (keepR_mem _).1 h
            have := rAt_inj hR.nod (by omega) (by omega) p4; omega) (by have := hkl i; omega) hX2 ?_
          intro r w10 hv10 _ hf10 hr10
          rw [updv_self, ← hsk i (by omega)] at hv10
          have hfa := hf9.size
          have hfb := hf10.size
          (repeat' first | (simp only [RA, MI, S.dst, Nat.reduceAdd, Nat.reduceMul, Nat.reduceEqDiff, ↓reduceIte, reduceCtorEq, ne_eq, Nat.reduceLT, Nat.reduceLeDiff, gt_iff_lt, ge_iff_le, Int.reduceToNat, Nat.reduceSub, c23, x23, ints_ext, ints_set, true_and, ints_size, z48, z3, z72, put72, rep72, put72s, one_cell, one_size, putc_size, szA, drew_size, cells_int, World.size_alloc]) | (first | ((with_reducible apply grp_at1); (first | omega | (simp only [LN] at *; omega))) | ((with_reducible apply grp_at2); (first | omega | (simp only [LN] at *; omega))) | ((with_reducible apply grp_at0); (first | omega | (simp only [LN] at *; omega))) | ((with_reducible apply nat_at); (first | omega | (simp only [LN] at *; omega)))) | ((with_reducible first | apply bound_of | apply wr_i64 | apply wr_u8 | apply wr_u64); (first | omega | (simp only [LN] at *; omega)); (first | omega | (simp only [LN] at *; omega))) | ((with_reducible apply ld_row); (focus ((repeat' first | (with_reducible first | assumption | apply Own.set | apply Own.new | apply Own.newD | apply Own.drew | apply Row.drew | apply Row.set | apply Row.new | apply Row.newD | apply Own.alloc | apply Row.alloc | apply Own.ne | apply Row.ne | apply Own.row) | (first | omega | (simp only [LN] at *; omega))); done))) | ((with_reducible apply ldN_row); (focus ((repeat' first | (with_reducible first | assumption | apply Own.set | apply Own.new | apply Own.newD | apply Own.drew | apply Row.drew | apply Row.set | apply Row.new | apply Row.newD | apply Own.alloc | apply Row.alloc | apply Own.ne | apply Row.ne | apply Own.row) | (first | omega | (simp only [LN] at *; omega))); done)); (first | omega | (simp only [LN] at *; omega))) | ((with_reducible apply st_row); (focus ((repeat' first | (with_reducible first | assumption | apply Own.set | apply Own.new | apply Own.newD | apply Own.drew | apply Row.drew | apply Row.set | apply Row.new | apply Row.newD | apply Own.alloc | apply Row.alloc | apply Own.ne | apply Row.ne | apply Own.row) | (first | omega | (simp only [LN] at *; omega))); done)); (first | omega | (simp only [LN] at *; omega)); rfl) | ((with_reducible first | apply ints_at | apply le_andI | apply le_andN | apply ne_andI); (first | omega | (simp only [LN] at *; omega))) | (with_reducible refine ite_of (fun _ => ?_) (fun _ => ?_)))
          refine ⟨(i + 1, r), ?_, ⟨by dsimp only; omega, hv10, fun k hk => ?_, halb.fr hf10 (fun k _ _ k3 k4 => k3 (.inl (hvb k k4).1)), (h3.fr hf9 fun h => h).fr hf10 (fun h => by have := hvb _ h; omega), (h2.fr hf9 fun h => h).fr hf10 (fun h => by have := hvb _ h; omega),
            (hob.fr hf9 fun h => h).fr hf10 (fun h => by have := hvb _ h; omega), (hX.fr hf9 fun h => h).fr hf10 (fun h => by have := hvb _ h; omega), (hor.fr hf9 fun h => h).fr hf10 (fun h => by have := hvb _ h; omega), (hfr.and hf9).trans' hf10 (fun q hq h => by have := hvb _ h; omega), by omega⟩, by dsimp only; omega⟩
          · (first | rfl | (simp only [List.cons.injEq, Prod.mk.injEq, Value.int.injEq, Value.bool.injEq, true_and, and_true, List.cons_append, List.nil_append]; done) | (simp only [List.cons.injEq, Prod.mk.injEq, Value.int.injEq, Value.bool.injEq, true_and, and_true, List.cons_append, List.nil_append]; omega))
          · have := hv10.blk_lt k hk
            rcases hr10 k hk with y | y
            · have := hvb k y; omega
            · omega
        · rename_i hlt hia hib
          refine ⟨(i + 1, val2), ?_, ⟨by dsimp only; omega, by dsimp only; rw [hsn i (by omega)]; exact hv, hvb, halb, h3, h2, hob, hX, hor, hfr, hsz8⟩, by dsimp only; omega⟩
          (first | rfl | (simp only [List.cons.injEq, Prod.mk.injEq, Value.int.injEq, Value.bool.injEq, true_and, and_true, List.cons_append, List.nil_append]; done) | (simp only [List.cons.injEq, Prod.mk.injEq, Value.int.injEq, Value.bool.injEq, true_and, and_true, List.cons_append, List.nil_append]; omega))
        · rename_i hlt hia
          refine ⟨(i + 1, val2), ?_, ⟨by dsimp only; omega, by dsimp only; rw [hsn i (by omega)]; exact hv, hvb, halb, h3, h2, hob, hX, hor, hfr, hsz8⟩, by dsimp only; omega⟩
          (first | rfl | (simp only [List.cons.injEq, Prod.mk.injEq, Value.int.injEq, Value.bool.injEq, true_and, and_true, List.cons_append, List.nil_append]; done) | (simp only [List.cons.injEq, Prod.mk.injEq, Value.int.injEq, Value.bool.injEq, true_and, and_true, List.cons_append, List.nil_append]; omega))
        · rename_i hlt
          obtain rfl : i = R.length := by omega
          refine ldN_all hX rfl ?_
          refine ⟨rfl, ?_⟩
          rw [put72s, ← hma]
          rw [← hma] at hX
          have hX2 : Row (w8.alloc (Obj.cells #[Value.int .i64 (a : Int), Value.int .i64 (g m' a), Value.slice (some ⟨br, 0, none⟩) A.length capr] 72)) w8.heap.size #[Value.int .i64 (a : Int), Value.int .i64 (g m' a), Value.slice (some ⟨br, 0, none⟩) A.length capr] := by (focus ((repeat' first | (with_reducible first | assumption | apply Own.set | apply Own.new | apply Own.newD | apply Own.drew | apply Row.drew | apply Row.set | apply Row.new | apply Row.newD | apply Own.alloc | apply Row.alloc | apply Own.ne | apply Row.ne | apply Own.row) | (first | omega | (simp only [LN] at *; omega))); done))
          have hf9 : Fr X.no w8 (w8.alloc (Obj.cells #[Value.int .i64 (a : Int), Value.int .i64 (g m' a), Value.slice (some ⟨br, 0, none⟩) A.length capr] 72)) := by (focus ((repeat' first | (with_reducible first | assumption | apply Fr.drew | apply Fr.alloc | apply Fr.setRow | exact Fr.refl _ _) | (intro _; rfl) | (intro hb; simp only [X.no] at *; omega)); done))
          generalize (w8.alloc (Obj.cells #[Value.int .i64 (a : Int), Value.int .i64 (g m' a), Value.slice (some ⟨br, 0, none⟩) A.length capr] 72)) = w9 at *
          have halv : Alls w9 (w.heap.size + 3) (blk val2) cs v R := (halb.fr hf9 (fun _ _ _ _ h => h)).re fun k _ _ k3 k4 => k3 (.inl (hvb k k4).1)
          have hnR : a ∉ keepR R pa pb R.length := fun h => by
            obtain ⟨p, p1, p2, _, p4⟩ := (keepR_mem _).1 h
            exact p2 (rAt_inj hR.nod p1 (by omega) (p4.trans hA0.symm))
          have hfa := hf9.size
          refine app_grp (cs := fun i => if i = a then A else cs i) (i := a) (s := Value.slice (some ⟨br, 0, none⟩) A.length capr) (hv.fr hf9 fun _ _ h => h) (by omega) (fun k hk => ?_) ?_ hnR (by have := hkl R.length; omega) hX2 ?_
          · have ek : k ≠ a := fun e => hnR (e ▸ hk)
            (try dsimp only)
            rw [if_neg ek]
            obtain ⟨p, p1, _, _, p4⟩ := (keepR_mem _).1 hk
            exact halv k (by rw [← p4]; exact rAt_mem p1)
          · (try dsimp only)
            rw [if_pos rfl]
            exact ⟨br, capr, restr, rfl, by omega, by omega, fun h => by have := hvb _ h; omega, (hor.fr hf9 fun h => h).row⟩
          intro r w10 hv10 hal10 hf10 hr10
          have hfb := hf10.size
          (repeat' first | (simp only [RA, MI, S.dst, Nat.reduceAdd, Nat.reduceMul, Nat.reduceEqDiff, ↓reduceIte, reduceCtorEq, ne_eq, Nat.reduceLT, Nat.reduceLeDiff, gt_iff_lt, ge_iff_le, Int.reduceToNat, Nat.reduceSub, c23, x23, ints_ext, ints_set, true_and, ints_size, z48, z3, z72, put72, rep72, put72s, one_cell, one_size, putc_size, szA, drew_size, cells_int, World.size_alloc]) | (first | ((with_reducible apply grp_at1); (first | omega | (simp only [LN] at *; omega))) | ((with_reducible apply grp_at2); (first | omega | (simp only [LN] at *; omega))) | ((with_reducible apply grp_at0); (first | omega | (simp only [LN] at *; omega))) | ((with_reducible apply nat_at); (first | omega | (simp only [LN] at *; omega)))) | ((with_reducible first | apply bound_of | apply wr_i64 | apply wr_u8 | apply wr_u64); (first | omega | (simp only [LN] at *; omega)); (first | omega | (simp only [LN] at *; omega))) | ((with_reducible apply ld_row); (focus ((repeat' first | (with_reducible first | assumption | apply Own.set | apply Own.new | apply Own.newD | apply Own.drew | apply Row.drew | apply Row.set | apply Row.new | apply Row.newD | apply Own.alloc | apply Row.alloc | apply Own.ne | apply Row.ne | apply Own.row) | (first | omega | (simp only [LN] at *; omega))); done))) | ((with_reducible apply ldN_row); (focus ((repeat' first | (with_reducible first | assumption | apply Own.set | apply Own.new | apply Own.newD | apply Own.drew | apply Row.drew | apply Row.set | apply Row.new | apply Row.newD | apply Own.alloc | apply Row.alloc | apply Own.ne | apply Row.ne | apply Own.row) | (first | omega | (simp only [LN] at *; omega))); done)); (first | omega | (simp only [LN] at *; omega))) | ((with_reducible apply st_row); (focus ((repeat' first | (with_reducible first | assumption | apply Own.set | apply Own.new | apply Own.newD | apply Own.drew | apply Row.drew | apply Row.set | apply Row.new | apply Row.newD | apply Own.alloc | apply Row.alloc | apply Own.ne | apply Row.ne | apply Own.row) | (first | omega | (simp only [LN] at *; omega))); done)); (first | omega | (simp only [LN] at *; omega)); rfl) | ((with_reducible first | apply ints_at | apply le_andI | apply le_andN | apply ne_andI); (first | omega | (simp only [LN] at *; omega))) | (with_reducible refine ite_of (fun _ => ?_) (fun _ => ?_)))
          refine ⟨(m', fun i => if i = a then A else cs i, keepR R pa pb R.length ++ [a], updv v a (Value.slice (some ⟨br, 0, none⟩) A.length capr), r, O), ?_, ⟨hk2, hrun2, hRs, hv10, hal10, (h2.fr hf9 fun h => h).fr hf10 (fun h => by have := hvb _ h; omega), (h3.fr hf9 fun h => h).fr hf10 (fun h => by have := hvb _ h; omega), hO, gO2,
            (hfr.and hf9).trans' hf10 (fun q hq h => by have := hvb _ h; omega), by omega⟩, ?_⟩
          · (first | rfl | (simp only [List.cons.injEq, Prod.mk.injEq, Value.int.injEq, Value.bool.injEq, true_and, and_true, List.cons_append, List.nil_append]; done) | (simp only [List.cons.injEq, Prod.mk.injEq, Value.int.injEq, Value.bool.injEq, true_and, and_true, List.cons_append, List.nil_append]; omega))
          · dsimp only
            have := hkl R.length
            rw [if_pos (by omega), if_pos (by omega)] at this
            rw [List.length_append, List.length_singleton]; omega
    · rename_i hR1
      have hnone : stepT (m, cs) = none := by
        obtain ⟨p, hp⟩ : ∃ p, leastTo m (-1) 257 = p := ⟨_, rfl⟩
        obtain ⟨q, hq⟩ : ∃ q, leastTo m p 257 = q := ⟨_, rfl⟩
        rcases Int.lt_or_le q 0 with hb | hb
        · exact stepT_none hp hq hb
        · exfalso
          obtain ⟨a, b, _, _, ha, hb', hab, pa, pb, _⟩ := stepT_some hki.wf hp hq hb
          obtain ⟨x, x1, x2⟩ := mem_rAt ((hR.mem a).2 ⟨ha, pa⟩)
          obtain ⟨y, y1, y2⟩ := mem_rAt ((hR.mem b).2 ⟨hb', pb⟩)
          have : x = y := by omega
          exact hab (by rw [← x2, ← y2, this])
      rw [runT_none hnone] at hrun
      have hmt : m = tree f := hrun
      have hOt : O = ((tree f).take 514).drop 257 := by
        have hl2 : (((tree f).take 514).drop 257).length = 257 := by
          rw [List.length_drop, List.length_take, ← hmt, hki.wf.len]; rfl
        apply List.ext_getElem?
        intro i
        rcases Nat.lt_or_ge i 257 with hi | hi
        · have e1 := gO i hi
          rw [hmt] at e1
          have e2 : g (((tree f).take 514).drop 257) i = g (tree f) (257 + i) := g_take _ _ _ _ (by omega)
          rw [← e2] at e1
          have h1 : O[i]? = some (g O i) := by simp [g, List.getD_eq_getElem?_getD, List.getElem?_eq_getElem (by omega : i < O.length)]
          have h2 : (((tree f).take 514).drop 257)[i]? = some (g (((tree f).take 514).drop 257) i) := by
            unfold g; rw [List.getD_eq_getElem?_getD, List.getElem?_eq_getElem (by omega)]; rfl
          rw [h1, h2, e1]
        · rw [List.getElem?_eq_none (by omega), List.getElem?_eq_none (by omega)]
      have e257 : O.take 257 = O := List.take_of_length_le (by omega)
      rw [e257]
      refine ⟨hO, stN_full h2 (by rw [hO, List.length_replicate]) (ldN_ints (Row.set _ h2) hO ?_)⟩
      rw [← hOt]
      exact ⟨rfl, hfr.setRow _ _ fun h => by omega⟩
end Go.Proofs.Ytomckpllbihikaa
