/-
  The engine, part 2: what an operation asks ('opVC') is enough for the code's operation that it was read of. Conditions: none.
-/
import Derived.Test.YtgibicifflfpfaaDoorX1
import Derived.Laws.Rows
import Derived.Laws.CopyRow
import Derived.Laws.Tables
import Derived.DeepKeys
import Derived.Laws.StructEq
import Derived.WideLaws
import Derived.Lib.OthersKept
import Derived.FollowTie
set_option autoImplicit false
namespace Go.Proofs.YtgibicifflfpfaaDoor
namespace X

theorem wp_val {P : Program} {o : Oper} {a : Act} {w : World} {next : Act → World → Prop} {Q : Exit → Act → World → Prop} {v : Value} {w' : World}
    (hr : (execOp a.eval o).run P w = .ok (.value v) w') (hn : next (a.put o.dst v) w') : o.wp P a w next Q := by
  unfold Oper.wp; rw [hr]; exact hn
theorem wp_unit {P : Program} {o : Oper} {a : Act} {w : World} {next : Act → World → Prop} {Q : Exit → Act → World → Prop} {w' : World}
    (hr : (execOp a.eval o).run P w = .ok .skip w') (hn : next (a.put o.dst undef) w') : o.wp P a w next Q := by
  unfold Oper.wp; rw [hr]; exact hn

/-! runs of values -/
theorem run_arith {P : Program} {op : BinOp} {t : TypeId} {k : IntKind} {a b : Int} {w : World} {K : Value → Prop} (h : arith op k a b K) :
    ∃ r, (binOp op t (.int k a) (.int k b)).run P w = .ok r w ∧ K r := by
  cases op <;> simp only [arith] at h <;> first
    | exact h.elim
    | (refine ⟨_, rfl, ?_⟩; first | exact h | exact h.2)
    | (simp only [binOp, Op.intDiv, ne_eq, not_true_eq_false, ↓reduceIte, h.1]; exact ⟨_, rfl, h.2⟩)
    | (rw [binOp_neq]; exact ⟨_, rfl, by simpa [bne, Bool.beq_eq_decide_eq] using h⟩)
    | (simp only [binOp, Op.intArith, ne_eq, not_true_eq_false, ↓reduceIte]; exact ⟨_, rfl, h⟩)
    | (simp only [binOp, Op.intBits, ne_eq, not_true_eq_false, ↓reduceIte]; exact ⟨_, rfl, h⟩)

theorem run_shift {P : Program} {op : BinOp} {t : TypeId} {k : IntKind} {x y : Value} {w : World} {K : Value → Prop} (h : shift op k x y K) :
    ∃ r, (binOp op t x y).run P w = .ok r w ∧ K r ∧ (∃ k a, x = .int k a) := by
  unfold shift at h
  split at h
  · rename_i k1 a _ b
    obtain ⟨rfl, hb, h⟩ := h
    have hb' : ¬ b < 0 := by omega
    cases op <;> first
      | exact h.elim
      | (simp only [binOp, Op.shift, hb', ↓reduceIte]; exact ⟨_, rfl, h, _, _, rfl⟩)
  · exact h.elim

theorem run_strop {P : Program} {op : BinOp} {t : TypeId} {a b : ByteArray} {w : World} {K : Value → Prop} (h : strop op a b K) :
    ∃ r, (binOp op t (.string a) (.string b)).run P w = .ok r w ∧ K r := by
  cases op <;> simp only [strop] at h <;> first
    | exact h.elim
    | (have hb : ¬ ((a.size + b.size : Nat) : Int) > IntKind.i64.max := by
         have : IntKind.i64.max = 9223372036854775807 := by decide
         omega
       simp only [binOp, Op.stringOp, hb, ↓reduceIte]; exact ⟨_, rfl, h.2⟩)
    | (simp only [binOp, Op.stringOp]; exact ⟨_, rfl, h⟩)

theorem pointee_of {P : Program} {t el : TypeId} (h : P.underlying t = some (.pointer el)) : P.underlying t = some (.pointer (P.pointee t)) := by
  rw [h]; simp [Program.pointee, h]

theorem run_nilptr {P : Program} {t el : TypeId} (ht : P.underlying t = some (.pointer el)) (a : Option Addr) (w : World) :
    (binOp .eql t (.pointer a) (.pointer none)).run P w = .ok (.bool a.isNone) w ∧ (binOp .neq t (.pointer a) (.pointer none)).run P w = .ok (.bool (!a.isNone)) w :=
  ⟨run_eql_pointer_nil w t a (pointee_of ht), run_neq_pointer_nil w t a (pointee_of ht)⟩

theorem guard_ok {P : Program} (op : BinOp) (t : TypeId) (x y : Operand) (a b : Value) (w : World) (ha : ∀ cs, a ≠ .agg cs) (hb : a ≠ .nilIface) :
    (eqGuard op t x y a b).run P w = .ok () w := by
  unfold eqGuard
  cases op <;> cases a <;> simp_all

theorem guard_nil {P : Program} (op : BinOp) (t : TypeId) (x : Operand) (a : Value) (w : World) (h : a = .nilIface ∨ ∃ t v, a = .iface t v) :
    (eqGuard op t x (.const .nilIface) a .nilIface).run P w = .ok () w := by
  unfold eqGuard
  rcases h with rfl | ⟨t, v, rfl⟩ <;> cases op <;> simp
theorem methodsAt_of {P : Program} {t : TypeId} {ms : Array (String × TypeId)} (h : P.underlying t = some (.interface ms)) : P.underlying t = some (.interface (P.methodsAt t)) := by
  simp [Program.methodsAt, h]
theorem run_nili {P : Program} {t : TypeId} {ms : Array (String × TypeId)} (ht : P.underlying t = some (.interface ms)) {u : Value} {K : Bool → Prop} (h : NilI u K) (w : World) :
    ∃ b, K b ∧ (u = .nilIface ∨ ∃ t v, u = .iface t v) ∧ (binOp .eql t u .nilIface).run P w = .ok (.bool b) w ∧ (binOp .neq t u .nilIface).run P w = .ok (.bool !b) w := by
  unfold NilI at h
  split at h
  · exact ⟨false, h, .inr ⟨_, _, rfl⟩, run_eql_held_nil w t _ _ (methodsAt_of ht), run_neq_held_nil w t _ _ (methodsAt_of ht)⟩
  · exact ⟨true, h, .inl rfl, run_eql_nil_nil w t (methodsAt_of ht), run_neq_nil_nil w t (methodsAt_of ht)⟩
  · exact h.elim
theorem run_tas {P : Program} {t xt : TypeId} {de : TypeDesc} {ok : Bool} {u : Value} {K : Value → Prop} (hu : P.underlying t = some de) (hi : ∀ ms, de ≠ .interface ms) (hz : ((P.info? t).bind (·.zero)).isSome) (h : TasVC P t ok u K) (w : World) :
    ∃ v, (Instr.typeAssert u xt t ok).run P w = .ok v w ∧ K v := by
  have z : (zeroValue t).run P w = .ok (zval P t) w := by
    obtain ⟨z, hz⟩ := Option.isSome_iff_exists.1 hz
    obtain ⟨i, h1, h2⟩ := Option.bind_eq_some_iff.1 hz
    have e : zval P t = z := by unfold zval; rw [hz]
    rw [e]
    simp [zeroValue, typeInfo, Sem.run_bind, run_program, h1, h2]
  unfold TasVC at h
  split at h
  · rename_i t' v
    by_cases he : t' = t
    · rw [if_pos he] at h
      refine ⟨_, ?_, h⟩
      subst he
      cases de <;> first | exact absurd rfl (hi _) | (simp [Instr.typeAssert, Sem.run_bind, run_underlying hu])
    · rw [if_neg he] at h
      obtain ⟨rfl, h⟩ := h
      refine ⟨_, ?_, h⟩
      cases de <;> first | exact absurd rfl (hi _) | (simp [Instr.typeAssert, Sem.run_bind, run_underlying hu, he, z])
  · obtain ⟨rfl, h⟩ := h
    refine ⟨_, ?_, h⟩
    cases de <;> first | exact absurd rfl (hi _) | (simp [Instr.typeAssert, Sem.run_bind, run_underlying hu, z])
  · exact h.elim
theorem run_meth {P : Program} {t : TypeId} {m : String} {f : FuncId} (h : methOk P t m f = true) (v : Value) (n : Nat) (w : World) : (method (n + 1) t v m).run P w = .ok (f, v) w := by
  unfold methOk at h
  simp only [Bool.and_eq_true] at h
  obtain ⟨h0, h⟩ := h
  split at h0
  · rename_i fs hu
    split at h
    · rename_i r hr
      simp only [Bool.and_eq_true] at h
      obtain ⟨h1, h2⟩ := h
      split at h2
      · rename_i g hg
        have hgf : g = f := by simpa using h2
        subst hgf
        obtain ⟨i, hi, hm⟩ := Option.bind_eq_some_iff.1 hr
        have hp : r.path.toList = [] := by simpa using h1
        simp [method, Sem.run_bind, typeInfo, run_program, hi, hm, hp, hg, follow, receiverAt, Place.get, run_underlying hu]
      · cases h2
    · cases h
  · cases h0

theorem guard_agg {P : Program} (op : BinOp) (t : TypeId) (x y : Operand) (xs ys : Array Value) (w : World) (h : P.eqGuardType P.depth t = false) :
    (eqGuard op t x y (.agg xs) (.agg ys)).run P w = .ok () w := by
  unfold eqGuard
  cases op <;> simp [h, Sem.run_bind]
theorem run_agg2 {P : Program} {t : TypeId} {u v : Value} {w : World} {K : Bool → Prop} (hd : deepOk P t = true) (h : Agg2W P t u v K) :
    ∃ b xs ys, u = .agg xs ∧ v = .agg ys ∧ (binOp .eql t u v).run P w = .ok (.bool b) w ∧ (binOp .neq t u v).run P w = .ok (.bool !b) w ∧ K b := by
  unfold Agg2W at h
  split at h
  · rename_i xs ys
    obtain ⟨la, lb, b, f1, f2, k1, k2, hbi, hk⟩ := h
    simp only [deepOk, Bool.and_eq_true] at hd
    obtain ⟨r, hr, hi⟩ := run_equalIn_deep 9936 64 t hd.1 w 64 64 (.agg xs) (.agg ys) la lb f1 f2 k1 k2
    have hb : r = b := by
      cases r <;> cases b
      · rfl
      · have := hi.2 (hbi.1 rfl); cases this
      · have := hbi.2 (hi.1 rfl); cases this
      · rfl
    have hr2 : (Op.equalIn 10000 t (.agg xs) (.agg ys)).run P w = .ok r w := hr
    refine ⟨r, xs, ys, rfl, rfl, ?_, ?_, hb ▸ hk⟩
    · rw [run_eql_struct, hr2]; rfl
    · rw [run_neq_struct, hr2]; rfl
  · exact h.elim

/-! runs over memory -/
theorem add_none (b o j : Nat) : (⟨b, o, none⟩ : Addr).add j = ⟨b, o + j, none⟩ := by unfold Addr.add; split <;> simp_all

theorem cell_in {w : World} {b o : Nat} {C : Array Value} {T : TypeId} {fz : Nat × Nat} (hg : w.heap[b]? = some (.cells C T fz)) : w.cell? ⟨b, o, none⟩ = C[o]? := by
  simp [World.cell?, hg]

theorem run_isAgg {P : Program} {t : TypeId} {d : TypeDesc} (h : P.underlying t = some d) (w : World) : (isAgg t).run P w = .ok (isAggT P t) w := by
  unfold isAgg isAggT
  rw [Sem.run_bind, run_underlying h w, h]
  cases d <;> rfl

theorem run_sizeOf {P : Program} {t : TypeId} (h : hasInfo P t = true) (w : World) : (sizeOf t).run P w = .ok (P.cellsOf t) w := by
  unfold hasInfo at h
  obtain ⟨i, hi⟩ := Option.isSome_iff_exists.1 h
  simp [sizeOf, typeInfo, Program.cellsOf, hi]

theorem run_loadScalar {P : Program} {t : TypeId} {d : TypeDesc} (h : P.underlying t = some d) (hs : isAggT P t = false) {w : World} {a : Addr} {v : Value} (hc : w.cell? a = some v) :
    (loadVar t a).run P w = .ok v w := by
  unfold loadVar
  rw [Sem.run_bind, run_isAgg h w, hs]
  simp [hc]

theorem run_loadAgg {P : Program} {t : TypeId} {d : TypeDesc} (h : P.underlying t = some d) (hs : isAggT P t = true) (hi : hasInfo P t = true) {w : World} {b o : Nat} {C : Array Value} {T : TypeId} {fz : Nat × Nat}
    (hg : w.heap[b]? = some (.cells C T fz)) (hl : o + P.cellsOf t ≤ C.size) :
    (loadVar t ⟨b, o, none⟩).run P w = .ok (.agg (C.extract o (o + P.cellsOf t))) w := by
  have hlen : (C.extract o (o + P.cellsOf t)).toList.length = P.cellsOf t := by simp; omega
  have hld : (loadCells ⟨b, o, none⟩ (P.cellsOf t)).run P w = .ok (C.extract o (o + P.cellsOf t)) w := by
    have := run_loadCells_list (P := P) w ⟨b, o, none⟩ (C.extract o (o + P.cellsOf t)).toList (fun j v hv => by
      rw [add_none, cell_in hg]
      have hj : j < (C.extract o (o + P.cellsOf t)).toList.length := by
        rcases Nat.lt_or_ge j (C.extract o (o + P.cellsOf t)).toList.length with h1 | h1
        · exact h1
        · rw [List.getElem?_eq_none h1] at hv; cases hv
      rw [Array.getElem?_toList, Array.getElem?_extract] at hv
      rw [← hv, if_pos (by rw [hlen] at hj; omega)])
    rw [hlen] at this
    simpa only [Array.toArray_toList] using this
  unfold loadVar
  rw [Sem.run_bind, run_isAgg h w, hs]
  simp only [Result.andThen_ok, ↓reduceIte, Sem.run_bind, run_sizeOf hi w, hld, Sem.run_pure]

theorem run_storeCells_fz (P : Program) (g o : Nat) (t : TypeId) (fz : Nat × Nat) : ∀ (vs : List Value) (i : Nat) (cur : Array Value) (w : World), w.heap[g]? = some (.cells cur t fz) → (fz.2 ≤ o + i ∨ o + i + vs.length ≤ fz.1) →
    o + i + vs.length ≤ cur.size → (∀ v ∈ vs, one v = true) →
    (storeCells ⟨g, o, none⟩ vs i).run P w = .ok () (w.setRow g (over cur (o + i) vs))
  | [], i, cur, w, hg, _, _, _ => by
    simp only [storeCells, over, List.append_nil, List.length_nil, Nat.add_zero, List.take_append_drop, Array.toArray_toList]
    rw [setRow_self w g cur t fz hg]
    rfl
  | v :: rest, i, cur, w, hg, hfz, hl, h1 => by
    simp only [List.length_cons] at hfz hl
    have hi : o + i < cur.size := by omega
    have hfro : w.frozen? ⟨g, o + i, none⟩ = false := by
      obtain ⟨lo, hi'⟩ := fz
      simp only [World.frozen?, hg, Bool.and_eq_false_iff, decide_eq_false_iff_not]
      simp only at hfz
      omega
    have hst : (store ((⟨g, o, none⟩ : Addr).add i) v).run P w = .ok () (w.setRow g (cur.setIfInBounds (o + i) v)) := by
      rw [add_none, run_store P w _ v _ (h1 v (by simp)), cell_in hg]
      simp [hi, hfro, setCell_eq_setRow w g (o + i) cur t fz v hg]
    have ih := run_storeCells_fz P g o t fz rest (i + 1) (cur.setIfInBounds (o + i) v) (w.setRow g (cur.setIfInBounds (o + i) v)) (setRow_heap w g cur _ t _ hg) (by omega) (by simp; omega) (fun x hx => h1 x (by simp [hx]))
    simp only [storeCells, Sem.run_bind, hst, Result.andThen_ok, ih, setRow_setRow]
    congr 2
    have e := list_seg_step cur.toList (o + i) v rest (by simp; omega)
    unfold over
    simpa [Array.toList_setIfInBounds, Nat.add_assoc] using e

theorem run_storeVar_fz {P : Program} {t : TypeId} (hi : hasInfo P t = true) {w : World} {b o : Nat} {C : Array Value} {T : TypeId} {fz : Nat × Nat} (hg : w.heap[b]? = some (.cells C T fz)) (v : Value)
    (hsz : v.cells.size = P.cellsOf t) (hl : o + v.cells.toList.length ≤ C.size) (hfz : fz.2 ≤ o ∨ o + v.cells.toList.length ≤ fz.1) (h1 : ∀ u ∈ v.cells.toList, one u = true) :
    (storeVar t ⟨b, o, none⟩ v).run P w = .ok () (w.setRow b (over C o v.cells.toList)) := by
  unfold storeVar
  have := run_storeCells_fz P b o T fz v.cells.toList 0 C w hg (by simpa using hfz) (by simpa using hl) h1
  simp only [Sem.run_bind, run_sizeOf hi w, Result.andThen_ok, hsz, ne_eq, not_true_eq_false, ↓reduceIte, this, Nat.add_zero]

theorem over_one (C : Array Value) (o : Nat) (v : Value) (h : o < C.size) : over C o [v] = C.setIfInBounds o v := by
  unfold over
  apply Array.ext'
  simp [List.set_eq_take_append_cons_drop, h]

end X
end Go.Proofs.YtgibicifflfpfaaDoor
