/-
  The engine, part 3: what an operation asks is enough for the operation it was read of. Conditions: none.
-/
import Derived.Test.YtgibicifflfpfaaDoorXB2
import Derived.WalkSmall
set_option autoImplicit false
namespace Go.Proofs.YtgibicifflfpfaaDoor
namespace X
variable {ds : List Deferred}

theorem bound_iff {i : Int} {n : Nat} {K : Nat → Prop} (h : bound i n K) : (0 ≤ i ∧ i < n) ∧ K i.toNat := ⟨⟨h.1, h.2.1⟩, h.2.2⟩

theorem Int2_iff {k : IntKind} {x y : Value} {K : Int → Int → Prop} (h : Int2 k x y K) : ∃ a b, x = .int k a ∧ y = .int k b ∧ K a b := by
  unfold Int2 at h
  split at h
  · obtain ⟨rfl, rfl, h⟩ := h; exact ⟨_, _, rfl, rfl, h⟩
  · exact h.elim
theorem Str2_iff {x y : Value} {K : ByteArray → ByteArray → Prop} (h : Str2 x y K) : ∃ a b, x = .string a ∧ y = .string b ∧ K a b := by
  unfold Str2 at h
  split at h
  · exact ⟨_, _, rfl, rfl, h⟩
  · exact h.elim
theorem Bool1_iff {x : Value} {K : Bool → Prop} (h : Bool1 x K) : ∃ b, x = .bool b ∧ K b := by
  unfold Bool1 at h
  split at h
  · exact ⟨_, rfl, h⟩
  · exact h.elim
theorem Int1_iff {x : Value} {K : IntKind → Int → Prop} (h : Int1 x K) : ∃ k n, x = .int k n ∧ K k n := by
  unfold Int1 at h
  split at h
  · exact ⟨_, _, rfl, h⟩
  · exact h.elim
theorem Nil1_iff {x : Value} {K : Bool → Prop} (h : Nil1 x K) : ∃ a, x = .pointer a ∧ K a.isNone := by
  unfold Nil1 at h
  split at h
  · exact ⟨_, rfl, h⟩
  · exact h.elim
theorem Ptr1_iff {x : Value} {K : Addr → Prop} (h : Ptr1 x K) : ∃ a, x = .pointer (some a) ∧ K a := by
  unfold Ptr1 at h
  split at h
  · exact ⟨_, rfl, h⟩
  · exact h.elim
theorem Agg1_iff {x : Value} {K : Array Value → Prop} (h : Agg1 x K) : ∃ a, x = .agg a ∧ K a := by
  unfold Agg1 at h
  split at h
  · exact ⟨_, rfl, h⟩
  · exact h.elim
theorem Tup1_iff {x : Value} {i : Nat} {K : Value → Prop} (h : Tup1 x i K) : ∃ vs v, x = .tuple vs ∧ vs[i]? = some v ∧ K v := by
  unfold Tup1 at h
  split at h
  · split at h
    · rename_i v hv; exact ⟨_, v, rfl, hv, h⟩
    · exact h.elim
  · exact h.elim
theorem Fn1_iff {x : Value} {K : FuncId → List Value → Prop} (h : Fn1 x K) : ∃ f caps, x = .func (.func f) #[] (List.toArray caps) ∧ K f caps := by
  unfold Fn1 at h
  split at h
  · obtain ⟨h1, h⟩ := h; exact ⟨_, _, by simp [h1], h⟩
  · exact h.elim
theorem Ld_iff {w : World} {a : Addr} {K : Value → Prop} (h : Ld w a K) : ∃ v, w.cell? a = some v ∧ K v := by
  unfold Ld at h
  split at h
  · rename_i C T fz hg
    obtain ⟨hs, h⟩ := h
    split at h
    · rename_i v hv; exact ⟨v, by simp [World.cell?, hg, hs, hv], h⟩
    · exact h.elim
  · exact h.elim
theorem LdN_iff {w : World} {a : Addr} {n : Nat} {K : Array Value → Prop} (h : LdN w a n K) : ∃ C T fz, w.heap[a.block]? = some (.cells C T fz) ∧ a = ⟨a.block, a.off, none⟩ ∧ a.off + n ≤ C.size ∧ K (C.extract a.off (a.off + n)) := by
  unfold LdN at h
  split at h
  · rename_i C T fz hg
    obtain ⟨hs, hl, h⟩ := h
    exact ⟨C, T, fz, hg, by cases a; simp_all, hl, h⟩
  · exact h.elim
theorem StN_iff {w : World} {a : Addr} {vs : List Value} {K : World → Prop} (h : StN w a vs K) : ∃ C T fz, w.heap[a.block]? = some (.cells C T fz) ∧ a = ⟨a.block, a.off, none⟩ ∧ a.off + vs.length ≤ C.size ∧
    (fz.2 ≤ a.off ∨ a.off + vs.length ≤ fz.1) ∧ (∀ v ∈ vs, one v = true) ∧ K (w.setRow a.block (over C a.off vs)) := by
  unfold StN at h
  split at h
  · rename_i C T fz hg
    obtain ⟨hs, h⟩ := h
    exact ⟨C, T, fz, hg, by cases a; simp_all, h⟩
  · exact h.elim
theorem St_iff {w : World} {a : Addr} {v : Value} {K : World → Prop} (h : St w a v K) : StN w a [v] K ∧ one v = true := by
  unfold St at h
  unfold StN
  split at h
  · rename_i C T fz hg
    obtain ⟨hs, hl, hf, h1, h⟩ := h
    exact ⟨⟨hs, by simp only [List.length_cons, List.length_nil]; omega, by simp only [List.length_cons, List.length_nil]; omega, by simpa using h1, by rw [over_one C a.off v hl]; exact h⟩, h1⟩
  · exact h.elim

theorem cells_scalar {v : Value} (h : one v = true) : v.cells = #[v] := by cases v <;> simp_all [one, Value.cells]

theorem callFunc_ok {P : Program} {f : FuncId} {fn : Func} (hf : P.funcs[f]? = some fn) (hb : fn.body.isSome = true) (hn : (fn.name != "runtime.NumGoroutine") = true) (args : Array Value) (w : World) :
    (callFunc f args).run P w = .ok (.enter f args) w := by
  have hn' : (fn.name == "runtime.NumGoroutine") = false := by simpa [bne] using hn
  have hb' : fn.body.isNone = false := by cases h : fn.body <;> simp_all
  simp only [callFunc, Sem.run_bind, run_program, Result.andThen_ok, hf, hn', hb', Bool.false_eq_true, ↓reduceIte, Sem.run_pure]

section
variable {P : Program} {n : Nat} {o : Oper} {s : S} {e : Env} {a : Act} {w : World} {K : Env → World → Prop} {pan : List PanicEntry → World → Prop} {next : Act → World → Prop} {Q : Exit → Act → World → Prop}

theorem callK (hf : Fits ds n e a) (hd : (match o.dst with | some d => decide (d < n) | none => true) = true) (hK : ∀ e a w, Fits ds n e a → K e w → next a w) (hp : ∀ ch e a w, Fits ds n e a → pan ch w → Q (.panic ch) a w)
    {f : FuncId} {vs : Array Value} (h : Calls P f vs w fun en w' => match en with | .returned v => K (putO o.dst v e) w' | .panicked ch => pan ch w' | .outgrown => False) :
    Calls P f vs w fun
      | .returned v, w'' => next (a.put o.dst v) w''
      | .panicked chain, w'' => Q (.panic chain) a w''
      | .outgrown, _ => LetsOut Q := by
  refine h.mono ?_
  intro en w' hr
  cases en with
  | returned v =>
    refine hK _ _ _ ?_ hr
    cases hdst : o.dst with
    | none => exact hf
    | some d => rw [hdst] at hd; exact hf.put (of_decide_eq_true hd) v
  | panicked ch => exact hp _ _ _ _ hf hr
  | outgrown => exact hr.elim

/-- What an operation comes to: a value, a store, or a call. -/
inductive Out (P : Program) (o : Oper) (s : S) (e : Env) (a : Act) (w : World) (K : Env → World → Prop) (pan : List PanicEntry → World → Prop) : Prop
  | val (v : Value) (w' : World) (h2 : (execOp a.eval o).run P w = .ok (.value v) w') (h3 : K (putO o.dst v e) w') (h4 : s.cls ≤ 1 → w' = w)
  | unit (w' : World) (h1 : o.dst = none) (h2 : (execOp a.eval o).run P w = .ok .skip w') (h3 : K e w') (h4 : s.cls = 2)
  | call (f : FuncId) (vs : Array Value) (w' : World) (h2 : (execOp a.eval o).run P w = .ok (.enter f vs) w')
      (h3 : Calls P f vs w' fun en w'' => match en with | .returned v => K (putO o.dst v e) w'' | .panicked ch => pan ch w'' | .outgrown => False) (h4 : s.cls = 2)
  | pan (v : Value) (h2 : (execOp a.eval o).run P w = .halt (.panic v) w) (h3 : pan [{ v, recovered := false }] w) (h4 : s.cls = 2)

theorem op_out (hl : lower P o = some s) (hf : Fits ds n e a) (h : opVC P s K pan e w) : Out P o s e a w K pan := by
  obtain ⟨dst, op, type, pos, after, guard⟩ := o
  have fin : ∀ (d : Nat) (v : Value), dst = some d → (execOp a.eval ⟨dst, op, type, pos, after, guard⟩).run P w = .ok (.value v) w → K ((d, v) :: e) w → Out P ⟨dst, op, type, pos, after, guard⟩ s e a w K pan :=
    fun d v h1 h2 h3 => .val v w h2 (by show K (putO dst v e) w; rw [h1]; exact h3) fun _ => rfl
  have finW : ∀ (d : Nat) (v : Value) (w' : World), s.cls = 2 → dst = some d → (execOp a.eval ⟨dst, op, type, pos, after, guard⟩).run P w = .ok (.value v) w' → K ((d, v) :: e) w' → Out P ⟨dst, op, type, pos, after, guard⟩ s e a w K pan :=
    fun d v w' hc h1 h2 h3 => .val v w' h2 (by show K (putO dst v e) w'; rw [h1]; exact h3) fun h => by omega
  have finU : ∀ (w' : World), s.cls = 2 → dst = none → (execOp a.eval ⟨dst, op, type, pos, after, guard⟩).run P w = .ok .skip w' → K e w' → Out P ⟨dst, op, type, pos, after, guard⟩ s e a w K pan :=
    fun w' hc h1 h2 h3 => .unit w' h1 h2 h3 hc
  unfold lower at hl
  split at hl
  case h_1 x d hop hdst =>
    simp only [Option.some.injEq] at hl; subst hl
    simp only at hop hdst; subst hop
    exact fin d _ hdst rfl (hf.eval h)
  case h_2 x d hop hdst =>
    simp only [Option.some.injEq] at hl; subst hl
    simp only at hop hdst; subst hop
    exact fin d _ hdst rfl (hf.eval h)
  case h_3 c x y d hop hdst =>
    simp only [Option.some.injEq] at hl; subst hl
    simp only at hop hdst; subst hop
    obtain ⟨b, hb, h⟩ := Bool1_iff (hf.eval h)
    refine fin d (if b then a.eval x else a.eval y) hdst (by simp [execOp, hb, asBool]) ?_
    cases b
    · rw [if_neg (by simp)] at h ⊢; exact hf.eval h
    · rw [if_pos rfl] at h ⊢; exact hf.eval h
  case h_4 bop t x y yt d hop hdst =>
    simp only at hop hdst; subst hop
    have g0 : ∀ v, (∀ cs, a.eval x ≠ .agg cs) → a.eval x ≠ .nilIface → (binOp bop t (a.eval x) (a.eval y)).run P w = .ok v w → K ((d, v) :: e) w → Out P ⟨dst, .binOp bop t x y yt, type, pos, after, guard⟩ s e a w K pan := by
      intro v h1 h2 hr hk
      refine fin d v hdst ?_ hk
      simp only [execOp, Sem.run_bind, guard_ok bop t x y _ _ w h1 h2, Result.andThen_ok, hr, Sem.run_pure]
    split at hl
    case h_1 k hu =>
      simp only [Option.some.injEq] at hl; subst hl
      obtain ⟨r, hr, hk, k', n', hx⟩ := run_shift (P := P) (t := t) (w := w) (hf.eval (hf.eval h))
      exact g0 r (by rw [hx]; intro cs hc; cases hc) (by rw [hx]; intro hc; cases hc) hr hk
    case h_2 k hu =>
      simp only [Option.some.injEq] at hl; subst hl
      obtain ⟨r, hr, hk, k', n', hx⟩ := run_shift (P := P) (t := t) (w := w) (hf.eval (hf.eval h))
      exact g0 r (by rw [hx]; intro cs hc; cases hc) (by rw [hx]; intro hc; cases hc) hr hk
    case h_3 k hu hns hnr =>
      simp only [Option.some.injEq] at hl; subst hl
      obtain ⟨u, v, hx, hy, hk⟩ := Int2_iff (hf.eval (K := fun v => Int2 k (a.eval x) v _) (hf.eval h))
      obtain ⟨r, hr, hk⟩ := run_arith (P := P) (t := t) (w := w) hk
      exact g0 r (by rw [hx]; intro cs hc; cases hc) (by rw [hx]; intro hc; cases hc) (by rw [hx, hy]; exact hr) hk
    case h_4 hu =>
      simp only [Option.some.injEq] at hl; subst hl
      obtain ⟨u, v, hx, hy, hk⟩ := Str2_iff (hf.eval (K := fun v => Str2 (a.eval x) v _) (hf.eval h))
      obtain ⟨r, hr, hk⟩ := run_strop (P := P) (t := t) (w := w) hk
      exact g0 r (by rw [hx]; intro cs hc; cases hc) (by rw [hx]; intro hc; cases hc) (by rw [hx, hy]; exact hr) hk
    case h_5 hu =>
      simp only [Option.some.injEq] at hl; subst hl
      obtain ⟨u, hx, h2⟩ := Bool1_iff (hf.eval (K := fun v => Bool1 (a.eval x) _) (hf.eval h))
      obtain ⟨v, hy, h3⟩ := Bool1_iff h2
      exact g0 _ (by rw [hx]; intro cs hc; cases hc) (by rw [hx]; intro hc; cases hc) (by rw [hx, hy]; exact run_eql_bool w t u v hu) h3
    case h_6 hu =>
      simp only [Option.some.injEq] at hl; subst hl
      obtain ⟨u, hx, h2⟩ := Bool1_iff (hf.eval (K := fun v => Bool1 (a.eval x) _) (hf.eval h))
      obtain ⟨v, hy, h3⟩ := Bool1_iff h2
      exact g0 _ (by rw [hx]; intro cs hc; cases hc) (by rw [hx]; intro hc; cases hc) (by rw [hx, hy]; exact run_neq_bool w t u v hu) h3
    case h_7 el hu =>
      split at hl
      · simp only [Option.some.injEq] at hl; subst hl
        have h := hf.eval (K := fun u => Nil1 u fun b => K ((d, .bool (if false = true then !b else b)) :: e) w) h
        obtain ⟨p, hx, h⟩ := Nil1_iff h
        exact g0 _ (by rw [hx]; intro cs hc; cases hc) (by rw [hx]; intro hc; cases hc) (by rw [hx]; exact (run_nilptr hu p w).1) h
      · simp at hl
    case h_8 el hu =>
      split at hl
      · simp only [Option.some.injEq] at hl; subst hl
        have h := hf.eval (K := fun u => Nil1 u fun b => K ((d, .bool (if true = true then !b else b)) :: e) w) h
        obtain ⟨p, hx, h⟩ := Nil1_iff h
        exact g0 _ (by rw [hx]; intro cs hc; cases hc) (by rw [hx]; intro hc; cases hc) (by rw [hx]; exact (run_nilptr hu p w).2) h
      · simp at hl
    case h_9 n el hu | h_10 fs hu =>
      split at hl
      · rename_i hdp
        simp only [Option.some.injEq] at hl; subst hl
        have h := hf.eval (K := fun v => Agg2W P t (a.eval x) v fun b => K ((d, .bool (if false = true then !b else b)) :: e) w) (hf.eval (K := fun u => ev e y fun v => Agg2W P t u v fun b => K ((d, .bool (if false = true then !b else b)) :: e) w) h)
        obtain ⟨b, xs, ys, hx, hy, r1, r2, hk⟩ := run_agg2 (w := w) hdp h
        refine fin d (.bool b) hdst ?_ hk
        have hgt : P.eqGuardType P.depth t = false := by simp only [deepOk, Bool.and_eq_true, Bool.not_eq_true'] at hdp; exact hdp.2
        simp only [execOp, Sem.run_bind, hx, hy, guard_agg _ t x y xs ys w hgt, Result.andThen_ok]
        rw [← hx, ← hy, r1]; rfl
      · simp at hl
    case h_11 n el hu | h_12 fs hu =>
      split at hl
      · rename_i hdp
        simp only [Option.some.injEq] at hl; subst hl
        have h := hf.eval (K := fun v => Agg2W P t (a.eval x) v fun b => K ((d, .bool (if true = true then !b else b)) :: e) w) (hf.eval (K := fun u => ev e y fun v => Agg2W P t u v fun b => K ((d, .bool (if true = true then !b else b)) :: e) w) h)
        obtain ⟨b, xs, ys, hx, hy, r1, r2, hk⟩ := run_agg2 (w := w) hdp h
        refine fin d (.bool !b) hdst ?_ hk
        have hgt : P.eqGuardType P.depth t = false := by simp only [deepOk, Bool.and_eq_true, Bool.not_eq_true'] at hdp; exact hdp.2
        simp only [execOp, Sem.run_bind, hx, hy, guard_agg _ t x y xs ys w hgt, Result.andThen_ok]
        rw [← hx, ← hy, r2]; rfl
      · simp at hl
    case h_13 ms hu =>
      split at hl
      · simp only [Option.some.injEq] at hl; subst hl
        obtain ⟨b, hk, hx, r1, r2⟩ := run_nili hu (hf.eval h) w
        refine fin d _ hdst ?_ hk
        have ey : a.eval (.const .nilIface) = .nilIface := rfl
        simp only [execOp, Sem.run_bind, ey, guard_nil _ t x _ w hx, Result.andThen_ok, r1, Sem.run_pure]
        rfl
      · simp at hl
    case h_14 ms hu =>
      split at hl
      · simp only [Option.some.injEq] at hl; subst hl
        obtain ⟨b, hk, hx, r1, r2⟩ := run_nili hu (hf.eval h) w
        refine fin d _ hdst ?_ hk
        have ey : a.eval (.const .nilIface) = .nilIface := rfl
        simp only [execOp, Sem.run_bind, ey, guard_nil _ t x _ w hx, Result.andThen_ok, r2, Sem.run_pure]
        rfl
      · simp at hl
    case h_15 => simp at hl
  case h_5 t x d hop hdst =>
    simp only [Option.some.injEq] at hl; subst hl
    simp only at hop hdst; subst hop
    obtain ⟨b, hb, h⟩ := Bool1_iff (hf.eval h)
    exact fin d _ hdst (by simp [execOp, hb, Op.unary]) h
  case h_6 t x d hop hdst =>
    simp only at hop hdst; subst hop
    split at hl
    · simp only [Option.some.injEq] at hl; subst hl
      obtain ⟨k, m, hb, rfl, h⟩ := Int1_iff (hf.eval h)
      exact fin d (.int k (k.wrap (0 - m))) hdst (by simp [execOp, hb, Op.unary, Op.intArith]) h
    · simp at hl
  case h_7 sr t x d hop hdst =>
    simp only at hop hdst; subst hop
    split at hl
    · rename_i k1 k hs ht
      simp only [Option.some.injEq] at hl; subst hl
      obtain ⟨k2, m, hb, h⟩ := Int1_iff (hf.eval h)
      exact fin d _ hdst (by simp [execOp, hb, convert, run_underlying hs, run_underlying ht, Conv.intToInt]) h
    · rename_i k1 hs ht
      simp only [Option.some.injEq] at hl; subst hl
      obtain ⟨k2, m, hb, h⟩ := Int1_iff (hf.eval h)
      exact fin d _ hdst (by simp [execOp, hb, convert, run_underlying hs, run_underlying ht, Conv.intToString]) h
    · rename_i el hs ht
      split at hl
      · rename_i hel
        simp only [Option.some.injEq] at hl; subst hl
        obtain ⟨s, hr, hk⟩ := run_conBS (P := P) hs hel ht (hf.eval h)
        exact fin d _ hdst (by simp [execOp, hr]) hk
      · simp at hl
    · rename_i el hs ht
      split at hl
      · rename_i hel
        simp only [Option.some.injEq] at hl; subst hl
        obtain ⟨s, hx, h2⟩ := Strg1_iff (hf.eval h)
        obtain ⟨r, w', hr, hk⟩ := run_conSB (P := P) (K := fun r w' => K ((d, r) :: e) w') hs ht hel s h2
        exact finW d r w' rfl hdst (by simp [execOp, hx, hr]) hk
      · simp at hl
    · simp at hl
  case h_8 t d hop hdst =>
    simp only at hop hdst; subst hop
    split at hl
    · rename_i hz
      simp only [Option.some.injEq] at hl; subst hl
      obtain ⟨z, hz⟩ := Option.isSome_iff_exists.1 hz
      obtain ⟨i, hi, hiz⟩ := Option.bind_eq_some_iff.1 hz
      refine finW d _ _ rfl hdst ?_ h
      simp [execOp, Instr.alloc, zeroValue, typeInfo, hi, hiz, newVar, newRow, zcells]
    · simp at hl
  case h_9 t x d hop hdst =>
    simp only [Option.some.injEq] at hl; subst hl
    simp only at hop hdst; subst hop
    exact finW d _ _ rfl hdst (by simp [execOp, Instr.box, newVar, newRow]) (hf.eval h)
  case h_10 t x d hop hdst =>
    simp only at hop hdst; subst hop
    split at hl
    · rename_i hc
      simp only [Bool.and_eq_true] at hc
      obtain ⟨de, hu⟩ := Option.isSome_iff_exists.1 hc.1
      split at hl
      · rename_i hagg
        simp only [Option.some.injEq] at hl; subst hl
        obtain ⟨ad, hx, h⟩ := Ptr1_iff (hf.eval h)
        obtain ⟨C, T, fz, hg, had, hlen, h⟩ := LdN_iff h
        refine fin d _ hdst ?_ h
        simp only [execOp, Instr.loadAt, hx, Instr.sureAddr, Sem.run_bind, Sem.run_pure, Result.andThen_ok]
        rw [had, run_loadAgg hu hagg hc.2 hg hlen]; rfl
      · rename_i hagg
        simp only [Option.some.injEq] at hl; subst hl
        obtain ⟨ad, hx, h⟩ := Ptr1_iff (hf.eval h)
        obtain ⟨v, hcell, h⟩ := Ld_iff h
        refine fin d _ hdst ?_ h
        simp only [execOp, Instr.loadAt, hx, Instr.sureAddr, Sem.run_bind, Sem.run_pure, Result.andThen_ok]
        rw [run_loadScalar hu (by simpa using hagg) hcell]; rfl
    · simp at hl
  case h_11 t x v hop hdst =>
    simp only at hop hdst; subst hop
    split at hl
    · rename_i hi
      split at hl
      · simp only [Option.some.injEq] at hl; subst hl
        obtain ⟨ad, hx, h⟩ := Ptr1_iff (hf.eval (K := fun r => Ptr1 (a.eval x) _) (hf.eval h))
        obtain ⟨cs, hv, hsz, h⟩ := Agg1_iff h
        obtain ⟨C, T, fz, hg, had, hlen, hfz, h1, h⟩ := StN_iff h
        refine finU _ rfl hdst ?_ h
        simp only [execOp, Instr.storeAt, hx, Instr.sureAddr, Sem.run_bind, Sem.run_pure, Result.andThen_ok, hv]
        rw [had, run_storeVar_fz hi hg (.agg cs) hsz hlen hfz h1]; rfl
      · split at hl
        · rename_i hone
          simp only [Option.some.injEq] at hl; subst hl
          obtain ⟨ad, hx, h⟩ := Ptr1_iff (hf.eval (K := fun r => Ptr1 (a.eval x) _) (hf.eval h))
          obtain ⟨h, h1⟩ := St_iff h
          obtain ⟨C, T, fz, hg, had, hlen, hfz, h2, h⟩ := StN_iff h
          refine finU _ rfl hdst ?_ h
          simp only [execOp, Instr.storeAt, hx, Instr.sureAddr, Sem.run_bind, Sem.run_pure, Result.andThen_ok]
          have hcs := cells_scalar h1
          rw [had, run_storeVar_fz hi hg (a.eval v) (by rw [hcs]; simpa using (beq_iff_eq.1 hone).symm) (by rw [hcs]; exact hlen) (by rw [hcs]; exact hfz) (by rw [hcs]; exact h2), hcs]; rfl
        · simp at hl
    · simp at hl
  case h_12 x d hop hdst =>
    simp only [Option.some.injEq] at hl; subst hl
    simp only at hop hdst; subst hop
    obtain ⟨ad, hx, h⟩ := Ptr1_iff (hf.eval h)
    exact fin d _ hdst (by simp [execOp, hx]) h
  case h_13 t x f d hop hdst =>
    simp only at hop hdst; subst hop
    split at hl
    · rename_i fs hu
      split at hl
      · rename_i g hg
        split at hl
        · rename_i hc
          simp only [Option.some.injEq] at hl; subst hl
          simp only [Bool.and_eq_true, bne_iff_ne, ne_eq] at hc
          obtain ⟨ad, hx, h⟩ := Ptr1_iff (hf.eval h)
          refine fin d _ hdst ?_ h
          simp [execOp, Instr.fieldAt, run_underlying hu, hg, hx, Instr.sureAddr, fieldPlace, run_sizeOf hc.1, hc.2]
        · simp at hl
      · simp at hl
    · simp at hl
  case h_14 t x f d hop hdst =>
    simp only at hop hdst; subst hop
    split at hl
    · rename_i fs hu
      split at hl
      · rename_i g hg
        split at hl
        · rename_i hc
          simp only [Bool.and_eq_true] at hc
          obtain ⟨de, hud⟩ := Option.isSome_iff_exists.1 hc.1
          split at hl
          · rename_i hagg
            simp only [Option.some.injEq] at hl; subst hl
            obtain ⟨cs, hx, h⟩ := Agg1_iff (hf.eval h)
            refine fin d _ hdst ?_ h
            simp [execOp, Instr.field, run_underlying hu, hg, hx, asAgg, part, run_isAgg hud, hagg, run_sizeOf hc.2]
          · rename_i hagg
            simp only [Option.some.injEq] at hl; subst hl
            obtain ⟨cs, hx, h⟩ := Agg1_iff (hf.eval h)
            simp only [At] at h
            split at h
            · rename_i v hv
              refine fin d _ hdst ?_ h
              simp [execOp, Instr.field, run_underlying hu, hg, hx, asAgg, part, run_isAgg hud, hagg, hv]
            · exact h.elim
        · simp at hl
      · simp at hl
    · simp at hl
  case h_15 t x i d hop hdst =>
    simp only at hop hdst; subst hop
    split at hl
    · rename_i el hu
      split at hl
      · rename_i hi
        simp only [Option.some.injEq] at hl; subst hl
        obtain ⟨k, m, hj, h⟩ := Int1_iff (hf.eval (K := fun j => Int1 j _) (hf.eval h))
        unfold Sl1 at h
        split at h
        · rename_i ad len cap hx
          obtain ⟨hb, h⟩ := bound_iff h
          refine fin d _ hdst ?_ h
          simp [execOp, Instr.indexAt, hj, asIntOf, run_underlying hu, hx, hb, run_sizeOf hi]
        · exact h.elim
      · simp at hl
    · rename_i len el hu
      split at hl
      · rename_i hi
        simp only [Option.some.injEq] at hl; subst hl
        obtain ⟨k, m, hj, h⟩ := Int1_iff (hf.eval (K := fun j => Int1 j _) (hf.eval h))
        obtain ⟨ad, hx, h⟩ := Ptr1_iff h
        obtain ⟨hb, h⟩ := bound_iff h
        refine fin d _ hdst ?_ h
        simp [execOp, Instr.indexAt, hj, asIntOf, run_underlying hu, hx, hb, run_sizeOf hi, Instr.sureAddr]
      · simp at hl
    · simp at hl
  case h_16 t x i d hop hdst =>
    simp only at hop hdst; subst hop
    split at hl
    · rename_i hu
      simp only [Option.some.injEq] at hl; subst hl
      obtain ⟨k, m, hj, h⟩ := Int1_iff (hf.eval (K := fun j => Int1 j _) (hf.eval h))
      split at h
      · rename_i s hx
        obtain ⟨hb, h⟩ := bound_iff h
        refine fin d _ hdst ?_ h
        have hlt : m.toNat < s.size := by omega
        have hlt' : m.toNat < s.data.toList.length := by simpa using hlt
        simp [execOp, Instr.index, hj, asIntOf, run_underlying hu, hx, hb, hlt, List.getD]
        rfl
      · exact h.elim
    · rename_i len el hu
      split at hl
      · rename_i hc
        simp only [Option.some.injEq] at hl; subst hl
        simp only [Bool.and_eq_true] at hc
        obtain ⟨de, hud⟩ := Option.isSome_iff_exists.1 hc.1
        obtain ⟨k, m, hj, h⟩ := Int1_iff (hf.eval (K := fun j => Int1 j _) (hf.eval h))
        obtain ⟨cs, hx, h⟩ := Agg1_iff h
        obtain ⟨hb, h⟩ := bound_iff h
        rcases Bool.eq_false_or_eq_true (isAggT P el) with hagg | hagg
        · rw [hagg] at h
          refine fin d _ hdst ?_ h
          simp [execOp, Instr.index, hj, asIntOf, run_underlying hu, hx, hb, run_sizeOf hc.2, part, run_isAgg hud, hagg]
        · rw [hagg] at h
          simp only [Bool.false_eq_true, ↓reduceIte, At] at h
          split at h
          · rename_i v hv
            refine fin d _ hdst ?_ h
            simp [execOp, Instr.index, hj, asIntOf, run_underlying hu, hx, hb, run_sizeOf hc.2, part, run_isAgg hud, hagg, hv]
          · exact h.elim
      · simp at hl
    · simp at hl
  case h_17 x i d hop hdst =>
    simp only [Option.some.injEq] at hl; subst hl
    simp only at hop hdst; subst hop
    obtain ⟨vs, v, hx, hv, h⟩ := Tup1_iff (hf.eval h)
    exact fin d _ hdst (by simp [execOp, Instr.extract, hx, hv]) h
  case h_18 f args at_ hop =>
    simp only at hop; subst hop
    split at hl
    · rename_i fn hfn
      split at hl
      · rename_i hc
        simp only [Option.some.injEq] at hl; subst hl
        simp only [Bool.and_eq_true] at hc
        have h := hf.evals _ _ h
        have hr : (execOp a.eval ⟨dst, .call { callee := .value (.func f), args, argTypes := at_ }, type, pos, after, guard⟩).run P w = .ok (.enter f (args.toList.map a.eval).toArray) w := by
          have := callFunc_ok hfn hc.1 hc.2 (args.map a.eval) w
          have e2 : (args.toList.map a.eval).toArray = args.map a.eval := by apply Array.ext'; simp
          rw [e2]
          simp [execOp, resolve, Act.eval, Deferred.ofValue, invoke, this]
        exact .call f _ w hr h rfl
      · simp at hl
    · simp at hl
  case h_19 t ps d hop hdst =>
    simp only at hop hdst; subst hop
    split at hl
    · rename_i fs hu
      split at hl
      · rename_i hc
        simp only [Bool.and_eq_true] at hc
        simp only [Option.map_eq_some_iff] at hl
        obtain ⟨l, hl2, rfl⟩ := hl
        obtain ⟨cs, hr, hk⟩ := run_buildS (P := P) hu hc.1 hc.2 hl2 a.eval w (hf.evals _ _ h)
        exact fin d _ hdst (by simp [execOp, hr]) hk
      · simp at hl
    · rename_i n' el hu
      split at hl
      · rename_i hc
        simp only [Bool.and_eq_true] at hc
        simp only [Option.some.injEq] at hl; subst hl
        obtain ⟨cs, hr, hk⟩ := run_buildA (P := P) hu hc.1 hc.2 ps a.eval w (hf.evals _ _ h)
        exact fin d _ hdst (by simp [execOp, hr]) hk
      · simp at hl
    · simp at hl
  case h_20 t m ps d hop hdst =>
    simp only at hop hdst; subst hop
    split at hl
    · rename_i el hu
      split at hl
      · rename_i hc
        simp only [Bool.and_eq_true, decide_eq_true_eq, bne_iff_ne, ne_eq] at hc
        simp only [Option.some.injEq] at hl; subst hl
        obtain ⟨cs, hr, hk⟩ := run_bslice (P := P) hu hc.1.1.1.1 hc.1.1.1.2 hc.1.1.2 hc.1.2 hc.2 ps a.eval w (hf.evals _ _ h)
        exact finW d _ _ rfl hdst (by simp [execOp, hr]) hk
      · simp at hl
    · simp at hl
  case h_21 t x lo hi mx d hop hdst =>
    simp only at hop hdst; subst hop
    split at hl
    · rename_i hu
      split at hl
      · rename_i hmx
        simp only [Option.some.injEq] at hl; subst hl
        obtain ⟨s, hx, h2⟩ := Strg1_iff (hf.eval h)
        obtain ⟨hh, h3, hhi⟩ := bnd_iff hf h2
        obtain ⟨ll, h4, hlo⟩ := bnd_iff hf h3
        obtain ⟨g1, g2, g3, hk⟩ := h4
        have hb := run_sbounds (P := P) (ρ := a.eval) (isSlice := false) (len := s.size) (cap := s.size) (mx := none) (m := s.size) (.inl rfl) hlo hhi rfl g1 g2 g3 (Int.le_refl _) w
        refine fin d _ hdst ?_ hk
        have hmx' : mx = none := by simpa using hmx
        subst hmx'
        simp only [Option.map_none] at hb
        simp [execOp, Instr.sliceAt, Instr.slice, run_underlying hu, hx, hb]
      · simp at hl
    · rename_i el hu
      split at hl
      · rename_i hc
        simp only [Bool.and_eq_true, Bool.or_eq_true] at hc
        simp only [Option.some.injEq] at hl; subst hl
        obtain ⟨b, len, cap, hx, h2⟩ := Slc1_iff (hf.eval h)
        obtain ⟨m, h2, hm⟩ := bnd_iff hf h2
        obtain ⟨hh, h3, hhi⟩ := bnd_iff hf h2
        obtain ⟨ll, h4, hlo⟩ := bnd_iff hf h3
        obtain ⟨g0, g4, g1, g2, g3, hk⟩ := h4
        have hb := run_sbounds (P := P) (ρ := a.eval) (isSlice := true) (len := len) (cap := cap) hc.2 hlo hhi hm g1 g2 g3 g4 w
        refine fin d _ hdst ?_ hk
        simp [execOp, Instr.sliceAt, Instr.slice, run_underlying hu, hx, hb, run_sizeOf hc.1]
      · simp at hl
    · rename_i n' el hu
      split at hl
      · rename_i hc
        simp only [Bool.and_eq_true] at hc
        simp only [Option.some.injEq] at hl; subst hl
        obtain ⟨ad, hx, h2⟩ := Ptr1_iff (hf.eval h)
        obtain ⟨hh, h3, hhi⟩ := bnd_iff hf h2
        obtain ⟨ll, h4, hlo⟩ := bnd_iff hf h3
        obtain ⟨g1, g2, g3, hk⟩ := h4
        have hb := run_sbounds (P := P) (ρ := a.eval) (isSlice := false) (len := n') (cap := n') (mx := none) (m := n') (.inl rfl) hlo hhi rfl g1 g2 g3 (Int.le_refl _) w
        have hmx' : mx = none := by simpa using hc.2
        subst hmx'
        simp only [Option.map_none] at hb
        refine fin d _ hdst ?_ hk
        simp [execOp, Instr.sliceAt, run_underlying hu, hx, Instr.sureAddr, hb, run_sizeOf hc.1]
      · simp at hl
    · simp at hl
  case h_22 args at_ d hop hdst =>
    simp only at hop hdst; subst hop
    split at hl
    · rename_i t x ht hx0
      have hr : ∀ v, (Builtin.len_ at_ type (args.map a.eval)).run P w = .ok v w → (execOp a.eval ⟨dst, .call { callee := .builtin .len, args, argTypes := at_ }, type, pos, after, guard⟩).run P w = .ok (.value v) w := by
        intro v hv
        simp [execOp, resolve, invoke, builtin, hv]
      have hx1 : (args.map a.eval)[0]? = some (a.eval x) := by simp [hx0]
      split at hl
      · rename_i hu
        simp only [Option.some.injEq] at hl; subst hl
        obtain ⟨s, hx, h⟩ := Strg1_iff (hf.eval h)
        exact fin d _ hdst (hr _ (by simp [Builtin.len_, ht, hx1, run_underlying hu, hx, goInt])) h
      · rename_i el hu
        simp only [Option.some.injEq] at hl; subst hl
        obtain ⟨b, n, c, hx, h⟩ := Slc1_iff (hf.eval h)
        exact fin d _ hdst (hr _ (by simp [Builtin.len_, ht, hx1, run_underlying hu, hx, goInt])) h
      · rename_i m el hu
        simp only [Option.some.injEq] at hl; subst hl
        exact fin d _ hdst (hr _ (by simp [Builtin.len_, ht, hx1, run_underlying hu, goInt])) h
      · simp at hl
    · simp at hl
  case h_23 args at_ d hop hdst =>
    simp only at hop hdst; subst hop
    split at hl
    · rename_i t u s' x hat hargs
      have ea : args.map a.eval = #[a.eval s', a.eval x] := by apply Array.ext'; simp [hargs]
      have et : at_ = #[t, u] := by apply Array.ext'; simp [hat]
      split at hl
      · rename_i el e' hu hu2
        split at hl
        · rename_i hz
          simp only [Option.some.injEq] at hl; subst hl
          obtain ⟨r, w', hr, hk⟩ := run_append (P := P) (ty := type) (K := fun r w' => K ((d, r) :: e) w') hu (.inl ⟨e', hu2⟩) hz (hf.eval (K := fun v => AppVC P el _ _ w (a.eval s') v _) (hf.eval h))
          exact finW d r w' rfl hdst (by simp [execOp, resolve, invoke, builtin, ea, et, hr]) hk
        · simp at hl
      · rename_i el hu hu2
        split at hl
        · rename_i hz
          simp only [Option.some.injEq] at hl; subst hl
          obtain ⟨r, w', hr, hk⟩ := run_append (P := P) (ty := type) (K := fun r w' => K ((d, r) :: e) w') hu (.inr hu2) hz (hf.eval (K := fun v => AppVC P el _ _ w (a.eval s') v _) (hf.eval h))
          exact finW d r w' rfl hdst (by simp [execOp, resolve, invoke, builtin, ea, et, hr]) hk
        · simp at hl
      · simp at hl
    · simp at hl
  case h_24 args at_ hop =>
    simp only at hop; subst hop
    split at hl
    · rename_i t u x y hat hargs
      split at hl
      · rename_i el hu
        split at hl
        · rename_i hi
          simp only [Option.some.injEq] at hl; subst hl
          have h2 := hf.eval (K := fun v => Slc1 (a.eval x) _) (hf.eval h)
          obtain ⟨m, w', hr, hk⟩ := run_copy (P := P) (u := u) (ty := type) (K := fun n w' => K (putO dst (.int .i64 (n : Nat)) e) w') hu hi h2
          have ea : args.map a.eval = #[a.eval x, a.eval y] := by apply Array.ext'; simp [hargs]
          have et : at_ = #[t, u] := by apply Array.ext'; simp [hat]
          have hrun : (execOp a.eval ⟨dst, .call { callee := .builtin .copy, args, argTypes := at_ }, type, pos, after, guard⟩).run P w = .ok (.value (.int .i64 (m : Nat))) w' := by
            simp [execOp, resolve, invoke, builtin, ea, et, hr]
          exact .val _ w' hrun hk fun h => by simp [S.cls] at h
        · simp at hl
      · simp at hl
    · simp at hl
  case h_25 args at_ d hop hdst =>
    simp only at hop hdst; subst hop
    split at hl
    · rename_i t u x y hat hargs
      split at hl
      · rename_i k hu
        simp only [Option.some.injEq] at hl; subst hl
        obtain ⟨k1, m, hx, h2⟩ := Int1_iff (hf.eval (K := fun v => Int1 (a.eval x) _) (hf.eval h))
        obtain ⟨k2, m2, hy, h3⟩ := Int1_iff h2
        have ea : args.map a.eval = #[a.eval x, a.eval y] := by apply Array.ext'; simp [hargs]
        exact fin d (.int k1 (if m2 > m then m2 else m)) hdst (by simp [execOp, resolve, invoke, builtin, ea, hx, hy, Builtin.max_, Builtin.max2]) (by simpa using h3)
      · simp at hl
    · simp at hl
  case h_26 args at_ d hop hdst =>
    simp only at hop hdst; subst hop
    split at hl
    · rename_i t u x y hat hargs
      split at hl
      · rename_i k hu
        simp only [Option.some.injEq] at hl; subst hl
        obtain ⟨k1, m, hx, h2⟩ := Int1_iff (hf.eval (K := fun v => Int1 (a.eval x) _) (hf.eval h))
        obtain ⟨k2, m2, hy, h3⟩ := Int1_iff h2
        have ea : args.map a.eval = #[a.eval x, a.eval y] := by apply Array.ext'; simp [hargs]
        exact fin d (.int k1 (if m2 < m then m2 else m)) hdst (by simp [execOp, resolve, invoke, builtin, ea, hx, hy, Builtin.min_, Builtin.min2]) (by simpa using h3)
      · simp at hl
    · simp at hl
  case h_27 f args at_ hop =>
    simp only [Option.some.injEq] at hl; subst hl
    simp only at hop; subst hop
    obtain ⟨g, caps, hfv, h2⟩ := Fn1_iff (hf.eval (x := .tmp f) h)
    obtain ⟨hfn, h3⟩ := h2
    have h4 := hf.evals _ _ h3
    split at hfn
    · rename_i fn hfn'
      simp only [Bool.and_eq_true] at hfn
      have hr : (execOp a.eval ⟨dst, .call { callee := .value (.tmp f), args, argTypes := at_ }, type, pos, after, guard⟩).run P w = .ok (.enter g (args.toList.map a.eval ++ caps).toArray) w := by
        have := callFunc_ok hfn' hfn.1 hfn.2 (args.map a.eval ++ caps.toArray) w
        have e2 : (args.toList.map a.eval ++ caps).toArray = args.map a.eval ++ caps.toArray := by apply Array.ext'; simp
        rw [e2]
        simp [execOp, resolve, hfv, Deferred.ofValue, invoke, this]
      exact .call g _ w hr h4 rfl
    · simp at hfn
  case h_28 f first caps d hop hdst =>
    simp only at hop hdst; subst hop
    split at hl
    · rename_i hfirst
      simp only [Option.some.injEq] at hl; subst hl
      have h2 := hf.evals _ _ h
      have e1 : first = #[] := by simpa using hfirst
      have e2 : (caps.toList.map a.eval).toArray = caps.map a.eval := by apply Array.ext'; simp
      rw [e2] at h2
      refine fin d _ hdst ?_ h2
      simp [execOp, Instr.makeFunc, e1]
    · simp at hl
  case h_29 t n' m d hop hdst =>
    simp only at hop hdst; subst hop
    split at hl
    · rename_i el hu
      split at hl
      · rename_i hc
        simp only [Bool.and_eq_true, bne_iff_ne, ne_eq] at hc
        simp only [Option.some.injEq] at hl; subst hl
        obtain ⟨k1, n1, hx, h2⟩ := Int1_iff (hf.eval (K := fun v => Int1 (a.eval n') _) (hf.eval h))
        obtain ⟨k2, m1, hy, h3⟩ := Int1_iff h2
        obtain ⟨g1, g2, g3, g4, hk⟩ := h3
        have hr := run_mkSl (P := P) hu hc.1 hc.2 hx hy g1 g2 g3 g4 w
        exact finW d _ _ rfl hdst (by simp [execOp, hr]) hk
      · simp at hl
    · simp at hl
  case h_30 t x d hop hdst =>
    simp only at hop hdst; subst hop
    split at hl
    · simp at hl
    · rename_i de hne hu
      simp only [Option.some.injEq] at hl; subst hl
      refine fin d _ hdst ?_ (hf.eval h)
      simp only [execOp, Instr.makeInterface, Sem.run_bind, run_underlying hu, Result.andThen_ok]
      cases de <;> first | rfl | exact absurd hu (hne _)
    · simp at hl
  case h_31 x hop hdst =>
    simp only [Option.some.injEq] at hl; subst hl
    simp only at hop hdst; subst hop
    have h2 := hf.eval h
    split at h2
    · rename_i t v hx
      exact .pan _ (by simp [execOp, hx, run_panic_iface]) h2 rfl
    · exact h2.elim
  case h_32 t d hop hdst =>
    simp only [Option.some.injEq] at hl; subst hl
    simp only at hop hdst; subst hop
    have hm : (Instr.makeMap t none).run P w = .ok (.map (some w.heap.size)) (w.alloc (.map #[] 0)) := rfl
    exact finW d (.map (some w.heap.size)) (w.alloc (.map #[] 0)) rfl hdst (by simp [execOp, hm]) h
  case h_33 args at_ d hop hdst =>
    simp only at hop hdst; subst hop
    split at hl
    · rename_i x hargs
      simp only [Option.some.injEq] at hl; subst hl
      obtain ⟨b, n, c, hx, hc, h2⟩ := Slc1_iff (hf.eval h)
      have ea : args.map a.eval = #[a.eval x] := by apply Array.ext'; simp [hargs]
      refine fin d _ hdst ?_ h2
      have hr : (Builtin.unsafeSliceData_ at_ type #[a.eval x]).run P w = .ok (.pointer b) w := by
        rw [hx]
        cases b with
        | none => rfl
        | some b => rcases hc with hc | hc
                    · cases hc
                    · exact Lib.run_unsafeSliceData_row w at_ type b n c hc
      simp [execOp, resolve, invoke, builtin, ea, hr]
    · simp at hl
  case h_34 args at_ d hop hdst =>
    simp only at hop hdst; subst hop
    split at hl
    · rename_i pt it x n hat hargs
      simp only [Option.some.injEq] at hl; subst hl
      obtain ⟨k, m, hv, hk1, h2⟩ := Int1_iff (hf.eval (K := fun v => Int1 v _) (hf.eval h))
      subst hk1
      have ea : args.map a.eval = #[a.eval x, a.eval n] := by apply Array.ext'; simp [hargs]
      have et : at_ = #[pt, it] := by apply Array.ext'; simp [hat]
      obtain ⟨s, w', hr, hk⟩ := run_uStr (P := P) (it := it) (ty := type) h2
      rw [← hv] at hr
      exact finW d (.string s) w' rfl hdst (by simp [execOp, resolve, invoke, builtin, ea, et, hr]) hk
    · simp at hl
  case h_35 x xt t ok d hop hdst =>
    simp only at hop hdst; subst hop
    split at hl
    · simp at hl
    · rename_i de hne hu
      split at hl
      · rename_i hz
        simp only [Option.some.injEq] at hl; subst hl
        obtain ⟨v, hr, hk⟩ := run_tas (xt := xt) hu (fun ms he => by subst he; exact hne _ rfl) hz (hf.eval h) w
        exact fin d v hdst (by simp [execOp, hr]) hk
      · simp at hl
    · simp at hl
  case h_36 x m args at_ hop =>
    simp only at hop; subst hop
    simp only [Option.some.injEq] at hl; subst hl
    have h2 := hf.eval h
    unfold IfV at h2
    split at h2
    · rename_i t v hx
      obtain ⟨f, hm, hfn, h3⟩ := h2
      have h3 := hf.evals _ _ h3
      unfold fnBody at hfn
      split at hfn
      · rename_i fn hfn'
        simp only [Bool.and_eq_true] at hfn
        have hr : (execOp a.eval ⟨dst, .call { callee := .invoke x m, args, argTypes := at_ }, type, pos, after, guard⟩).run P w = .ok (.enter f (v :: args.toList.map a.eval).toArray) w := by
          have := callFunc_ok hfn' hfn.1 hfn.2 (#[v] ++ args.map a.eval) w
          have e2 : (v :: args.toList.map a.eval).toArray = #[v] ++ args.map a.eval := by apply Array.ext'; simp
          rw [e2]
          have e0 : (#[Value.iface t v] ++ args.map a.eval)[0]? = some (.iface t v) := by rw [Array.getElem?_append_left (by simp)]; rfl
          have e1 : (args.map a.eval).extract 0 args.size = args.map a.eval := by rw [← Array.size_map (f := a.eval)]; exact Array.extract_size
          have hn : P.types.size + Made.depth = (P.types.size + Made.depth - 1) + 1 := by unfold Made.depth; omega
          have hm2 := run_meth hm v (P.types.size + Made.depth - 1) w
          rw [← hn] at hm2
          simp [execOp, resolve, hx, invoke, e0, callMethod, Sem.run_bind, run_program, hm2, e1, this]
        exact .call f _ w hr h3 rfl
      · simp at hfn
    · exact h2.elim
  case h_37 t x d hop hdst =>
    simp only at hop hdst; subst hop
    split at hl
    · rename_i hu
      simp only [Option.some.injEq] at hl; subst hl
      obtain ⟨s, hx, h2⟩ := Strg1_iff (hf.eval h)
      exact finW d _ _ rfl hdst (by simp [execOp, hx, run_range_string w t s hu]; rfl) h2
    · simp at hl
  case h_38 x d hop hdst =>
    simp only [Option.some.injEq] at hl; subst hl
    simp only at hop hdst; subst hop
    obtain ⟨ad, hx, k, s, pos, rfl, hk, h1, h2⟩ := Ptr1_iff (hf.eval h)
    rcases Nat.lt_or_ge pos s.size with hlt | hge
    · exact finW d _ _ rfl hdst (by simp [execOp, hx, Lib.run_next_any_at w k s pos type hk hlt]; rfl) (h1 hlt)
    · exact finW d _ _ rfl hdst (by simp [execOp, hx, Lib.run_next_end_at w k s pos type hk (by omega)]) (h2 hge)
  case h_39 => simp at hl

theorem op_sound (hl : lower P o = some s) (hd : (match o.dst with | some d => decide (d < n) | none => true) = true) (hf : Fits ds n e a) (h : opVC P s K pan e w)
    (hK : ∀ e a w, Fits ds n e a → K e w → next a w) (hp : ∀ ch e a w, Fits ds n e a → pan ch w → Q (.panic ch) a w) : o.wp P a w next Q := by
  cases op_out hl hf h with
  | val v w' h2 h3 h4 =>
    refine wp_val h2 (hK _ _ _ ?_ h3)
    cases hdst : o.dst with
    | none => exact hf
    | some d => rw [hdst] at hd; exact hf.put (of_decide_eq_true hd) v
  | unit w' h1 h2 h3 => refine wp_unit h2 (hK _ _ _ ?_ h3); rw [h1]; exact hf.none undef
  | call f vs w' h2 h3 => unfold Oper.wp; rw [h2]; exact callK hf hd hK hp h3
  | pan v h2 h3 => unfold Oper.wp; rw [h2]; exact hp _ _ _ _ hf h3
end

end X
end Go.Proofs.YtgibicifflfpfaaDoor
