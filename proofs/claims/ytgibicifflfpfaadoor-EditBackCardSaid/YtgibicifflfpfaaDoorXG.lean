/-
  The engine: a function that defers one closure, and whose body may panic. Conditions: none.
-/
import Derived.Test.YtgibicifflfpfaaDoorXU
import Derived.Recover
set_option autoImplicit false
set_option linter.unusedVariables false
namespace Go.Proofs.YtgibicifflfpfaaDoor
namespace X

/-- A region without guards; what panics knows the slots. -/
def vcOpsE (P : Program) (l : List G) (K : Env → World → Prop) (pan : Env → List PanicEntry → World → Prop) (e : Env) (w : World) : Prop :=
  match l with
  | [] => K e w
  | .keep ks :: r => vcOpsE P r K pan (X.keep e ks) w
  | .op s none :: r => opVC P s (vcOpsE P r K pan) (pan e) e w
  | .op _ (some _) :: _ => False
section
variable {ds : List Deferred} {P : Program} {n : Nat}
theorem op_sound1 {o : Oper} {s : S} {e : Env} {a : Act} {w : World} {K : Env → World → Prop} {pan : List PanicEntry → World → Prop} {next : Act → World → Prop} {Q : Exit → Act → World → Prop}
    (hl : lower P o = some s) (hd : (match o.dst with | some d => decide (d < n) | none => true) = true) (hf : Fits ds n e a) (h : opVC P s K pan e w)
    (hK : ∀ e a w, Fits ds n e a → K e w → next a w) (hp : ∀ ch w, pan ch w → Q (.panic ch) a w) : o.wp P a w next Q := by
  have hput : ∀ v, Fits ds n (putO o.dst v e) (a.put o.dst v) := by
    intro v
    cases hdst : o.dst with
    | none => exact hf
    | some d => rw [hdst] at hd; exact hf.put (of_decide_eq_true hd) v
  cases op_out hl hf h with
  | val v w' h2 h3 h4 => exact wp_val h2 (hK _ _ _ (hput v) h3)
  | unit w' h1 h2 h3 => refine wp_unit h2 (hK _ _ _ ?_ h3); rw [h1]; exact hf.none undef
  | call f vs w' h2 h3 =>
    unfold Oper.wp; rw [h2]
    refine h3.mono ?_
    intro en w'' hr
    cases en with
    | returned v => exact hK _ _ _ (hput v) hr
    | panicked ch => exact hp _ _ hr
    | outgrown => exact hr.elim
  | pan v h2 h3 => unfold Oper.wp; rw [h2]; exact hp _ _ h3
theorem opsE_sound {ops : Array Oper} {K : Env → World → Prop} {pan : Env → List PanicEntry → World → Prop} {Q : Exit → Act → World → Prop}
    (hK : ∀ e a w, Fits ds n e a → K e w → Q .normal a w) (hp : ∀ e ch a w, Fits ds n e a → pan e ch w → Q (.panic ch) a w) :
    ∀ (gs : List G) (is : List Nat) (e : Env) (a : Act) (w : World), is.mapM (lowerG P n ops) = some (gs.filter G.isOp) → Fits ds n e a → vcOpsE P gs K pan e w → wpOps P ops Q is a w := by
  intro gs
  induction gs with
  | nil =>
    intro is e a w hm hf h
    cases is with
    | nil => exact hK e a w hf h
    | cons i is =>
      simp only [List.mapM_cons, List.filter_nil, Option.bind_eq_bind, Option.pure_def, Option.bind_eq_some_iff] at hm
      obtain ⟨g, _, gs, _, hc⟩ := hm
      simp at hc
  | cons g gs ih =>
    intro is e a w hm hf h
    cases g with
    | keep ks =>
      rw [List.filter_cons_of_neg (by simp [G.isOp])] at hm
      exact ih is _ a w hm (hf.keep ks) (by simpa only [vcOpsE] using h)
    | op s g =>
      rw [List.filter_cons_of_pos (by simp [G.isOp])] at hm
      cases g with
      | some _ => exact h.elim
      | none =>
        cases is with
        | nil => simp at hm
        | cons i is =>
          simp only [List.mapM_cons, Option.bind_eq_bind, Option.pure_def, Option.bind_eq_some_iff] at hm
          obtain ⟨g', hg', gs', hgs', hc⟩ := hm
          simp only [Option.some.injEq, List.cons.injEq] at hc
          obtain ⟨rfl, rfl⟩ := hc
          unfold lowerG at hg'
          split at hg'
          · simp at hg'
          · rename_i o ho
            split at hg'
            · rename_i s' hl hd
              split at hg'
              · rename_i hgd
                simp only [Option.some.injEq, G.op.injEq] at hg'
                obtain ⟨rfl, _⟩ := hg'
                have hw : Region.wanted o (yielded ops a.tmps) = true := by simp [Region.wanted, hgd]
                simp only [wpOps, ho, hw, if_true]
                exact .inl (op_sound1 hl hd hf (by simpa only [vcOpsE] using h) (fun e a w hf h => ih is e a w hgs' hf h) (fun ch w h => hp e ch a w hf h))
              · split at hg' <;> simp at hg'
            · simp at hg'
/-- The region that makes a closure and defers it. -/
theorem defer_region {id t : Nat} {g : FuncId} {caps : List Operand} {o1 o2 : Oper} {e : Env} {a : Act} {w : World} {Q : Exit → Act → World → Prop}
    (h1 : o1.op = .makeFunc (.func g) #[] caps.toArray) (d1 : o1.dst = some t) (g1 : o1.guard = none)
    (h2 : o2.op = .defer { callee := .value (.tmp t), args := #[], argTypes := #[] }) (d2 : o2.dst = none) (g2 : o2.guard = none) (ht : t < n)
    (hf : Fits [] n e a) (h : evs e caps fun vs => ∀ a', Fits [{ target := .fn (.func g) vs.toArray, args := #[] }] n ((t, .func (.func g) #[] vs.toArray) :: e) a' → Q .normal a' w) :
    (Code.region id #[o1, o2] false).wp P Q a w := by
  have h := hf.evals _ _ h
  refine wp_region ?_
  have w1 : Region.wanted o1 (yielded #[o1, o2] a.tmps) = true := by simp [Region.wanted, g1]
  have r1 : (execOp a.eval o1).run P w = .ok (.value (.func (.func g) #[] (caps.map a.eval).toArray)) w := by
    simp [execOp, h1, Instr.makeFunc]
  have f1 := hf.put (d := t) ht (.func (.func g) #[] (caps.map a.eval).toArray)
  show wpOps P #[o1, o2] Q [0, 1] a w
  simp only [wpOps, List.getElem?_toArray, List.getElem?_cons_zero, w1, if_true]
  refine .inl (wp_val r1 ?_)
  rw [d1]
  generalize ha1 : a.put (some t) (.func (.func g) #[] (caps.map a.eval).toArray) = a1 at *
  have w2 : Region.wanted o2 (yielded #[o1, o2] a1.tmps) = true := by simp [Region.wanted, g2]
  have v1 : a1.eval (.tmp t) = .func (.func g) #[] (caps.map a.eval).toArray := f1.eval (K := fun v => v = _) (by simp [ev, lk, find?])
  have r2 : (execOp a1.eval o2).run P w = .ok (.defer { target := .fn (.func g) (caps.map a.eval).toArray, args := #[] }) w := by
    simp [execOp, h2, resolve, v1, Deferred.ofValue]
  simp only [wpOps, List.getElem?_cons_succ, List.getElem?_cons_zero, w2, if_true]
  refine .inl ?_
  unfold Oper.wp; rw [r2]
  refine h _ ?_
  rw [d2]
  exact ⟨f1.1, by simp [Act.put, f1.2.1], f1.2.2⟩
theorem lk_mono {A B : Value → Prop} : ∀ (e : Env) (t : Nat), (∀ v, A v → B v) → lk e t A → lk e t B
  | [], _, _, h => h.elim
  | (k, v) :: r, t, hab, h => by
    simp only [lk] at h ⊢
    split
    · rename_i hk; rw [if_pos hk] at h; exact hab _ h
    · rename_i hk; rw [if_neg hk] at h; exact lk_mono r t hab h
/-- Behind the deferred closure: the results. -/
def doorPost (rs : List RV) (R : Ending → World → Prop) (e : Env) : Ending → FrameMode → World → Prop := fun en u' w' =>
  match en with
  | .returned _ => settle u' = .returning ∧ rets rs e w' fun vals => R (.returned (tup vals)) w'
  | _ => False
theorem door {fn : Func} {rs : List RV} {R : Ending → World → Prop} {e : Env} {a : Act} {w : World} {g : FuncId} {vs : List Value} {u : FrameMode}
    (hr : fn.results.toList.mapM (lowerRV P) = some rs) (hg : fnBody P g = true) (hu : u ≠ .run) (hf : Fits [{ target := .fn (.func g) vs.toArray, args := #[] }] n e a)
    (h : CallsD P g vs.toArray u w (doorPost rs R e)) : Leaves P fn a.tmps R a.defers u w := by
  rw [hf.2.1]
  unfold fnBody at hg
  split at hg
  · rename_i fg hfg
    simp only [Bool.and_eq_true] at hg
    have hi : (invoke (.fn (.func g) vs.toArray) #[]).run P w = .ok (.enter g vs.toArray) w := by
      have := callFunc_ok hfg hg.1 hg.2 (#[] ++ vs.toArray) w
      simpa [invoke] using this
    refine leaves_cons hu hi (h.mono ?_)
    intro en u' w' hd
    cases en with
    | returned v =>
      obtain ⟨hs, hrt⟩ := hd
      show Leaves P fn a.tmps R [] (settle u') w'
      rw [hs]
      exact run_results (K := fun v => R (.returned v) w') hf hr hrt
    | panicked ch => exact hd.elim
    | outgrown => exact hd.elim
  · cases hg
theorem calls_defer {f g : FuncId} {fn : Func} {rs : List RV} {args : List Value} {w : World} {R : Ending → World → Prop} {i0 i1 i2 i3 t : Nat} {ops0 ops2 ops3 : Array Oper} {o1 o2 : Oper} {gs0 gs2 gs3 : List G} {caps : List Operand}
    (hf : P.funcs[f]? = some fn) (hn : fn.ntmps = n)
    (hb : fn.body = some (.seq (.region i0 ops0 false) (.seq (.region i1 #[o1, o2] false) (.seq (.region i2 ops2 false) (.seq (.region i3 ops3 false) .ret)))))
    (hl0 : (List.range ops0.size).mapM (lowerG P n ops0) = some (gs0.filter G.isOp)) (hl2 : (List.range ops2.size).mapM (lowerG P n ops2) = some (gs2.filter G.isOp)) (hl3 : (List.range ops3.size).mapM (lowerG P n ops3) = some (gs3.filter G.isOp))
    (h1 : o1.op = .makeFunc (.func g) #[] caps.toArray) (d1 : o1.dst = some t) (g1 : o1.guard = none)
    (h2 : o2.op = .defer { callee := .value (.tmp t), args := #[], argTypes := #[] }) (d2 : o2.dst = none) (g2 : o2.guard = none) (ht : t < n)
    (hr : fn.results.toList.mapM (lowerRV P) = some rs) (ha : args.length ≤ n) (hg : fnBody P g = true)
    (h : vcOpsE P gs0 (fun e w => evs e caps fun vs => vcOpsE P gs2 (fun e w => vcOpsE P gs3 (fun e w => CallsD P g vs.toArray .returning w (doorPost rs R e)) (fun e ch w => CallsD P g vs.toArray (.panicking ch) w (doorPost rs R e)) e w) (fun _ _ _ => False)
      ((t, .func (.func g) #[] vs.toArray) :: e) w) (fun _ _ _ => False) (argEnv 0 args) w) : Calls P f args.toArray w R := by
  refine calls_of_wp_defers hf hb ?_
  have hf0 : Fits [] n (argEnv 0 args) { tmps := args.toArray ++ Array.replicate (fn.ntmps - args.toArray.size) undef, defers := [] } := by
    refine ⟨by simp; omega, rfl, fun t v hv => ?_⟩
    obtain ⟨_, hv⟩ := find_argEnv args 0 t v hv
    have ht : t < args.length := by
      rcases Nat.lt_or_ge t args.length with h | h
      · exact h
      · rw [Nat.sub_zero, List.getElem?_eq_none h] at hv; cases hv
    rw [Array.getElem?_append_left (by simpa using ht)]
    simpa using hv
  refine wp_seq (wp_region (opsE_sound (ds := []) ?_ ?_ gs0 _ _ _ _ hl0 hf0 h))
  rotate_left
  · intro e ch a w _ h; exact h.elim
  intro e a w hfe h
  refine wp_seq (defer_region (n := n) h1 d1 g1 h2 d2 g2 ht hfe ?_)
  -- what the closure captures is known
  have key : ∀ (xs : List Operand) (K K' : List Value → Prop), (∀ vs, K vs → K' vs) → evs e xs K → evs e xs K' := by
    intro xs
    induction xs with
    | nil => intro K K' hk h; exact hk _ h
    | cons x xs ih =>
      intro K K' hk h
      have step : ∀ (x : Operand) (A B : Value → Prop), (∀ v, A v → B v) → ev e x A → ev e x B := by
        intro x A B hab h
        cases x <;> first
          | exact hab _ h
          | exact lk_mono _ _ hab h
      exact step x _ _ (fun v h => ih _ _ (fun vs hvs => hk _ hvs) h) h
  refine key caps _ _ ?_ h
  intro vs h a2 hf2
  refine wp_seq (wp_region (opsE_sound ?_ ?_ gs2 _ _ _ _ hl2 hf2 h))
  rotate_left
  · intro e ch a w _ h; exact h.elim
  intro e3 a3 w3 hf3 h
  refine wp_seq (wp_region (opsE_sound ?_ ?_ gs3 _ _ _ _ hl3 hf3 h))
  rotate_left
  · intro e ch a w hfe h
    exact door hr hg (by simp) hfe h
  intro e4 a4 w4 hf4 h
  exact wp_ret (door hr hg (by simp) hf4 h)
/-- What a deferred closure leaves, for a frame in mode u'. -/
def dPost (R : Ending → FrameMode → World → Prop) (u' : FrameMode) : Post where
  nor := fun _ w => R (.returned (.tuple #[])) u' w
  ret := fun _ w => R (.returned (.tuple #[])) u' w
  ext := fun _ _ _ => False
  pan := fun ch w => R (.panicked ch) u' w
/-- A deferred closure that begins with recover. -/
theorem calls_recover {g : FuncId} {fn : Func} {c2 : Code} {sc2 : C} {ord : Nat → Option Rep} {o1 o2 : Oper} {i0 t1 t2 : Nat} {args : List Value} {u u' : FrameMode} {v : Value} {w : World} {R : Ending → FrameMode → World → Prop}
    (hf : P.funcs[g]? = some fn) (hn : fn.ntmps = n) (hb : fn.body = some (.seq (.region i0 #[o1, o2] false) c2)) (hl : lowerC P n ord c2 = some sc2.erase) (hr : fn.results = #[]) (ha : args.length ≤ n)
    (h1 : o1.op = .call { callee := .builtin .recover, args := #[], argTypes := #[] }) (d1 : o1.dst = some t1) (g1 : o1.guard = none)
    (h2 : o2.op = .assign (.tmp t1)) (d2 : o2.dst = some t2) (g2 : o2.guard = none) (ht1 : t1 < n) (ht2 : t2 < n)
    (hu : (∃ older, u = .panicking ({ v, recovered := false } :: older) ∧ u' = .panicking ({ v, recovered := true } :: older)) ∨ (u = .returning ∧ u' = .returning ∧ v = .nilIface))
    (h : vc P sc2 (dPost R u') ((t2, v) :: (t1, v) :: argEnv 0 args) w) : CallsD P g args.toArray u w R := by
  refine callsD_of_wpS hf hb fun c₀ cs hm => ?_
  have hf0 : Fits [] n (argEnv 0 args) { tmps := args.toArray ++ Array.replicate (fn.ntmps - args.toArray.size) undef, defers := [] } := by
    refine ⟨by simp; omega, rfl, fun t v hv => ?_⟩
    obtain ⟨_, hv⟩ := find_argEnv args 0 t v hv
    have ht : t < args.length := by
      rcases Nat.lt_or_ge t args.length with h | h
      · exact h
      · rw [Nat.sub_zero, List.getElem?_eq_none h] at hv; cases hv
    rw [Array.getElem?_append_left (by simpa using ht)]
    simpa using hv
  generalize ({ tmps := args.toArray ++ Array.replicate (fn.ntmps - args.toArray.size) undef, defers := [] } : Act) = a0 at *
  refine wpS_seq (wpS_region ?_)
  show wpOpsS P #[o1, o2] _ [0, 1] a0 (c₀ :: cs) w
  have w1 : Region.wanted o1 (yielded #[o1, o2] a0.tmps) = true := by simp [Region.wanted, g1]
  have r1 : (execOp a0.eval o1).run P w = .ok .recover w := by simp [execOp, h1, resolve, invoke, builtin]
  have f1 := hf0.put (d := t1) ht1 v
  have f2 := f1.put (d := t2) ht2 v
  have go : ∀ cs', cs' = ({ c₀ with mode := u' } : Frame) :: cs → wpOpsS P #[o1, o2] (Exit.thenS (c2.wpS P (bodyPostS P fn c₀ cs R)) (bodyPostS P fn c₀ cs R)) [1] (a0.put (some t1) v) cs' w := by
    rintro _ rfl
    generalize a0.put (some t1) v = a1 at *
    have w2 : Region.wanted o2 (yielded #[o1, o2] a1.tmps) = true := by simp [Region.wanted, g2]
    have v1 : a1.eval (.tmp t1) = v := f1.eval (K := fun x => x = v) (by simp [ev, lk])
    have r2 : (execOp a1.eval o2).run P w = .ok (.value v) w := by simp [execOp, h2, v1]
    simp only [wpOpsS, List.getElem?_toArray, List.getElem?_cons_succ, List.getElem?_cons_zero, w2, if_true, r2]
    simp only [Oper.upon, Exit.thenS, d2]
    refine wpS_of_wp (wp_mono (vc_sound (ds := []) c2 sc2 _ _ _ w hl f2 h) ?_)
    intro x a w hx
    cases x with
    | normal => obtain ⟨e, hfe, hk⟩ := hx; obtain ⟨v, hv, hR⟩ := run_results (P := P) (fn := fn) (rs := []) (K := fun v => R (.returned v) u' w) hfe (by rw [hr]; rfl) hk; exact ⟨hfe.2.1, u', rfl, v, hv, hR⟩
    | ret => obtain ⟨e, hfe, hk⟩ := hx; obtain ⟨v, hv, hR⟩ := run_results (P := P) (fn := fn) (rs := []) (K := fun v => R (.returned v) u' w) hfe (by rw [hr]; rfl) hk; exact ⟨hfe.2.1, u', rfl, v, hv, hR⟩
    | panic ch => exact ⟨hx.1, u', rfl, hx.2⟩
    | exit id => obtain ⟨e, hfe, hk⟩ := hx; exact hk.elim
    | goto l => exact hx.elim
    | outgrown => exact hx.elim
  generalize ([1] : List Nat) = l1 at go ⊢
  simp only [wpOpsS, List.getElem?_toArray, List.getElem?_cons_zero, w1, if_true, r1, d1]
  rcases hu with ⟨older, e1, e2⟩ | ⟨e1, e2, e3⟩
  · have hrec : recoverD (c₀ :: cs) = some (v, ({ c₀ with mode := u' } : Frame) :: cs) := by simp only [recoverD, hm, e1, e2]
    simp only [hrec]
    exact go _ rfl
  · have hrec : recoverD (c₀ :: cs) = none := by simp only [recoverD, hm, e1]
    simp only [hrec]
    have hc : (c₀ :: cs) = ({ c₀ with mode := u' } : Frame) :: cs := by rw [e2, ← e1, ← hm]
    have := go _ hc
    rw [e3] at this
    exact this
end
end X
end Go.Proofs.YtgibicifflfpfaaDoor
