/-
  The engine, part 5: a function's results, and its call. Conditions: none.
-/
import Derived.Test.YtgibicifflfpfaaDoorXC
set_option autoImplicit false
namespace Go.Proofs.YtgibicifflfpfaaDoor
namespace X
variable {ds : List Deferred}

inductive RV where
  | t (t : Nat)
  | c1 (t : Nat)
  | cN (t n : Nat)

def lowerRV (P : Program) : ResultVar → Option RV
  | .tmp t => some (.t t)
  | .cell t ty => if (P.underlying ty).isSome && hasInfo P ty then (if isAggT P ty then some (.cN t (P.cellsOf ty)) else some (.c1 t)) else none

def rets (rs : List RV) (e : Env) (w : World) (K : List Value → Prop) : Prop :=
  match rs with
  | [] => K []
  | .t t :: r => lk e t fun v => rets r e w fun vs => K (v :: vs)
  | .c1 t :: r => lk e t fun u => Ptr1 u fun a => Ld w a fun v => rets r e w fun vs => K (v :: vs)
  | .cN t n :: r => lk e t fun u => Ptr1 u fun a => LdN w a n fun cs => rets r e w fun vs => K (.agg cs :: vs)

def tup (vs : List Value) : Value := match vs with | [v] => v | vs => .tuple vs.toArray

def endPost (rs : List RV) (R : Ending → World → Prop) : Post where
  nor := fun e w => rets rs e w fun vs => R (.returned (tup vs)) w
  ret := fun e w => rets rs e w fun vs => R (.returned (tup vs)) w
  ext := fun _ _ _ => False
  pan := fun ch w => R (.panicked ch) w

def argEnv (i : Nat) : List Value → Env
  | [] => []
  | v :: vs => (i, v) :: argEnv (i + 1) vs

theorem find_argEnv : ∀ (vs : List Value) (i t : Nat) (v : Value), find? (argEnv i vs) t = some v → i ≤ t ∧ vs[t - i]? = some v
  | [], _, _, _, h => by simp [argEnv, find?] at h
  | u :: vs, i, t, v, h => by
    simp only [argEnv, find?] at h
    split at h
    · rename_i hk; subst hk; simp only [Option.some.injEq] at h; subst h; exact ⟨Nat.le_refl _, by simp⟩
    · obtain ⟨h1, h2⟩ := find_argEnv vs (i + 1) t v h
      refine ⟨by omega, ?_⟩
      have : t - i = (t - (i + 1)) + 1 := by omega
      rw [this, List.getElem?_cons_succ]; exact h2

theorem run_rets {P : Program} {n : Nat} {e : Env} {a : Act} {w : World} (hf : Fits ds n e a) : ∀ (vars : List ResultVar) (rs : List RV) (K : List Value → Prop), vars.mapM (lowerRV P) = some rs → rets rs e w K →
    ∃ vs, (vars.mapM (fun | .tmp t => pure (a.tmps.getD t undef) | .cell x t => do loadVar t (← asAddr (a.tmps.getD x undef)) : ResultVar → Sem Value)).run P w = .ok vs w ∧ K vs := by
  intro vars
  have get : ∀ {t : Nat} {v : Value}, find? e t = some v → a.tmps.getD t undef = v := by
    intro t v h
    have := hf.2.2 t v h
    simp [Array.getD_eq_getD_getElem?, this]
  induction vars with
  | nil =>
    intro rs K hm h
    simp at hm; subst hm
    exact ⟨[], rfl, h⟩
  | cons x vars ih =>
    intro rs K hm h
    simp only [List.mapM_cons, Option.bind_eq_bind, Option.pure_def, Option.bind_eq_some_iff, Option.some.injEq] at hm
    obtain ⟨r, hr, rs', hrs, rfl⟩ := hm
    cases x with
    | tmp t =>
      simp only [lowerRV, Option.some.injEq] at hr; subst hr
      obtain ⟨v, hv, h⟩ := lk_iff h
      obtain ⟨vs, hvs, hk⟩ := ih rs' _ hrs h
      exact ⟨v :: vs, by simp only [List.mapM_cons, Sem.run_bind, Sem.run_pure, Result.andThen_ok, get hv, hvs], hk⟩
    | cell t ty =>
      simp only [lowerRV] at hr
      split at hr
      · rename_i hc
        simp only [Bool.and_eq_true] at hc
        obtain ⟨de, hu⟩ := Option.isSome_iff_exists.1 hc.1
        split at hr
        · rename_i hagg
          simp only [Option.some.injEq] at hr; subst hr
          obtain ⟨u, hu', h1⟩ := lk_iff h
          obtain ⟨ad, hx, h2⟩ := Ptr1_iff h1
          obtain ⟨C, T, fz, hg, had, hl, h3⟩ := LdN_iff h2
          obtain ⟨vs, hvs, hk⟩ := ih rs' _ hrs h3
          subst hx
          refine ⟨_, ?_, hk⟩
          have hld := run_loadAgg hu hagg hc.2 hg hl
          rw [← had] at hld
          have hA : (asAddr (.pointer (some ad))).run P w = .ok ad w := rfl
          simp only [List.mapM_cons, Sem.run_bind, Sem.run_pure, Result.andThen_ok, get hu', hA, hld, hvs]
        · rename_i hagg
          simp only [Option.some.injEq] at hr; subst hr
          obtain ⟨u, hu', h1⟩ := lk_iff h
          obtain ⟨ad, hx, h2⟩ := Ptr1_iff h1
          obtain ⟨v, hv, h3⟩ := Ld_iff h2
          obtain ⟨vs, hvs, hk⟩ := ih rs' _ hrs h3
          subst hx
          refine ⟨_, ?_, hk⟩
          have hld := run_loadScalar hu (by simpa using hagg) hv
          have hA : (asAddr (.pointer (some ad))).run P w = .ok ad w := rfl
          simp only [List.mapM_cons, Sem.run_bind, Sem.run_pure, Result.andThen_ok, get hu', hA, hld, hvs]
      · simp at hr

theorem run_results {P : Program} {fn : Func} {n : Nat} {e : Env} {a : Act} {w : World} (hf : Fits ds n e a) {rs : List RV} {K : Value → Prop} (hm : fn.results.toList.mapM (lowerRV P) = some rs)
    (h : rets rs e w fun vs => K (tup vs)) : ∃ v, (results fn a.tmps).run P w = .ok v w ∧ K v := by
  obtain ⟨vs, hvs, hk⟩ := run_rets hf _ _ _ hm h
  refine ⟨tup vs, ?_, hk⟩
  unfold results
  rw [Array.mapM_eq_mapM_toList, Sem.run_bind, Sem.run_map]
  have key : ∀ (r : Result (List Value)), r = .ok vs w → ((r.andThen fun a w' => Result.ok a.toArray w').andThen fun (a : Array Value) w' => Sem.run P (pure (if h : a.size = 1 then a[0] else Value.tuple a)) w') = .ok (tup vs) w := by
    rintro _ rfl
    cases vs with
    | nil => rfl
    | cons v vs => cases vs <;> rfl
  exact key _ hvs

theorem calls_of_vc {P : Program} {f : FuncId} {fn : Func} {sc : C} {n : Nat} {rs : List RV} {ord : Nat → Option Rep} {args : List Value} {w : World} {R : Ending → World → Prop}
    (hf : P.funcs[f]? = some fn) (hn : fn.ntmps = n) (hl : fn.body.bind (lowerC P n ord) = some sc.erase) (hr : fn.results.toList.mapM (lowerRV P) = some rs) (ha : args.length ≤ n)
    (h : vc P sc (endPost rs R) (argEnv 0 args) w) : Calls P f args.toArray w R := by
  obtain ⟨code, hb, hl⟩ := Option.bind_eq_some_iff.1 hl
  refine calls_of_wp hf hb (wp_mono (vc_sound (ds := []) code sc _ _ _ w hl ?_ h) ?_)
  · refine ⟨by simp; omega, rfl, fun t v hv => ?_⟩
    obtain ⟨_, hv⟩ := find_argEnv args 0 t v hv
    have ht : t < args.length := by
      rcases Nat.lt_or_ge t args.length with h | h
      · exact h
      · rw [Nat.sub_zero, List.getElem?_eq_none h] at hv; cases hv
    rw [Array.getElem?_append_left (by simpa using ht)]
    simpa using hv
  · intro x a w hx
    cases x with
    | normal => obtain ⟨e, hfe, hk⟩ := hx; obtain ⟨v, hv, hR⟩ := run_results (K := fun v => R (.returned v) w) hfe hr hk; exact ⟨hfe.2.1, v, hv, hR⟩
    | ret => obtain ⟨e, hfe, hk⟩ := hx; obtain ⟨v, hv, hR⟩ := run_results (K := fun v => R (.returned v) w) hfe hr hk; exact ⟨hfe.2.1, v, hv, hR⟩
    | panic ch => exact hx
    | exit id => obtain ⟨e, hfe, hk⟩ := hx; exact hk.elim
    | goto l => exact hx.elim
    | outgrown => exact hx.elim

end X
end Go.Proofs.YtgibicifflfpfaaDoor
