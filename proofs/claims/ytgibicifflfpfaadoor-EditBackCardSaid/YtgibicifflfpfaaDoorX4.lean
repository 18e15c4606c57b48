/-
  The engine, part 4: regions and code. Conditions: none.
-/
import Derived.Test.YtgibicifflfpfaaDoorX3
set_option autoImplicit false
namespace Go.Proofs.YtgibicifflfpfaaDoor
namespace X
variable {ds : List Deferred}

/-- One row of a region: an operation with its guard (the slot of the Bool that it hangs on), or the slots that are still wanted. -/
inductive G where
  | op (s : S) (g : Option (Nat × Bool))
  | keep (ks : List Nat)

def vcOps (P : Program) (l : List G) (K : Env → World → Prop) (pan : List PanicEntry → World → Prop) (e : Env) (w : World) : Prop :=
  match l with
  | [] => K e w
  | .keep ks :: r => vcOps P r K pan (X.keep e ks) w
  | .op s none :: r => opVC P s (vcOps P r K pan) pan e w
  | .op s (some (t, b)) :: r => lk e t fun v => match v with
    | .bool c => if c = b then opVC P s (vcOps P r K pan) pan ((t, .bool b) :: e) w else vcOps P r K pan (putO s.dst undef ((t, .bool (!b)) :: e)) w
    | .tuple _ => vcOps P r K pan (putO s.dst undef e) w
    | _ => False

def G.isOp : G → Bool | .op _ _ => true | .keep _ => false

def lowerG (P : Program) (n : Nat) (ops : Array Oper) (i : Nat) : Option G :=
  match ops[i]? with
  | none => none
  | some o =>
    match lower P o, (match o.dst with | some d => decide (d < n) | none => true) with
    | some s, true => (match o.guard with
      | none => some (.op s none)
      | some (j, b) => match (ops[j]?).bind (·.dst) with | some t => some (.op s (some (t, b))) | none => none)
    | _, _ => none

theorem lower_dst {P : Program} {o : Oper} {s : S} (h : lower P o = some s) : s.dst = o.dst := by
  obtain ⟨dst, op, type, pos, after, guard⟩ := o
  unfold lower at h
  repeat' split at h
  all_goals first
    | (simp at h; done)
    | (obtain ⟨l, _, rfl⟩ := Option.map_eq_some_iff.1 h; simp only [S.dst]; symm; assumption)
    | (simp only [Option.some.injEq] at h; subst h; simp only [S.dst]; first | assumption | (symm; assumption))
    | (simp only [Option.some.injEq] at h; subst h; rfl)

theorem bnot_of_ne {c b : Bool} (h : ¬ c = b) : c = !b := by cases c <;> cases b <;> first | rfl | exact absurd rfl h
theorem wanted_ne {c b : Bool} (h : ¬ c = b) : (some c == some b) = false := by cases c <;> cases b <;> first | rfl | exact absurd rfl h
theorem find_of_look {e : Env} {t : Nat} {K : Value → Prop} (h : lk e t K) : ∃ v, find? e t = some v ∧ K v := lk_iff h

theorem ops_sound {P : Program} {n : Nat} {ops : Array Oper} {K : Env → World → Prop} {pan : List PanicEntry → World → Prop} {Q : Exit → Act → World → Prop}
    (hK : ∀ e a w, Fits ds n e a → K e w → Q .normal a w) (hp : ∀ ch e a w, Fits ds n e a → pan ch w → Q (.panic ch) a w) :
    ∀ (gs : List G) (is : List Nat) (e : Env) (a : Act) (w : World), is.mapM (lowerG P n ops) = some (gs.filter G.isOp) → Fits ds n e a → vcOps P gs K pan e w → wpOps P ops Q is a w := by
  intro gs
  induction gs with
  | nil =>
    intro is e a w hm hf h
    cases is with
    | nil => exact hK e a w hf h
    | cons i is =>
      simp only [List.mapM_cons, List.filter_nil, Option.bind_eq_bind, Option.pure_def, Option.bind_eq_some_iff] at hm
      obtain ⟨g, _, gs, _, hc⟩ := hm
      simp at hc
  | cons g gs ih =>
    intro is e a w hm hf h
    cases g with
    | keep ks =>
      rw [List.filter_cons_of_neg (by simp [G.isOp])] at hm
      exact ih is _ a w hm (hf.keep ks) (by simpa only [vcOps] using h)
    | op s g =>
      rw [List.filter_cons_of_pos (by simp [G.isOp])] at hm
      cases is with
      | nil => simp at hm
      | cons i is =>
        simp only [List.mapM_cons, Option.bind_eq_bind, Option.pure_def, Option.bind_eq_some_iff] at hm
        obtain ⟨g', hg', gs', hgs', hc⟩ := hm
        simp only [Option.some.injEq, List.cons.injEq] at hc
        obtain ⟨rfl, rfl⟩ := hc
        unfold lowerG at hg'
        split at hg'
        · simp at hg'
        · rename_i o ho
          split at hg'
          · rename_i s' hl hd
            have hsd := lower_dst hl
            -- the operation is carried out, in a frame that holds e'
            have go : ∀ (e' : Env), Fits ds n e' a → Region.wanted o (yielded ops a.tmps) = true → opVC P s' (vcOps P gs K pan) pan e' w → wpOps P ops Q (i :: is) a w := by
              intro e' hf' hw hv
              simp only [wpOps, ho, hw, if_true]
              exact .inl (op_sound hl hd hf' hv (fun e a w hf h => ih is e a w hgs' hf h) hp)
            have skip : ∀ (e' : Env), Fits ds n e' a → Region.wanted o (yielded ops a.tmps) = false → vcOps P gs K pan (putO s'.dst undef e') w → wpOps P ops Q (i :: is) a w := by
              intro e' hf' hw hv
              simp only [wpOps, ho, hw, Bool.false_eq_true, if_false]
              refine ih is _ _ w hgs' ?_ hv
              rw [hsd]
              cases hdst : o.dst with
              | none => exact hf'
              | some d => rw [hdst] at hd; exact hf'.put (of_decide_eq_true hd) undef
            split at hg'
            · rename_i hgd
              simp only [Option.some.injEq, G.op.injEq] at hg'
              obtain ⟨rfl, rfl⟩ := hg'
              exact go e hf (by simp [Region.wanted, hgd]) (by simpa only [vcOps] using h)
            · rename_i j b hgd
              split at hg'
              · rename_i t ht
                simp only [Option.some.injEq, G.op.injEq] at hg'
                obtain ⟨rfl, rfl⟩ := hg'
                simp only [vcOps] at h
                obtain ⟨v, hv, h⟩ := lk_iff h
                have hav := hf.2.2 t v hv
                have hfb : ∀ c, v = .bool c → Fits ds n ((t, .bool c) :: e) a := by
                  intro c hc
                  refine ⟨hf.1, hf.2.1, fun u x hx => ?_⟩
                  simp only [find?] at hx
                  split at hx
                  · rename_i hk; subst hk; simp only [Option.some.injEq] at hx; rw [← hx, hav, hc]
                  · exact hf.2.2 u x hx
                split at h
                · rename_i c
                  have hy : yielded ops a.tmps j = some c := by unfold yielded; rw [ht]; simp only [Option.bind_some, hav]
                  split at h
                  · rename_i hcb
                    subst hcb
                    exact go _ (hfb c rfl) (by unfold Region.wanted; rw [hgd]; simp only [hy]; exact beq_self_eq_true _) h
                  · rename_i hcb
                    have hcb' : c = !b := bnot_of_ne hcb
                    refine skip _ (hfb (!b) (by rw [hcb'])) ?_ h
                    unfold Region.wanted; rw [hgd]; simp only [hy]
                    exact wanted_ne hcb
                · rename_i vs
                  refine skip e hf ?_ h
                  have hy : yielded ops a.tmps j = none := by unfold yielded; rw [ht]; simp only [Option.bind_some, hav]
                  unfold Region.wanted; rw [hgd]; simp only [hy]; rfl
                · exact h.elim
              · simp at hg'
          · simp at hg'

end X
end Go.Proofs.YtgibicifflfpfaaDoor
