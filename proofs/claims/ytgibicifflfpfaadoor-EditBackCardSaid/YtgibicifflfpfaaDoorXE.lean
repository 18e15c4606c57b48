/-
  The engine: what a region that draws its order asks, and that it is enough. Conditions: none.
-/
import Derived.Test.YtgibicifflfpfaaDoorXD
set_option autoImplicit false
namespace Go.Proofs.YtgibicifflfpfaaDoor
namespace X
variable {ds : List Deferred}

/-- A block is as it was. -/
def SameB (b : Nat) (w w' : World) : Prop := b < w.heap.size → w'.heap[b]? = w.heap[b]?
def SameO (a : Option Addr) (w w' : World) : Prop := match a with | some a => SameB a.block w w' | none => True
/-- What s read of w stands in w' as it did. -/
def OldR (s : S) (e : Env) (w w' : World) : Prop :=
  match s with
  | .load _ x => ev e x fun u => Ptr1 u fun a => SameB a.block w w'
  | .loadN _ _ x => ev e x fun u => Ptr1 u fun a => SameB a.block w w'
  | .conBS _ x => ev e x fun u => Slc1 u fun a _ _ => SameO a w w'
  | _ => False

def GVC (s : S) (g : Option (Nat × Bool)) (A B : Env → Prop) (e : Env) : Prop :=
  match g with
  | none => A e
  | some (t, b) => lk e t fun v => match v with
    | .bool c => if c = b then A ((t, .bool b) :: e) else B (putO s.dst undef ((t, .bool (!b)) :: e))
    | .tuple _ => B (putO s.dst undef e)
    | _ => False

/-- Flag 1: a load that may come later, too; flag 2: an operation behind which all that such loads read must be as it was. W: what must be so. -/
def vcW (P : Program) (W : World → Prop) (l : List (Nat × G)) (K : (World → Prop) → Env → World → Prop) (pan : List PanicEntry → World → Prop) (e : Env) (w : World) : Prop :=
  match l with
  | [] => K W e w
  | (_, .keep ks) :: r => vcW P W r K pan (X.keep e ks) w
  | (f, .op s g) :: r => GVC s g (fun e => match f with
    | 0 => opVC P s (vcW P W r K pan) pan e w
    | 1 => opVC P s (fun e' w' => vcW P (fun w'' => W w'' ∧ OldR s e w w'') r K pan e' w') pan e w
    | _ => opVC P s (fun e' w' => W w' ∧ vcW P W r K pan e' w') pan e w) (fun e => (f < 2 ∨ W w) ∧ vcW P W r K pan e w) e

theorem vcW_plain (P : Program) (W : World → Prop) (K : Env → World → Prop) (pan : List PanicEntry → World → Prop) : ∀ (l : List G), vcW P W (l.map fun g => (0, g)) (fun _ => K) pan = vcOps P l K pan := by
  intro l
  induction l with
  | nil => rfl
  | cons g l ih =>
    funext e w
    cases g with
    | keep ks => simp only [List.map_cons, vcW, vcOps, ih]
    | op s g =>
      cases g with
      | none => simp only [List.map_cons, vcW, vcOps, GVC, ih]
      | some tb => obtain ⟨t, b⟩ := tb; simp only [List.map_cons, vcW, vcOps, GVC, ih, Nat.zero_lt_succ, true_or, true_and]; rfl

theorem guard_cases {P : Program} {n : Nat} {ops : Array Oper} {i : Nat} {s : S} {g : Option (Nat × Bool)} {e : Env} {a : Act} (hl : lowerG P n ops i = some (.op s g)) (hf : Fits ds n e a) {A B : Env → Prop} (h : GVC s g A B e) :
    ∃ o, ops[i]? = some o ∧ lower P o = some s ∧ (match o.dst with | some d => decide (d < n) | none => true) = true ∧
      ((Region.wanted o (yielded ops a.tmps) = true ∧ ∃ e', Fits ds n e' a ∧ A e') ∨ (Region.wanted o (yielded ops a.tmps) = false ∧ ∃ e', Fits ds n e' (a.put o.dst undef) ∧ B e')) := by
  unfold lowerG at hl
  split at hl
  · simp at hl
  · rename_i o ho
    split at hl
    · rename_i s' hlo hd
      have hsd := lower_dst hlo
      have put : ∀ e', Fits ds n e' a → Fits ds n (putO s'.dst undef e') (a.put o.dst undef) := by
        intro e' hf'
        rw [hsd]
        cases hdst : o.dst with
        | none => exact hf'
        | some d => rw [hdst] at hd; exact hf'.put (of_decide_eq_true hd) undef
      split at hl
      · rename_i hgd
        simp only [Option.some.injEq, G.op.injEq] at hl
        obtain ⟨rfl, rfl⟩ := hl
        exact ⟨o, ho, hlo, hd, .inl ⟨by simp [Region.wanted, hgd], e, hf, h⟩⟩
      · rename_i j b hgd
        split at hl
        · rename_i t ht
          simp only [Option.some.injEq, G.op.injEq] at hl
          obtain ⟨rfl, rfl⟩ := hl
          simp only [GVC] at h
          obtain ⟨v, hv, h⟩ := lk_iff h
          have hav := hf.2.2 t v hv
          have hfb : ∀ c, v = .bool c → Fits ds n ((t, .bool c) :: e) a := by
            intro c hc
            refine ⟨hf.1, hf.2.1, fun u x hx => ?_⟩
            simp only [find?] at hx
            split at hx
            · rename_i hk; subst hk; simp only [Option.some.injEq] at hx; rw [← hx, hav, hc]
            · exact hf.2.2 u x hx
          split at h
          · rename_i c
            have hy : yielded ops a.tmps j = some c := by unfold yielded; rw [ht]; simp only [Option.bind_some, hav]
            split at h
            · rename_i hcb
              subst hcb
              exact ⟨o, ho, hlo, hd, .inl ⟨by unfold Region.wanted; rw [hgd]; simp only [hy]; exact beq_self_eq_true _, _, hfb c rfl, h⟩⟩
            · rename_i hcb
              have hcb' : c = !b := bnot_of_ne hcb
              exact ⟨o, ho, hlo, hd, .inr ⟨by unfold Region.wanted; rw [hgd]; simp only [hy]; exact wanted_ne hcb, _, put _ (hfb (!b) (by rw [hcb'])), h⟩⟩
          · have hy : yielded ops a.tmps j = none := by unfold yielded; rw [ht]; simp only [Option.bind_some, hav]
            exact ⟨o, ho, hlo, hd, .inr ⟨by unfold Region.wanted; rw [hgd]; simp only [hy]; rfl, _, put e hf, h⟩⟩
          · exact h.elim
        · simp at hl
    · simp at hl

/-! what an operation that leaves the world alone comes to -/
theorem ev_val {e : Env} {x : Operand} {K : Value → Prop} (h : ev e x K) : ∃ v, K v ∧ ∀ K' : Value → Prop, K' v → ev e x K' := by
  cases x with
  | tmp t =>
    obtain ⟨v, hv, hk⟩ := lk_iff h
    refine ⟨v, hk, fun K' h' => ?_⟩
    have : ∀ (e : Env), find? e t = some v → lk e t K' := by
      intro e
      induction e with
      | nil => intro h; simp [find?] at h
      | cons p r ih =>
        obtain ⟨k, u⟩ := p
        intro h
        simp only [find?] at h
        simp only [lk]
        split
        · rename_i hk; rw [if_pos hk] at h; simp only [Option.some.injEq] at h; rw [h]; exact h'
        · rename_i hk; rw [if_neg hk] at h; exact ih h
    exact this e hv
  | const v => exact ⟨v, h, fun _ h => h⟩
  | global g => exact ⟨_, h, fun _ h => h⟩
  | func f => exact ⟨_, h, fun _ h => h⟩

theorem arith_val {op : BinOp} {k : IntKind} {a b : Int} {K : Value → Prop} (h : arith op k a b K) : ∃ v, K v ∧ ∀ K' : Value → Prop, K' v → arith op k a b K' := by
  cases op <;> simp only [arith] at h ⊢ <;> first
    | exact h.elim
    | exact ⟨_, h, fun _ h => h⟩
    | exact ⟨_, h.2, fun _ h' => ⟨h.1, h'⟩⟩
theorem shift_val {op : BinOp} {k : IntKind} {x y : Value} {K : Value → Prop} (h : shift op k x y K) : ∃ v, K v ∧ ∀ K' : Value → Prop, K' v → shift op k x y K' := by
  unfold shift at *
  split at h
  · obtain ⟨h1, h2, h⟩ := h
    cases op <;> first
      | exact h.elim
      | exact ⟨_, h, fun _ h' => ⟨h1, h2, h'⟩⟩
  · exact h.elim
theorem strop_val {op : BinOp} {a b : ByteArray} {K : Value → Prop} (h : strop op a b K) : ∃ v, K v ∧ ∀ K' : Value → Prop, K' v → strop op a b K' := by
  cases op <;> simp only [strop] at h ⊢ <;> first
    | exact h.elim
    | exact ⟨_, h, fun _ h => h⟩
    | exact ⟨_, h.2, fun _ h' => ⟨h.1, h'⟩⟩

theorem evs_val {e : Env} : ∀ {xs : List Operand} {K : List Value → Prop}, evs e xs K → ∃ vs, K vs ∧ ∀ K' : List Value → Prop, K' vs → evs e xs K'
  | [], K, h => ⟨[], h, fun _ h => h⟩
  | x :: r, K, h => by
    obtain ⟨v, h1, hv⟩ := ev_val (K := fun v => evs e r fun vs => K (v :: vs)) h
    obtain ⟨vs, h2, hvs⟩ := evs_val h1
    exact ⟨v :: vs, h2, fun K' h' => hv _ (hvs _ h')⟩
theorem fillC_val : ∀ (ps : List (Nat × Nat × Operand)) (vs : List Value) (cs : Array Value) (K : Array Value → Prop), fillC cs ps vs K → ∃ r, K r ∧ ∀ K' : Array Value → Prop, K' r → fillC cs ps vs K'
  | [], [], cs, K, h => ⟨cs, h, fun _ h => h⟩
  | [], _ :: _, _, _, h => h.elim
  | _ :: _, [], _, _, h => h.elim
  | (off, sz, x) :: ps, v :: vs, cs, K, h => by
    obtain ⟨h1, h2, h3⟩ := h
    obtain ⟨r, h4, h5⟩ := fillC_val ps vs _ K h3
    exact ⟨r, h4, fun K' h' => ⟨h1, h2, h5 K' h'⟩⟩
theorem bnd_val {e : Env} {o : Option Operand} {d : Int} {K : Int → Prop} (h : bnd e o d K) : ∃ i, K i ∧ ∀ K' : Int → Prop, K' i → bnd e o d K' := by
  cases o with
  | none => exact ⟨d, h, fun _ h => h⟩
  | some x =>
    obtain ⟨v, h1, hv⟩ := ev_val (K := fun v => Int1 v fun _ n => K n) h
    obtain ⟨k, n, rfl, h2⟩ := Int1_iff h1
    exact ⟨n, h2, fun K' h' => hv _ h'⟩

def Still (P : Program) (s : S) (e : Env) (v : Value) (w : World) : Prop := ∀ (K : Env → World → Prop) (pan : List PanicEntry → World → Prop), K (putO s.dst v e) w → opVC P s K pan e w

theorem pure_val {P : Program} {s : S} {K : Env → World → Prop} {pan : List PanicEntry → World → Prop} {e : Env} {w : World} (hc : s.cls = 0) (h : opVC P s K pan e w) :
    ∃ v, K (putO s.dst v e) w ∧ ∀ w', Still P s e v w' := by
  cases s <;> simp only [S.cls] at hc <;> first | (exfalso; omega) | skip
  case mov d x => obtain ⟨v, h, hv⟩ := ev_val h; exact ⟨v, h, fun w' K' _ h' => hv _ h'⟩
  case pick d c x y =>
    obtain ⟨vc, h, hvc⟩ := ev_val h
    obtain ⟨b, rfl, h2⟩ := Bool1_iff h
    cases b with
    | true => rw [if_pos rfl] at h2; obtain ⟨v, h3, hv⟩ := ev_val h2; exact ⟨v, h3, fun w' K' _ h' => hvc _ (by rw [Bool1_mk, if_pos rfl]; exact hv _ h')⟩
    | false => rw [if_neg (by simp)] at h2; obtain ⟨v, h3, hv⟩ := ev_val h2; exact ⟨v, h3, fun w' K' _ h' => hvc _ (by rw [Bool1_mk, if_neg (by simp)]; exact hv _ h')⟩
  case ari d op k x y =>
    obtain ⟨u, h, hu⟩ := ev_val h
    obtain ⟨v, h, hv⟩ := ev_val h
    obtain ⟨a, b, rfl, rfl, h2⟩ := Int2_iff h
    obtain ⟨r, h3, hr⟩ := arith_val h2
    exact ⟨r, h3, fun w' K' _ h' => hu _ (hv _ ⟨rfl, rfl, hr _ h'⟩)⟩
  case shf d op k x y =>
    obtain ⟨u, h, hu⟩ := ev_val h
    obtain ⟨v, h, hv⟩ := ev_val h
    obtain ⟨r, h, hr⟩ := shift_val h
    exact ⟨r, h, fun w' K' _ h' => hu _ (hv _ (hr _ h'))⟩
  case sop d op x y =>
    obtain ⟨u, h, hu⟩ := ev_val h
    obtain ⟨v, h, hv⟩ := ev_val h
    obtain ⟨a, b, rfl, rfl, h2⟩ := Str2_iff h
    obtain ⟨r, h3, hr⟩ := strop_val h2
    exact ⟨r, h3, fun w' K' _ h' => hu _ (hv _ (by rw [Str2_mk]; exact hr _ h'))⟩
  case nilq d neg x =>
    obtain ⟨u, h, hu⟩ := ev_val h
    obtain ⟨a, rfl, h2⟩ := Nil1_iff h
    exact ⟨_, h2, fun w' K' _ h' => hu _ h'⟩
  case not d x =>
    obtain ⟨u, h, hu⟩ := ev_val h
    obtain ⟨a, rfl, h2⟩ := Bool1_iff h
    exact ⟨_, h2, fun w' K' _ h' => hu _ h'⟩
  case neg d k x =>
    obtain ⟨u, h, hu⟩ := ev_val h
    obtain ⟨k', a, rfl, hk, h2⟩ := Int1_iff h
    exact ⟨_, h2, fun w' K' _ h' => hu _ ⟨hk, h'⟩⟩
  case conv d k x =>
    obtain ⟨u, h, hu⟩ := ev_val h
    obtain ⟨k', a, rfl, h2⟩ := Int1_iff h
    exact ⟨_, h2, fun w' K' _ h' => hu _ h'⟩
  case nilCheck d x =>
    obtain ⟨u, h, hu⟩ := ev_val h
    obtain ⟨a, rfl, h2⟩ := Ptr1_iff h
    exact ⟨_, h2, fun w' K' _ h' => hu _ h'⟩
  case faddr d off x =>
    obtain ⟨u, h, hu⟩ := ev_val h
    obtain ⟨a, rfl, h2⟩ := Ptr1_iff h
    exact ⟨_, h2, fun w' K' _ h' => hu _ h'⟩
  case field d off n x =>
    obtain ⟨u, h, hu⟩ := ev_val h
    obtain ⟨cs, rfl, h2⟩ := Agg1_iff h
    cases n with
    | some n => exact ⟨_, h2, fun w' K' _ h' => hu _ h'⟩
    | none =>
      simp only [At] at h2
      split at h2
      · rename_i v hv
        exact ⟨v, h2, fun w' K' _ h' => hu _ (by show At cs off _; unfold At; rw [hv]; exact h')⟩
      · exact h2.elim
  case iaddrL d c x i =>
    obtain ⟨u, h, hu⟩ := ev_val h
    obtain ⟨j, h, hj⟩ := ev_val h
    obtain ⟨k', m, rfl, h2⟩ := Int1_iff h
    unfold Sl1 at h2
    split at h2
    · obtain ⟨hb1, hb2, h3⟩ := h2
      exact ⟨_, h3, fun w' K' _ h' => hu _ (hj _ ⟨hb1, hb2, h'⟩)⟩
    · exact h2.elim
  case iaddrA d len c x i =>
    obtain ⟨u, h, hu⟩ := ev_val h
    obtain ⟨j, h, hj⟩ := ev_val h
    obtain ⟨k', m, rfl, h2⟩ := Int1_iff h
    obtain ⟨a, rfl, h3⟩ := Ptr1_iff h2
    obtain ⟨hb1, hb2, h4⟩ := h3
    exact ⟨_, h4, fun w' K' _ h' => hu _ (hj _ ⟨hb1, hb2, h'⟩)⟩
  case idxA d len c agg x i =>
    obtain ⟨u, h, hu⟩ := ev_val h
    obtain ⟨j, h, hj⟩ := ev_val h
    obtain ⟨k', m, rfl, h2⟩ := Int1_iff h
    obtain ⟨cs, rfl, h3⟩ := Agg1_iff h2
    obtain ⟨hb1, hb2, h4⟩ := h3
    cases agg with
    | true => exact ⟨_, h4, fun w' K' _ h' => hu _ (hj _ ⟨hb1, hb2, h'⟩)⟩
    | false =>
      simp only [Bool.false_eq_true, ↓reduceIte, At] at h4
      split at h4
      · rename_i v hv
        refine ⟨v, h4, fun w' K' _ h' => hu _ (hj _ ⟨hb1, hb2, ?_⟩)⟩
        simp only [Bool.false_eq_true, ↓reduceIte, At, hv]; exact h'
      · exact h4.elim
  case idxS d x i =>
    obtain ⟨u, h, hu⟩ := ev_val h
    obtain ⟨j, h, hj⟩ := ev_val h
    obtain ⟨k', m, rfl, h2⟩ := Int1_iff h
    split at h2
    · obtain ⟨hb1, hb2, h3⟩ := h2
      exact ⟨_, h3, fun w' K' _ h' => hu _ (hj _ ⟨hb1, hb2, h'⟩)⟩
    · exact h2.elim
  case ext d i x =>
    obtain ⟨u, h, hu⟩ := ev_val h
    obtain ⟨vs, v, rfl, hv, h2⟩ := Tup1_iff h
    refine ⟨v, h2, fun w' K' _ h' => hu _ ?_⟩
    show Tup1 (.tuple vs) i _
    unfold Tup1; simp only [hv]; exact h'

  case build d t ps =>
    obtain ⟨vs, h2, hvs⟩ := evs_val h
    obtain ⟨r, h3, hr⟩ := fillC_val _ _ _ _ h2
    exact ⟨_, h3, fun w' K' _ h' => hvs _ (hr _ h')⟩
  case sliceS d x lo hi =>
    obtain ⟨u, h2, hu⟩ := ev_val h
    obtain ⟨s, rfl, h3⟩ := Strg1_iff h2
    obtain ⟨hh, h4, hhi⟩ := bnd_val h3
    obtain ⟨ll, h5, hlo⟩ := bnd_val h4
    obtain ⟨g1, g2, g3, hk⟩ := h5
    exact ⟨_, hk, fun w' K' _ h' => hu _ (by rw [Strg1_mk]; exact hhi _ (hlo _ ⟨g1, g2, g3, h'⟩))⟩
  case sliceL d c x lo hi mx =>
    obtain ⟨u, h2, hu⟩ := ev_val h
    obtain ⟨a, n, cap, rfl, h3⟩ := Slc1_iff h2
    obtain ⟨m, h3, hm⟩ := bnd_val h3
    obtain ⟨hh, h4, hhi⟩ := bnd_val h3
    obtain ⟨ll, h5, hlo⟩ := bnd_val h4
    obtain ⟨g0, g4, g1, g2, g3, hk⟩ := h5
    exact ⟨_, hk, fun w' K' _ h' => hu _ (by rw [Slc1_mk]; exact hm _ (hhi _ (hlo _ ⟨g0, g4, g1, g2, g3, h'⟩)))⟩
  case sliceA d n c x lo hi =>
    obtain ⟨u, h2, hu⟩ := ev_val h
    obtain ⟨a, rfl, h3⟩ := Ptr1_iff h2
    obtain ⟨hh, h4, hhi⟩ := bnd_val h3
    obtain ⟨ll, h5, hlo⟩ := bnd_val h4
    obtain ⟨g1, g2, g3, hk⟩ := h5
    exact ⟨_, hk, fun w' K' _ h' => hu _ (by rw [Ptr1_mk]; exact hhi _ (hlo _ ⟨g1, g2, g3, h'⟩))⟩
  case lenS d x =>
    obtain ⟨u, h2, hu⟩ := ev_val h
    obtain ⟨s, rfl, h3⟩ := Strg1_iff h2
    exact ⟨_, h3, fun w' K' _ h' => hu _ h'⟩
  case lenL d x =>
    obtain ⟨u, h2, hu⟩ := ev_val h
    obtain ⟨a, n, cap, rfl, h3⟩ := Slc1_iff h2
    exact ⟨_, h3, fun w' K' _ h' => hu _ h'⟩
  case lenA d n => exact ⟨_, h, fun w' K' _ h' => h'⟩
  case conIS d x =>
    obtain ⟨u, h2, hu⟩ := ev_val h
    obtain ⟨k, n, rfl, h3⟩ := Int1_iff h2
    exact ⟨_, h3, fun w' K' _ h' => hu _ h'⟩
  case mm d mx x y =>
    obtain ⟨u, h2, hu⟩ := ev_val h
    obtain ⟨v, h3, hv⟩ := ev_val h2
    obtain ⟨k, n, rfl, h4⟩ := Int1_iff h3
    obtain ⟨k', n', rfl, h5⟩ := Int1_iff h4
    exact ⟨_, h5, fun w' K' _ h' => hu _ (hv _ h')⟩
  case uSD d x =>
    obtain ⟨u, h2, hu⟩ := ev_val h
    obtain ⟨a, n, cap, rfl, hc, h3⟩ := Slc1_iff h2
    exact ⟨_, h3, fun w' K' _ h' => hu _ ⟨hc, h'⟩⟩
  case mkFn d f caps =>
    obtain ⟨vs, h2, hvs⟩ := evs_val h
    exact ⟨_, h2, fun w' K' _ h' => hvs _ h'⟩
  case iface d t x =>
    obtain ⟨u, h2, hu⟩ := ev_val h
    exact ⟨_, h2, fun w' K' _ h' => hu _ h'⟩
  case aeq d neg t x y =>
    obtain ⟨u, h2, hu⟩ := ev_val h
    obtain ⟨v, h3, hv⟩ := ev_val h2
    unfold Agg2W at h3
    split at h3
    · rename_i xs ys
      obtain ⟨la, lb, b, f1, f2, k1, k2, hb, hk⟩ := h3
      exact ⟨_, hk, fun w' K' _ h' => hu _ (hv _ ⟨la, lb, b, f1, f2, k1, k2, hb, h'⟩)⟩
    · exact h3.elim
  case nili d neg x =>
    obtain ⟨u, h2, hu⟩ := ev_val h
    unfold NilI at h2
    split at h2
    · exact ⟨_, h2, fun w' K' _ h' => hu _ h'⟩
    · exact ⟨_, h2, fun w' K' _ h' => hu _ h'⟩
    · exact h2.elim
  case tas d t ok x =>
    obtain ⟨u, h2, hu⟩ := ev_val h
    unfold TasVC at h2
    split at h2
    · rename_i t' v
      by_cases he : t' = t
      · rw [if_pos he] at h2
        exact ⟨_, h2, fun w' K' _ h' => hu _ (by unfold TasVC; simp only [if_pos he]; exact h')⟩
      · rw [if_neg he] at h2
        exact ⟨_, h2.2, fun w' K' _ h' => hu _ (by unfold TasVC; simp only [if_neg he]; exact ⟨h2.1, h'⟩)⟩
    · exact ⟨_, h2.2, fun w' K' _ h' => hu _ ⟨h2.1, h'⟩⟩
    · exact h2.elim
  case beq d neg x y =>
    obtain ⟨u, h2, hu⟩ := ev_val h
    obtain ⟨v, h3, hv⟩ := ev_val h2
    obtain ⟨b1, rfl, h4⟩ := Bool1_iff h3
    obtain ⟨b2, rfl, h5⟩ := Bool1_iff h4
    exact ⟨_, h5, fun w' K' _ h' => hu _ (hv _ h')⟩

theorem SameB.refl (b : Nat) (w : World) : SameB b w w := fun _ => rfl
/-- An operand has one value. -/
theorem ev_get {e : Env} {x : Operand} {u : Value} {B : Value → Prop} (hu : ∀ K : Value → Prop, K u → ev e x K) (k : ev e x B) : B u := by
  have e1 := hu (fun v => v = u) rfl
  cases x with
  | tmp t =>
    obtain ⟨v, hv, hb⟩ := lk_iff k
    obtain ⟨z, hz, rfl⟩ := lk_iff e1
    rw [hv] at hz; cases hz; exact hb
  | const v => have e2 : v = u := e1; subst e2; exact k
  | global g => have e2 : _ = u := e1; subst e2; exact k
  | func f => have e2 : _ = u := e1; subst e2; exact k
theorem LdN_same {w : World} {a : Addr} {n : Nat} {K : Array Value → Prop} (h : LdN w a n K) : ∃ cs, K cs ∧ ∀ w', SameB a.block w w' → ∀ K' : Array Value → Prop, K' cs → LdN w' a n K' := by
  obtain ⟨C, Ty, fz, hg, ha, hl, hk⟩ := LdN_row h
  refine ⟨_, hk, fun w' ho K' h' => ?_⟩
  have hb : a.block < w.heap.size := (Array.getElem?_eq_some_iff.1 hg).1
  unfold LdN
  rw [ho hb, hg]
  exact ⟨by rw [ha], hl, h'⟩
theorem read_val {P : Program} {s : S} {K : Env → World → Prop} {pan : List PanicEntry → World → Prop} {e : Env} {w : World} (hc : s.cls = 1) (h : opVC P s K pan e w) :
    ∃ v, K (putO s.dst v e) w ∧ OldR s e w w ∧ ∀ w', OldR s e w w' → Still P s e v w' := by
  cases s <;> simp only [S.cls] at hc <;> first | (exfalso; omega) | skip
  case load d x =>
    obtain ⟨u, h, hu⟩ := ev_val h
    obtain ⟨a, rfl, h2⟩ := Ptr1_iff h
    unfold Ld at h2
    split at h2
    · rename_i C Ty fz hg
      obtain ⟨hs, h3⟩ := h2
      split at h3
      · rename_i v hv
        refine ⟨v, h3, hu _ (SameB.refl _ _), fun w' ho K' _ h' => hu _ ?_⟩
        have ho : SameB a.block w w' := ev_get hu ho
        rw [Ptr1_mk]
        unfold Ld
        have hb : a.block < w.heap.size := (Array.getElem?_eq_some_iff.1 hg).1
        rw [ho hb, hg]
        simp only [hs, hv, true_and]
        exact h'
      · exact h3.elim
    · exact h2.elim
  case loadN d n x =>
    obtain ⟨u, h, hu⟩ := ev_val h
    obtain ⟨a, rfl, h2⟩ := Ptr1_iff h
    obtain ⟨cs, h3, h4⟩ := LdN_same (K := fun cs => K ((d, .agg cs) :: e) w) h2
    refine ⟨_, h3, hu _ (SameB.refl _ _), fun w' ho K' _ h' => hu _ ?_⟩
    have ho : SameB a.block w w' := ev_get hu ho
    rw [Ptr1_mk]
    exact h4 w' ho (fun cs => K' ((d, .agg cs) :: e) w') h'
  case conBS d x =>
    obtain ⟨u, h2, hu⟩ := ev_val h
    obtain ⟨a, n, c, rfl, h3⟩ := Slc1_iff h2
    cases a with
    | none =>
      obtain ⟨h4, h5⟩ := h3
      exact ⟨_, h5, hu _ trivial, fun w' _ K' _ h' => hu _ ⟨h4, h'⟩⟩
    | some a =>
      obtain ⟨cs, h4, h5⟩ := LdN_same (K := fun cs => Bytes1 cs.toList fun s => K ((d, .string s) :: e) w) (n := n * 1) h3
      unfold Bytes1 at h4
      split at h4
      · rename_i l hl
        refine ⟨_, h4, hu _ (SameB.refl _ _), fun w' ho K' _ h' => hu _ ?_⟩
        have ho : SameB a.block w w' := ev_get hu ho
        rw [Slc1_mk]
        refine h5 w' ho (fun cs => Bytes1 cs.toList fun s => K' ((d, .string s) :: e) w') ?_
        unfold Bytes1; rw [hl]; exact h'
      · exact h4.elim

theorem quiet_dst {s : S} (hc : s.cls ≤ 1) : ∃ d, s.dst = some d := by
  cases s <;> first | (exact ⟨_, rfl⟩) | (simp [S.cls] at hc)

theorem still_run {P : Program} {n : Nat} {o : Oper} {s : S} {e : Env} {a : Act} {w : World} {v : Value} (hl : lower P o = some s) (hf : Fits ds n e a) (hc : s.cls ≤ 1) (h : Still P s e v w) :
    (execOp a.eval o).run P w = .ok (.value v) w := by
  cases op_out hl hf (h (fun e' w' => e' = putO s.dst v e ∧ w' = w) (fun _ _ => False) ⟨rfl, rfl⟩) with
  | val u w' h2 h3 h4 =>
    rw [lower_dst hl |>.symm] at h3
    obtain ⟨h3, h5⟩ := h3
    obtain ⟨d, hd⟩ := quiet_dst hc
    rw [hd] at h3
    simp only [putO, List.cons.injEq, Prod.mk.injEq] at h3
    rw [h2, h5, h3.1.2]
  | pan v h2 h3 h4 => omega
  | unit w' h1 h2 h3 h4 => omega
  | call f vs w' h2 h3 h4 => omega

/-! the test of a region's edges, along an order -/
def clsAt (P : Program) (ops : Array Oper) (i : Nat) : Nat := match (ops[i]?).bind (lower P) with | some s => s.cls | none => 3
def quietAt (P : Program) (ops : Array Oper) (i : Nat) : Bool := decide (clsAt P ops i ≤ 1)

theorem down_none (ops : Array Oper) : Down ops (Array.replicate ops.size false) := by
  intro j o ho hl
  have : j < ops.size := (Array.getElem?_eq_some_iff.1 ho).1
  simp [this] at hl

theorem putO_fits {n : Nat} {o : Oper} {s : S} {e : Env} {a : Act} (hsd : s.dst = o.dst) (hd : (match o.dst with | some d => decide (d < n) | none => true) = true) (hf : Fits ds n e a) (v : Value) : Fits ds n (putO s.dst v e) (a.put o.dst v) := by
  rw [hsd]
  cases hdst : o.dst with
  | none => exact hf
  | some d => rw [hdst] at hd; exact hf.put (of_decide_eq_true hd) v

end X
end Go.Proofs.YtgibicifflfpfaaDoor
