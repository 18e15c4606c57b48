/-
  The engine: what a region that draws its order asks, and that it is enough. Conditions: none.
-/
import Derived.Test.YtdggcoaabohlmaaDoorXD
set_option autoImplicit false
namespace Go.Proofs.YtdggcoaabohlmaaDoor
namespace X
variable {ds : List Deferred}

/-- Every block of T is as it was in w0. -/
def OldIn (T : Nat → Prop) (w0 w : World) : Prop := ∀ b, T b → b < w0.heap.size → w.heap[b]? = w0.heap[b]?
/-- A world, and the blocks of it that are watched. -/
structure Wat where
  w : World
  T : Nat → Prop
/-- Every watched block is as it was. -/
def Old (w0 : Wat) (w : World) : Prop := OldIn w0.T w0.w w
def InO (T : Nat → Prop) (a : Option Addr) : Prop := match a with | some a => T a.block | none => True
/-- It reads of blocks of T alone. -/
def RdIn (T : Nat → Prop) (s : S) (e : Env) : Prop :=
  match s with
  | .load _ x => ev e x fun u => Ptr1 u fun a => T a.block
  | .loadN _ _ x => ev e x fun u => Ptr1 u fun a => T a.block
  | .conBS _ x => ev e x fun u => Slc1 u fun a _ _ => InO T a
  | _ => False

def GVC (s : S) (g : Option (Nat × Bool)) (A B : Env → Prop) (e : Env) : Prop :=
  match g with
  | none => A e
  | some (t, b) => lk e t fun v => match v with
    | .bool c => if c = b then A ((t, .bool b) :: e) else B (putO s.dst undef ((t, .bool (!b)) :: e))
    | .tuple _ => B (putO s.dst undef e)
    | _ => False

/-- Flag 1: a load of what stood at the region's beginning; flag 2: an operation behind which all that stood there must be as it was. -/
def vcW (P : Program) (w0 : Wat) (l : List (Nat × G)) (K : Env → World → Prop) (pan : List PanicEntry → World → Prop) (e : Env) (w : World) : Prop :=
  match l with
  | [] => K e w
  | (_, .keep ks) :: r => vcW P w0 r K pan (X.keep e ks) w
  | (f, .op s g) :: r => GVC s g (fun e => match f with
    | 0 => opVC P s (vcW P w0 r K pan) pan e w
    | 1 => RdIn w0.T s e ∧ opVC P s (fun e' _ => vcW P w0 r K pan e' w) pan e w0.w
    | _ => opVC P s (fun e' w' => Old w0 w' ∧ vcW P w0 r K pan e' w') pan e w) (fun e => (f < 2 ∨ Old w0 w) ∧ vcW P w0 r K pan e w) e

theorem vcW_plain (P : Program) (w0 : Wat) (K : Env → World → Prop) (pan : List PanicEntry → World → Prop) : ∀ (l : List G), vcW P w0 (l.map fun g => (0, g)) K pan = vcOps P l K pan := by
  intro l
  induction l with
  | nil => rfl
  | cons g l ih =>
    funext e w
    cases g with
    | keep ks => simp only [List.map_cons, vcW, vcOps, ih]
    | op s g =>
      cases g with
      | none => simp only [List.map_cons, vcW, vcOps, GVC, ih]
      | some tb => obtain ⟨t, b⟩ := tb; simp only [List.map_cons, vcW, vcOps, GVC, ih, Nat.zero_lt_succ, true_or, true_and]; rfl

theorem guard_cases {P : Program} {n : Nat} {ops : Array Oper} {i : Nat} {s : S} {g : Option (Nat × Bool)} {e : Env} {a : Act} (hl : lowerG P n ops i = some (.op s g)) (hf : Fits ds n e a) {A B : Env → Prop} (h : GVC s g A B e) :
    ∃ o, ops[i]? = some o ∧ lower P o = some s ∧ (match o.dst with | some d => decide (d < n) | none => true) = true ∧
      ((Region.wanted o (yielded ops a.tmps) = true ∧ ∃ e', Fits ds n e' a ∧ A e') ∨ (Region.wanted o (yielded ops a.tmps) = false ∧ ∃ e', Fits ds n e' (a.put o.dst undef) ∧ B e')) := by
  unfold lowerG at hl
  split at hl
  · simp at hl
  · rename_i o ho
    split at hl
    · rename_i s' hlo hd
      have hsd := lower_dst hlo
      have put : ∀ e', Fits ds n e' a → Fits ds n (putO s'.dst undef e') (a.put o.dst undef) := by
        intro e' hf'
        rw [hsd]
        cases hdst : o.dst with
        | none => exact hf'
        | some d => rw [hdst] at hd; exact hf'.put (of_decide_eq_true hd) undef
      split at hl
      · rename_i hgd
        simp only [Option.some.injEq, G.op.injEq] at hl
        obtain ⟨rfl, rfl⟩ := hl
        exact ⟨o, ho, hlo, hd, .inl ⟨by simp [Region.wanted, hgd], e, hf, h⟩⟩
      · rename_i j b hgd
        split at hl
        · rename_i t ht
          simp only [Option.some.injEq, G.op.injEq] at hl
          obtain ⟨rfl, rfl⟩ := hl
          simp only [GVC] at h
          obtain ⟨v, hv, h⟩ := lk_iff h
          have hav := hf.2.2 t v hv
          have hfb : ∀ c, v = .bool c → Fits ds n ((t, .bool c) :: e) a := by
            intro c hc
            refine ⟨hf.1, hf.2.1, fun u x hx => ?_⟩
            simp only [find?] at hx
            split at hx
            · rename_i hk; subst hk; simp only [Option.some.injEq] at hx; rw [← hx, hav, hc]
            · exact hf.2.2 u x hx
          split at h
          · rename_i c
            have hy : yielded ops a.tmps j = some c := by unfold yielded; rw [ht]; simp only [Option.bind_some, hav]
            split at h
            · rename_i hcb
              subst hcb
              exact ⟨o, ho, hlo, hd, .inl ⟨by unfold Region.wanted; rw [hgd]; simp only [hy]; exact beq_self_eq_true _, _, hfb c rfl, h⟩⟩
            · rename_i hcb
              have hcb' : c = !b := bnot_of_ne hcb
              exact ⟨o, ho, hlo, hd, .inr ⟨by unfold Region.wanted; rw [hgd]; simp only [hy]; exact wanted_ne hcb, _, put _ (hfb (!b) (by rw [hcb'])), h⟩⟩
          · have hy : yielded ops a.tmps j = none := by unfold yielded; rw [ht]; simp only [Option.bind_some, hav]
            exact ⟨o, ho, hlo, hd, .inr ⟨by unfold Region.wanted; rw [hgd]; simp only [hy]; rfl, _, put e hf, h⟩⟩
          · exact h.elim
        · simp at hl
    · simp at hl

/-! what an operation that leaves the world alone comes to -/
theorem ev_val {e : Env} {x : Operand} {K : Value → Prop} (h : ev e x K) : ∃ v, K v ∧ ∀ K' : Value → Prop, K' v → ev e x K' := by
  cases x with
  | tmp t =>
    obtain ⟨v, hv, hk⟩ := lk_iff h
    refine ⟨v, hk, fun K' h' => ?_⟩
    have : ∀ (e : Env), find? e t = some v → lk e t K' := by
      intro e
      induction e with
      | nil => intro h; simp [find?] at h
      | cons p r ih =>
        obtain ⟨k, u⟩ := p
        intro h
        simp only [find?] at h
        simp only [lk]
        split
        · rename_i hk; rw [if_pos hk] at h; simp only [Option.some.injEq] at h; rw [h]; exact h'
        · rename_i hk; rw [if_neg hk] at h; exact ih h
    exact this e hv
  | const v => exact ⟨v, h, fun _ h => h⟩
  | global g => exact ⟨_, h, fun _ h => h⟩
  | func f => exact ⟨_, h, fun _ h => h⟩

theorem arith_val {op : BinOp} {k : IntKind} {a b : Int} {K : Value → Prop} (h : arith op k a b K) : ∃ v, K v ∧ ∀ K' : Value → Prop, K' v → arith op k a b K' := by
  cases op <;> simp only [arith] at h ⊢ <;> first
    | exact h.elim
    | exact ⟨_, h, fun _ h => h⟩
    | exact ⟨_, h.2, fun _ h' => ⟨h.1, h'⟩⟩
theorem shift_val {op : BinOp} {k : IntKind} {x y : Value} {K : Value → Prop} (h : shift op k x y K) : ∃ v, K v ∧ ∀ K' : Value → Prop, K' v → shift op k x y K' := by
  unfold shift at *
  split at h
  · obtain ⟨h1, h2, h⟩ := h
    cases op <;> first
      | exact h.elim
      | exact ⟨_, h, fun _ h' => ⟨h1, h2, h'⟩⟩
  · exact h.elim
theorem strop_val {op : BinOp} {a b : ByteArray} {K : Value → Prop} (h : strop op a b K) : ∃ v, K v ∧ ∀ K' : Value → Prop, K' v → strop op a b K' := by
  cases op <;> simp only [strop] at h ⊢ <;> first
    | exact h.elim
    | exact ⟨_, h, fun _ h => h⟩
    | exact ⟨_, h.2, fun _ h' => ⟨h.1, h'⟩⟩

theorem evs_val {e : Env} : ∀ {xs : List Operand} {K : List Value → Prop}, evs e xs K → ∃ vs, K vs ∧ ∀ K' : List Value → Prop, K' vs → evs e xs K'
  | [], K, h => ⟨[], h, fun _ h => h⟩
  | x :: r, K, h => by
    obtain ⟨v, h1, hv⟩ := ev_val (K := fun v => evs e r fun vs => K (v :: vs)) h
    obtain ⟨vs, h2, hvs⟩ := evs_val h1
    exact ⟨v :: vs, h2, fun K' h' => hv _ (hvs _ h')⟩
theorem fillC_val : ∀ (ps : List (Nat × Nat × Operand)) (vs : List Value) (cs : Array Value) (K : Array Value → Prop), fillC cs ps vs K → ∃ r, K r ∧ ∀ K' : Array Value → Prop, K' r → fillC cs ps vs K'
  | [], [], cs, K, h => ⟨cs, h, fun _ h => h⟩
  | [], _ :: _, _, _, h => h.elim
  | _ :: _, [], _, _, h => h.elim
  | (off, sz, x) :: ps, v :: vs, cs, K, h => by
    obtain ⟨h1, h2, h3⟩ := h
    obtain ⟨r, h4, h5⟩ := fillC_val ps vs _ K h3
    exact ⟨r, h4, fun K' h' => ⟨h1, h2, h5 K' h'⟩⟩
theorem bnd_val {e : Env} {o : Option Operand} {d : Int} {K : Int → Prop} (h : bnd e o d K) : ∃ i, K i ∧ ∀ K' : Int → Prop, K' i → bnd e o d K' := by
  cases o with
  | none => exact ⟨d, h, fun _ h => h⟩
  | some x =>
    obtain ⟨v, h1, hv⟩ := ev_val (K := fun v => Int1 v fun _ n => K n) h
    obtain ⟨k, n, rfl, h2⟩ := Int1_iff h1
    exact ⟨n, h2, fun K' h' => hv _ h'⟩

def Still (P : Program) (s : S) (e : Env) (v : Value) (w : World) : Prop := ∀ (K : Env → World → Prop) (pan : List PanicEntry → World → Prop), K (putO s.dst v e) w → opVC P s K pan e w

theorem pure_val {P : Program} {s : S} {K : Env → World → Prop} {pan : List PanicEntry → World → Prop} {e : Env} {w : World} (hc : s.cls = 0) (h : opVC P s K pan e w) :
    ∃ v, K (putO s.dst v e) w ∧ ∀ w', Still P s e v w' := by
  cases s <;> simp only [S.cls] at hc <;> first | (exfalso; omega) | skip
  case mov d x => obtain ⟨v, h, hv⟩ := ev_val h; exact ⟨v, h, fun w' K' _ h' => hv _ h'⟩
  case pick d c x y =>
    obtain ⟨vc, h, hvc⟩ := ev_val h
    obtain ⟨b, rfl, h2⟩ := Bool1_iff h
    cases b with
    | true => rw [if_pos rfl] at h2; obtain ⟨v, h3, hv⟩ := ev_val h2; exact ⟨v, h3, fun w' K' _ h' => hvc _ (by rw [Bool1_mk, if_pos rfl]; exact hv _ h')⟩
    | false => rw [if_neg (by simp)] at h2; obtain ⟨v, h3, hv⟩ := ev_val h2; exact ⟨v, h3, fun w' K' _ h' => hvc _ (by rw [Bool1_mk, if_neg (by simp)]; exact hv _ h')⟩
  case ari d op k x y =>
    obtain ⟨u, h, hu⟩ := ev_val h
    obtain ⟨v, h, hv⟩ := ev_val h
    obtain ⟨a, b, rfl, rfl, h2⟩ := Int2_iff h
    obtain ⟨r, h3, hr⟩ := arith_val h2
    exact ⟨r, h3, fun w' K' _ h' => hu _ (hv _ ⟨rfl, rfl, hr _ h'⟩)⟩
  case shf d op k x y =>
    obtain ⟨u, h, hu⟩ := ev_val h
    obtain ⟨v, h, hv⟩ := ev_val h
    obtain ⟨r, h, hr⟩ := shift_val h
    exact ⟨r, h, fun w' K' _ h' => hu _ (hv _ (hr _ h'))⟩
  case sop d op x y =>
    obtain ⟨u, h, hu⟩ := ev_val h
    obtain ⟨v, h, hv⟩ := ev_val h
    obtain ⟨a, b, rfl, rfl, h2⟩ := Str2_iff h
    obtain ⟨r, h3, hr⟩ := strop_val h2
    exact ⟨r, h3, fun w' K' _ h' => hu _ (hv _ (by rw [Str2_mk]; exact hr _ h'))⟩
  case nilq d neg x =>
    obtain ⟨u, h, hu⟩ := ev_val h
    obtain ⟨a, rfl, h2⟩ := Nil1_iff h
    exact ⟨_, h2, fun w' K' _ h' => hu _ h'⟩
  case not d x =>
    obtain ⟨u, h, hu⟩ := ev_val h
    obtain ⟨a, rfl, h2⟩ := Bool1_iff h
    exact ⟨_, h2, fun w' K' _ h' => hu _ h'⟩
  case neg d k x =>
    obtain ⟨u, h, hu⟩ := ev_val h
    obtain ⟨k', a, rfl, hk, h2⟩ := Int1_iff h
    exact ⟨_, h2, fun w' K' _ h' => hu _ ⟨hk, h'⟩⟩
  case conv d k x =>
    obtain ⟨u, h, hu⟩ := ev_val h
    obtain ⟨k', a, rfl, h2⟩ := Int1_iff h
    exact ⟨_, h2, fun w' K' _ h' => hu _ h'⟩
  case nilCheck d x =>
    obtain ⟨u, h, hu⟩ := ev_val h
    obtain ⟨a, rfl, h2⟩ := Ptr1_iff h
    exact ⟨_, h2, fun w' K' _ h' => hu _ h'⟩
  case faddr d off x =>
    obtain ⟨u, h, hu⟩ := ev_val h
    obtain ⟨a, rfl, h2⟩ := Ptr1_iff h
    exact ⟨_, h2, fun w' K' _ h' => hu _ h'⟩
  case field d off n x =>
    obtain ⟨u, h, hu⟩ := ev_val h
    obtain ⟨cs, rfl, h2⟩ := Agg1_iff h
    cases n with
    | some n => exact ⟨_, h2, fun w' K' _ h' => hu _ h'⟩
    | none =>
      simp only [At] at h2
      split at h2
      · rename_i v hv
        exact ⟨v, h2, fun w' K' _ h' => hu _ (by show At cs off _; unfold At; rw [hv]; exact h')⟩
      · exact h2.elim
  case iaddrL d c x i =>
    obtain ⟨u, h, hu⟩ := ev_val h
    obtain ⟨j, h, hj⟩ := ev_val h
    obtain ⟨k', m, rfl, h2⟩ := Int1_iff h
    unfold Sl1 at h2
    split at h2
    · obtain ⟨hb1, hb2, h3⟩ := h2
      exact ⟨_, h3, fun w' K' _ h' => hu _ (hj _ ⟨hb1, hb2, h'⟩)⟩
    · exact h2.elim
  case iaddrA d len c x i =>
    obtain ⟨u, h, hu⟩ := ev_val h
    obtain ⟨j, h, hj⟩ := ev_val h
    obtain ⟨k', m, rfl, h2⟩ := Int1_iff h
    obtain ⟨a, rfl, h3⟩ := Ptr1_iff h2
    obtain ⟨hb1, hb2, h4⟩ := h3
    exact ⟨_, h4, fun w' K' _ h' => hu _ (hj _ ⟨hb1, hb2, h'⟩)⟩
  case idxA d len c agg x i =>
    obtain ⟨u, h, hu⟩ := ev_val h
    obtain ⟨j, h, hj⟩ := ev_val h
    obtain ⟨k', m, rfl, h2⟩ := Int1_iff h
    obtain ⟨cs, rfl, h3⟩ := Agg1_iff h2
    obtain ⟨hb1, hb2, h4⟩ := h3
    cases agg with
    | true => exact ⟨_, h4, fun w' K' _ h' => hu _ (hj _ ⟨hb1, hb2, h'⟩)⟩
    | false =>
      simp only [Bool.false_eq_true, ↓reduceIte, At] at h4
      split at h4
      · rename_i v hv
        refine ⟨v, h4, fun w' K' _ h' => hu _ (hj _ ⟨hb1, hb2, ?_⟩)⟩
        simp only [Bool.false_eq_true, ↓reduceIte, At, hv]; exact h'
      · exact h4.elim
  case idxS d x i =>
    obtain ⟨u, h, hu⟩ := ev_val h
    obtain ⟨j, h, hj⟩ := ev_val h
    obtain ⟨k', m, rfl, h2⟩ := Int1_iff h
    split at h2
    · obtain ⟨hb1, hb2, h3⟩ := h2
      exact ⟨_, h3, fun w' K' _ h' => hu _ (hj _ ⟨hb1, hb2, h'⟩)⟩
    · exact h2.elim
  case ext d i x =>
    obtain ⟨u, h, hu⟩ := ev_val h
    obtain ⟨vs, v, rfl, hv, h2⟩ := Tup1_iff h
    refine ⟨v, h2, fun w' K' _ h' => hu _ ?_⟩
    show Tup1 (.tuple vs) i _
    unfold Tup1; simp only [hv]; exact h'

  case build d t ps =>
    obtain ⟨vs, h2, hvs⟩ := evs_val h
    obtain ⟨r, h3, hr⟩ := fillC_val _ _ _ _ h2
    exact ⟨_, h3, fun w' K' _ h' => hvs _ (hr _ h')⟩
  case sliceS d x lo hi =>
    obtain ⟨u, h2, hu⟩ := ev_val h
    obtain ⟨s, rfl, h3⟩ := Strg1_iff h2
    obtain ⟨hh, h4, hhi⟩ := bnd_val h3
    obtain ⟨ll, h5, hlo⟩ := bnd_val h4
    obtain ⟨g1, g2, g3, hk⟩ := h5
    exact ⟨_, hk, fun w' K' _ h' => hu _ (by rw [Strg1_mk]; exact hhi _ (hlo _ ⟨g1, g2, g3, h'⟩))⟩
  case sliceL d c x lo hi mx =>
    obtain ⟨u, h2, hu⟩ := ev_val h
    obtain ⟨a, n, cap, rfl, h3⟩ := Slc1_iff h2
    obtain ⟨m, h3, hm⟩ := bnd_val h3
    obtain ⟨hh, h4, hhi⟩ := bnd_val h3
    obtain ⟨ll, h5, hlo⟩ := bnd_val h4
    obtain ⟨g0, g4, g1, g2, g3, hk⟩ := h5
    exact ⟨_, hk, fun w' K' _ h' => hu _ (by rw [Slc1_mk]; exact hm _ (hhi _ (hlo _ ⟨g0, g4, g1, g2, g3, h'⟩)))⟩
  case sliceA d n c x lo hi =>
    obtain ⟨u, h2, hu⟩ := ev_val h
    obtain ⟨a, rfl, h3⟩ := Ptr1_iff h2
    obtain ⟨hh, h4, hhi⟩ := bnd_val h3
    obtain ⟨ll, h5, hlo⟩ := bnd_val h4
    obtain ⟨g1, g2, g3, hk⟩ := h5
    exact ⟨_, hk, fun w' K' _ h' => hu _ (by rw [Ptr1_mk]; exact hhi _ (hlo _ ⟨g1, g2, g3, h'⟩))⟩
  case lenS d x =>
    obtain ⟨u, h2, hu⟩ := ev_val h
    obtain ⟨s, rfl, h3⟩ := Strg1_iff h2
    exact ⟨_, h3, fun w' K' _ h' => hu _ h'⟩
  case lenL d x =>
    obtain ⟨u, h2, hu⟩ := ev_val h
    obtain ⟨a, n, cap, rfl, h3⟩ := Slc1_iff h2
    exact ⟨_, h3, fun w' K' _ h' => hu _ h'⟩
  case lenA d n => exact ⟨_, h, fun w' K' _ h' => h'⟩
  case conIS d x =>
    obtain ⟨u, h2, hu⟩ := ev_val h
    obtain ⟨k, n, rfl, h3⟩ := Int1_iff h2
    exact ⟨_, h3, fun w' K' _ h' => hu _ h'⟩
  case mm d mx x y =>
    obtain ⟨u, h2, hu⟩ := ev_val h
    obtain ⟨v, h3, hv⟩ := ev_val h2
    obtain ⟨k, n, rfl, h4⟩ := Int1_iff h3
    obtain ⟨k', n', rfl, h5⟩ := Int1_iff h4
    exact ⟨_, h5, fun w' K' _ h' => hu _ (hv _ h')⟩
  case uSD d x =>
    obtain ⟨u, h2, hu⟩ := ev_val h
    obtain ⟨a, n, cap, rfl, hc, h3⟩ := Slc1_iff h2
    exact ⟨_, h3, fun w' K' _ h' => hu _ ⟨hc, h'⟩⟩
  case mkFn d f caps =>
    obtain ⟨vs, h2, hvs⟩ := evs_val h
    exact ⟨_, h2, fun w' K' _ h' => hvs _ h'⟩
  case iface d t x =>
    obtain ⟨u, h2, hu⟩ := ev_val h
    exact ⟨_, h2, fun w' K' _ h' => hu _ h'⟩
  case aeq d neg t x y =>
    obtain ⟨u, h2, hu⟩ := ev_val h
    obtain ⟨v, h3, hv⟩ := ev_val h2
    unfold Agg2W at h3
    split at h3
    · rename_i xs ys
      obtain ⟨la, lb, b, f1, f2, k1, k2, hb, hk⟩ := h3
      exact ⟨_, hk, fun w' K' _ h' => hu _ (hv _ ⟨la, lb, b, f1, f2, k1, k2, hb, h'⟩)⟩
    · exact h3.elim
  case beq d neg x y =>
    obtain ⟨u, h2, hu⟩ := ev_val h
    obtain ⟨v, h3, hv⟩ := ev_val h2
    obtain ⟨b1, rfl, h4⟩ := Bool1_iff h3
    obtain ⟨b2, rfl, h5⟩ := Bool1_iff h4
    exact ⟨_, h5, fun w' K' _ h' => hu _ (hv _ h')⟩

theorem LdN_old {T : Nat → Prop} {w : World} {a : Addr} {n : Nat} {K : Array Value → Prop} (hT : T a.block) (h : LdN w a n K) : ∃ cs, K cs ∧ ∀ w', OldIn T w w' → ∀ K' : Array Value → Prop, K' cs → LdN w' a n K' := by
  obtain ⟨C, Ty, fz, hg, ha, hl, hk⟩ := LdN_row h
  refine ⟨_, hk, fun w' ho K' h' => ?_⟩
  have hb : a.block < w.heap.size := (Array.getElem?_eq_some_iff.1 hg).1
  unfold LdN
  rw [ho _ hT hb, hg]
  exact ⟨by rw [ha], hl, h'⟩

theorem ev_both {e : Env} {x : Operand} {A B : Value → Prop} (h : ev e x A) (k : ev e x B) : ∃ u, A u ∧ B u ∧ ∀ K : Value → Prop, K u → ev e x K := by
  obtain ⟨u, hu, hk⟩ := ev_val h
  refine ⟨u, hu, ?_, hk⟩
  have e1 := hk (fun v => v = u) rfl
  cases x with
  | tmp t =>
    obtain ⟨v, hv, hb⟩ := lk_iff k
    obtain ⟨z, hz, rfl⟩ := lk_iff e1
    rw [hv] at hz; cases hz; exact hb
  | const v => have e2 : v = u := e1; subst e2; exact k
  | global g => have e2 : _ = u := e1; subst e2; exact k
  | func f => have e2 : _ = u := e1; subst e2; exact k
theorem read_val {P : Program} {T : Nat → Prop} {s : S} {K : Env → World → Prop} {pan : List PanicEntry → World → Prop} {e : Env} {w : World} (hc : s.cls = 1) (hT : RdIn T s e) (h : opVC P s K pan e w) :
    ∃ v, K (putO s.dst v e) w ∧ ∀ w', OldIn T w w' → Still P s e v w' := by
  cases s <;> simp only [S.cls] at hc <;> first | (exfalso; omega) | skip
  case load d x =>
    obtain ⟨u, h, hT, hu⟩ := ev_both h hT
    obtain ⟨a, rfl, h2⟩ := Ptr1_iff h
    rw [Ptr1_mk] at hT
    unfold Ld at h2
    split at h2
    · rename_i C Ty fz hg
      obtain ⟨hs, h3⟩ := h2
      split at h3
      · rename_i v hv
        refine ⟨v, h3, fun w' ho K' _ h' => hu _ ?_⟩
        rw [Ptr1_mk]
        unfold Ld
        have hb : a.block < w.heap.size := (Array.getElem?_eq_some_iff.1 hg).1
        rw [ho _ hT hb, hg]
        simp only [hs, hv, true_and]
        exact h'
      · exact h3.elim
    · exact h2.elim
  case loadN d n x =>
    obtain ⟨u, h, hT, hu⟩ := ev_both h hT
    obtain ⟨a, rfl, h2⟩ := Ptr1_iff h
    rw [Ptr1_mk] at hT
    unfold LdN at h2
    split at h2
    · rename_i C Ty fz hg
      obtain ⟨hs, hl, h3⟩ := h2
      refine ⟨_, h3, fun w' ho K' _ h' => hu _ ?_⟩
      rw [Ptr1_mk]
      unfold LdN
      have hb : a.block < w.heap.size := (Array.getElem?_eq_some_iff.1 hg).1
      rw [ho _ hT hb, hg]
      exact ⟨hs, hl, h'⟩
    · exact h2.elim
  case conBS d x =>
    obtain ⟨u, h2, hT, hu⟩ := ev_both h hT
    obtain ⟨a, n, c, rfl, h3⟩ := Slc1_iff h2
    rw [Slc1_mk] at hT
    cases a with
    | none =>
      obtain ⟨h4, h5⟩ := h3
      exact ⟨_, h5, fun w' _ K' _ h' => hu _ ⟨h4, h'⟩⟩
    | some a =>
      obtain ⟨cs, h4, h5⟩ := LdN_old (T := T) (K := fun cs => Bytes1 cs.toList fun s => K ((d, .string s) :: e) w) (n := n * 1) hT h3
      unfold Bytes1 at h4
      split at h4
      · rename_i l hl
        refine ⟨_, h4, fun w' ho K' _ h' => hu _ ?_⟩
        rw [Slc1_mk]
        refine h5 w' ho (fun cs => Bytes1 cs.toList fun s => K' ((d, .string s) :: e) w') ?_
        unfold Bytes1; rw [hl]; exact h'
      · exact h4.elim
theorem rd_all {P : Program} {s : S} {K : Env → World → Prop} {pan : List PanicEntry → World → Prop} {e : Env} {w : World} (hc : s.cls = 1) (h : opVC P s K pan e w) : RdIn (fun _ => True) s e := by
  cases s <;> simp only [S.cls] at hc <;> first | (exfalso; omega) | skip
  case load d x =>
    obtain ⟨u, h, hu⟩ := ev_val h
    obtain ⟨a, rfl, h2⟩ := Ptr1_iff h
    exact hu _ trivial
  case loadN d n x =>
    obtain ⟨u, h, hu⟩ := ev_val h
    obtain ⟨a, rfl, h2⟩ := Ptr1_iff h
    exact hu _ trivial
  case conBS d x =>
    obtain ⟨u, h2, hu⟩ := ev_val h
    obtain ⟨a, n, c, rfl, h3⟩ := Slc1_iff h2
    refine hu _ ?_
    rw [Slc1_mk]
    cases a <;> exact trivial

theorem quiet_dst {s : S} (hc : s.cls ≤ 1) : ∃ d, s.dst = some d := by
  cases s <;> first | (exact ⟨_, rfl⟩) | (simp [S.cls] at hc)

theorem still_run {P : Program} {n : Nat} {o : Oper} {s : S} {e : Env} {a : Act} {w : World} {v : Value} (hl : lower P o = some s) (hf : Fits ds n e a) (hc : s.cls ≤ 1) (h : Still P s e v w) :
    (execOp a.eval o).run P w = .ok (.value v) w := by
  cases op_out hl hf (h (fun e' w' => e' = putO s.dst v e ∧ w' = w) (fun _ _ => False) ⟨rfl, rfl⟩) with
  | val u w' h2 h3 h4 =>
    rw [lower_dst hl |>.symm] at h3
    obtain ⟨h3, h5⟩ := h3
    obtain ⟨d, hd⟩ := quiet_dst hc
    rw [hd] at h3
    simp only [putO, List.cons.injEq, Prod.mk.injEq] at h3
    rw [h2, h5, h3.1.2]
  | pan v h2 h3 h4 => omega
  | unit w' h1 h2 h3 h4 => omega
  | call f vs w' h2 h3 h4 => omega

/-! the test of a region's edges, along an order -/
def clsAt (P : Program) (ops : Array Oper) (i : Nat) : Nat := match (ops[i]?).bind (lower P) with | some s => s.cls | none => 3
def quietAt (P : Program) (ops : Array Oper) (i : Nat) : Bool := decide (clsAt P ops i ≤ 1)

def chk (P : Program) (ops : Array Oper) (ck : Nat → Bool) : List (Nat × Nat) → Array Bool → Bool
  | [], listed => (Region.ready .any ops listed).isEmpty
  | (i, f) :: r, listed =>
    (Region.ready .any ops listed).contains i &&
    (if clsAt P ops i ≤ 1 then
      (List.range ops.size).all fun j => j == i || listed.getD j true || Ord ops i j ||
        (match ops[i]?, ops[j]? with
          | some oi, some oj => oi.apart ops oj && (quietAt P ops j || clsAt P ops i == 0 || (f == 1 && ck j))
          | _, _ => true)
     else (Region.ready .any ops listed) == [i] && (f == 2 || !ck i) && (ck i || r.all fun p => p.2 != 1)) &&
    (f != 1 || clsAt P ops i == 1) &&
    chk P ops ck r (listed.setIfInBounds i true)

def flags (l : List (Nat × G)) : List Nat := (l.filter fun x => x.2.isOp).map (·.1)

theorem down_none (ops : Array Oper) : Down ops (Array.replicate ops.size false) := by
  intro j o ho hl
  have : j < ops.size := (Array.getElem?_eq_some_iff.1 ho).1
  simp [this] at hl

theorem putO_fits {n : Nat} {o : Oper} {s : S} {e : Env} {a : Act} (hsd : s.dst = o.dst) (hd : (match o.dst with | some d => decide (d < n) | none => true) = true) (hf : Fits ds n e a) (v : Value) : Fits ds n (putO s.dst v e) (a.put o.dst v) := by
  rw [hsd]
  cases hdst : o.dst with
  | none => exact hf
  | some d => rw [hdst] at hd; exact hf.put (of_decide_eq_true hd) v

theorem draw_sound {P : Program} {n : Nat} {ops : Array Oper} {w0 : Wat} {ck : Nat → Bool} {K : Env → World → Prop} {pan : List PanicEntry → World → Prop} {Q : Exit → Act → World → Prop}
    (hK : ∀ e a w, Fits ds n e a → K e w → Q .normal a w) (hp : ∀ ch e a w, Fits ds n e a → pan ch w → Q (.panic ch) a w) (hQ : ∀ c (a a' : Act) w, a.defers = a'.defers → Q (.panic c) a w → Q (.panic c) a' w) (hs : Region.noSelect ops = true) :
    ∀ (gs : List (Nat × G)) (rep : List (Nat × Nat)) (listed : Array Bool) (e : Env) (a : Act) (w : World), rep.mapM (fun p => (lowerG P n ops p.1).map fun g => (p.2, g)) = some (gs.filter fun x => x.2.isOp) →
      chk P ops ck rep listed = true → Down ops listed → Fits ds n e a → ((∃ p ∈ rep, p.2 = 1) → Old w0 w) → vcW P w0 gs K pan e w →
      wpAnyI P ops Q (Old w0) (quietAt P ops) ck rep.length listed a w := by
  intro gs
  induction gs with
  | nil =>
    intro rep listed e a w hm hc hd hf ho h
    cases rep with
    | nil => exact ⟨by simpa [chk] using hc, hK e a w hf h⟩
    | cons p rep =>
      simp only [List.mapM_cons, List.filter_nil, Option.bind_eq_bind, Option.pure_def, Option.bind_eq_some_iff] at hm
      obtain ⟨g, _, gs, _, hx⟩ := hm
      simp at hx
  | cons x gs ih =>
    intro rep listed e a w hm hc hd hf ho h
    obtain ⟨f, g⟩ := x
    cases g with
    | keep ks =>
      rw [List.filter_cons_of_neg (by simp [G.isOp])] at hm
      exact ih rep listed _ a w hm hc hd (hf.keep ks) ho (by simpa only [vcW] using h)
    | op s g =>
      rw [List.filter_cons_of_pos (by simp [G.isOp])] at hm
      cases rep with
      | nil => simp at hm
      | cons p rep =>
        obtain ⟨i, f'⟩ := p
        simp only [List.mapM_cons, Option.bind_eq_bind, Option.pure_def, Option.bind_eq_some_iff, Option.map_eq_some_iff] at hm
        obtain ⟨y, ⟨g', hg', hy⟩, gs', hgs', hx⟩ := hm
        simp only [Option.some.injEq, List.cons.injEq] at hx
        obtain ⟨hx, rfl⟩ := hx
        rw [← hy] at hx
        simp only [Prod.mk.injEq] at hx
        obtain ⟨rfl, rfl⟩ := hx
        simp only [vcW] at h
        obtain ⟨o, ho', hl, hdst, hcase⟩ := guard_cases hg' hf h
        simp only [chk, Bool.and_eq_true] at hc
        obtain ⟨⟨⟨hc1, hc2⟩, hc3⟩, hc4⟩ := hc
        have hr : i ∈ Region.ready .any ops listed := by simpa using hc1
        have hcls : clsAt P ops i = s.cls := by simp [clsAt, ho', hl]
        have hsd := lower_dst hl
        have hold : (∃ p ∈ rep, p.2 = 1) → Old w0 w := fun ⟨p, hp1, hp2⟩ => ho ⟨p, by simp [hp1], hp2⟩
        rw [hcls] at hc2 hc3
        by_cases hq : s.cls ≤ 1
        · -- it leaves the world alone: taken first
          rw [if_pos hq] at hc2
          have hqi : quietAt P ops i = true := by simp [quietAt, hcls, hq]
          have take : ∀ (T : World → Prop) (v : Value) (e' : Env), YieldsT P ops T o v a → T w → Fits ds n e' (a.put o.dst v) → vcW P w0 gs K pan e' w →
              (∀ j oj, ops[j]? = some oj → j ≠ i → listed.getD j true = false → Ord ops i j = false → quietAt P ops j = true ∨ (∀ w', (ck j = true → Old w0 w') → T w')) →
              wpAnyI P ops Q (Old w0) (quietAt P ops) ck (rep.length + 1) listed a w := by
            intro T v e' hy hT hf' hv hcl
            refine first_I ho' hqi (Region.noSelect_spec hs) (fun c a' w' h => hQ c _ _ w' (by cases o.dst <;> rfl) h) rep.length listed a w hd ?_ hr hy hT (ih rep _ e' _ w hgs' hc4 (hd.set hr) hf' hold hv)
            intro j oj hj hji hun hno
            refine ⟨?_, hcl j oj hj hji hun hno⟩
            have := List.all_eq_true.1 hc2 j (List.mem_range.2 (Array.getElem?_eq_some_iff.1 hj).1)
            simp only [ho', hj, hno, hun, Bool.or_eq_true, beq_iff_eq, hji, Bool.false_eq_true, or_false, false_or, Bool.and_eq_true] at this
            exact this.1
          have cl : ∀ j oj, ops[j]? = some oj → j ≠ i → listed.getD j true = false → Ord ops i j = false → quietAt P ops j = true ∨ s.cls = 0 ∨ (f' = 1 ∧ ck j = true) := by
            intro j oj hj hji hun hno
            have := List.all_eq_true.1 hc2 j (List.mem_range.2 (Array.getElem?_eq_some_iff.1 hj).1)
            simp only [ho', hj, hno, hun, Bool.or_eq_true, beq_iff_eq, hji, Bool.false_eq_true, or_false, false_or, Bool.and_eq_true] at this
            rcases this.2 with (h | h) | h
            · exact .inl h
            · exact .inr (.inl (by simpa using h))
            · exact .inr (.inr h)
          rcases hcase with ⟨hw, e', hf', hA⟩ | ⟨hw, e', hf', hB⟩
          · by_cases h0 : s.cls = 0
            · -- it hangs on the frame alone
              have hf1 : f' ≠ 1 := by
                intro hf1
                subst hf1
                simp [h0] at hc3
              have hA' : ∃ v, vcW P w0 gs K pan (putO s.dst v e') w ∧ ∀ w', Still P s e' v w' := by
                split at hA
                · exact pure_val h0 hA
                · exact absurd rfl hf1
                · obtain ⟨v, h1, h2⟩ := pure_val h0 hA; exact ⟨v, h1.2, h2⟩
              obtain ⟨v, hv, hst⟩ := hA'
              exact take (fun _ => True) v _ (.inl ⟨hw, fun w' _ => still_run hl hf' hq (hst w')⟩) trivial (putO_fits hsd hdst hf' v) hv (fun j oj hj hji hun hno => .inr fun _ _ => trivial)
            · have h1 : s.cls = 1 := by omega
              split at hA
              · obtain ⟨v, hv, hst⟩ := read_val h1 (rd_all h1 hA) hA
                exact take (fun w' => w' = w) v _ (.inl ⟨hw, fun w' hw' => by subst hw'; exact still_run hl hf' hq (hst w' fun _ _ _ => rfl)⟩) rfl (putO_fits hsd hdst hf' v) hv
                  (fun j oj hj hji hun hno => (cl j oj hj hji hun hno).imp id fun h => absurd (h.resolve_left (by omega)).1 (by omega))
              · obtain ⟨v, hv, hst⟩ := read_val h1 hA.1 hA.2
                have hw0 := ho ⟨_, List.mem_cons_self, rfl⟩
                exact take (Old w0) v _ (.inl ⟨hw, fun w' hw' => still_run hl hf' hq (hst w' hw')⟩) hw0 (putO_fits hsd hdst hf' v) hv
                  (fun j oj hj hji hun hno => (cl j oj hj hji hun hno).imp id fun h w' hw' => hw' (h.resolve_left (by omega)).2)
              · rename_i hn0 hn1
                obtain ⟨v, hv, hst⟩ := read_val h1 (rd_all h1 hA) hA
                exact take (fun w' => w' = w) v _ (.inl ⟨hw, fun w' hw' => by subst hw'; exact still_run hl hf' hq (hst w' fun _ _ _ => rfl)⟩) rfl (putO_fits hsd hdst hf' v) hv.2
                  (fun j oj hj hji hun hno => (cl j oj hj hji hun hno).imp id fun h => absurd (h.resolve_left (by omega)).1 (fun h => hn1 h))
          · -- passed over
            exact take (fun _ => True) undef e' (.inr ⟨hw, rfl⟩) trivial hf' hB.2 (fun j oj hj hji hun hno => .inr fun _ _ => trivial)
        · -- it may change the world: nothing else may come up
          rw [if_neg hq] at hc2
          simp only [Bool.and_eq_true, beq_iff_eq, Bool.or_eq_true, Bool.not_eq_true', List.all_eq_true, bne_iff_ne, ne_eq] at hc2
          obtain ⟨⟨hc2, hfl⟩, hlater⟩ := hc2
          have hqi : quietAt P ops i = false := by simp [quietAt, hcls]; omega
          refine ⟨fun h0 => (by rw [h0] at hr; cases hr), fun j hj oj hoj => ?_⟩
          rw [hc2] at hj
          simp only [List.mem_singleton] at hj
          subst hj
          rw [ho'] at hoj; simp only [Option.some.injEq] at hoj; subst hoj
          refine ⟨fun h => (by rw [hqi] at h; cases h), fun _ => ?_⟩
          unfold wpOp
          simp only [ho']
          have next : ∀ e' a' w', Fits ds n e' a' → (ck j = true → Old w0 w') → ((∃ p ∈ rep, p.2 = 1) → Old w0 w') → vcW P w0 gs K pan e' w' →
              (ck j = true → Old w0 w') ∧ wpAnyI P ops Q (Old w0) (quietAt P ops) ck rep.length (listed.setIfInBounds j true) a' w' :=
            fun e' a' w' hf' h1 h2 hv => ⟨h1, ih rep _ e' a' w' hgs' hc4 (hd.set hr) hf' h2 hv⟩
          rcases hcase with ⟨hw, e', hf', hA⟩ | ⟨hw, e', hf', hB⟩
          · rw [hw, if_pos rfl]
            refine .inl ?_
            split at hA
            · have hck : ck j = false := hfl.resolve_left (by omega)
              exact op_sound hl hdst hf' hA (fun e2 a2 w2 hf2 hv => next e2 a2 w2 hf2 (fun h => by rw [hck] at h; cases h) (fun hx => by
                obtain ⟨p, hp1, hp2⟩ := hx
                rcases hlater with h | h
                · rw [hck] at h; cases h
                · exact absurd hp2 (h p hp1)) hv) hp
            · simp at hc3; omega
            · exact op_sound hl hdst hf' hA (fun e2 a2 w2 hf2 hv => next e2 a2 w2 hf2 (fun _ => hv.1) (fun _ => hv.1) hv.2) hp
          · rw [hw, if_neg (by simp)]
            refine next e' _ w hf' (fun hck => ?_) hold hB.2
            rcases hB.1 with h | h
            · rcases hfl with h' | h'
              · omega
              · rw [hck] at h'; cases h'
            · exact h

end X
end Go.Proofs.YtdggcoaabohlmaaDoor
