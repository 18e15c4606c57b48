/-
  The engine: code. Conditions: none.
-/
import Derived.Test.YtgibicifflfpfaaDoorXF
import Derived.Deep.LoopGhost
set_option autoImplicit false
namespace Go.Proofs.YtgibicifflfpfaaDoor
namespace X
variable {ds : List Deferred}

/-! code -/
inductive C where
  | skip
  | region (l : List G)
  | regionD (l : List G)
  | regionW (l : List (Nat × G))
  | regionT (t : GT)
  | seq (a b : C)
  | cond (c : Operand) (thn els : C)
  | block (id : Nat) (body : C)
  | loop (body : C)
  | exit (id : Nat)
  | ret
  | bad

structure Post where
  nor : Env → World → Prop
  ext : Nat → Env → World → Prop
  ret : Env → World → Prop
  pan : List PanicEntry → World → Prop

def Post.at (ds : List Deferred) (n : Nat) (Q : Post) : Exit → Act → World → Prop
  | .normal, a, w => ∃ e, Fits ds n e a ∧ Q.nor e w
  | .exit id, a, w => ∃ e, Fits ds n e a ∧ Q.ext id e w
  | .ret, a, w => ∃ e, Fits ds n e a ∧ Q.ret e w
  | .panic ch, a, w => a.defers = ds ∧ Q.pan ch w
  | _, _, _ => False

def Post.then (Q : Post) (K : Env → World → Prop) : Post := { Q with nor := K }
def Post.inBlock (id : Nat) (Q : Post) : Post := { Q with ext := fun j e w => if j = id then Q.nor e w else Q.ext j e w }

/-- A loop: whatever is so at its first head is so at the next ones, and a number goes down. -/
def LoopVC (body : Post → Env → World → Prop) (Q : Post) (e : Env) (w : World) : Prop :=
  ∃ (I : Nat → Env → World → Prop) (m : Nat), I m e w ∧ ∀ m e w, I m e w → body (Q.then fun e' w' => ∃ m', m' < m ∧ I m' e' w') e w

def vc (P : Program) (c : C) (Q : Post) (e : Env) (w : World) : Prop :=
  match c with
  | .skip => Q.nor e w
  | .region l => vcOps P l Q.nor Q.pan e w
  | .regionD l => vcOps P l Q.nor Q.pan e w.drew
  | .regionW l => vcW P (fun _ => True) l (fun _ => Q.nor) Q.pan e w.drew
  | .regionT t => vcT P (fun _ => True) t Q.nor Q.pan e w.drew
  | .seq a b => vc P a (Q.then (vc P b Q)) e w
  | .cond x a b => ev e x fun v => Bool1 v fun t => if t = true then vc P a Q e w else vc P b Q e w
  | .block id b => vc P b (Q.inBlock id) e w
  | .loop b => LoopVC (vc P b) Q e w
  | .exit id => Q.ext id e w
  | .ret => Q.ret e w
  | .bad => False

def C.erase : C → C
  | .region l => .region (l.filter G.isOp)
  | .regionD l => .regionD (l.filter G.isOp)
  | .regionW l => .regionW (l.filter fun x => x.2.isOp)
  | .regionT t => .regionT t.erase
  | .seq a b => .seq a.erase b.erase
  | .cond x a b => .cond x a.erase b.erase
  | .block id b => .block id b.erase
  | .loop b => .loop b.erase
  | c => c

/-- The rows of a region that draws, in the orders rep, if its edges let no order come to another end. -/
def lowerF (P : Program) (n : Nat) (ops : Array Oper) (rep : Rep) : Option GT :=
  if P.follows .mixedOrders && Region.noSelect ops && (rep.len == ops.size) && chkR P ops (fun i => rep.has i 2) rep rep.heads (Array.replicate ops.size false) then lowerR P n ops rep else none

def lowerC (P : Program) (n : Nat) (ord : Nat → Option Rep) (c : Code) : Option C :=
  match c with
  | .skip => some .skip
  | .region _ ops false => ((List.range ops.size).mapM (lowerG P n ops)).map .region
  | .region id ops true => (ord id).bind
    fun t => (lowerF P n ops t).map fun
      | .fin l => if l.all (fun x => x.1 == 0) then .regionD (l.map (·.2)) else .regionW l
      | t => .regionT t
  | .seq a b => match lowerC P n ord a, lowerC P n ord b with | some a, some b => some (.seq a b) | _, _ => none
  | .cond x a b => match lowerC P n ord a, lowerC P n ord b with | some a, some b => some (.cond x a b) | _, _ => none
  | .block id b => (lowerC P n ord b).map (.block id)
  | .loop b => (lowerC P n ord b).map .loop
  | .exit id => some (.exit id)
  | .ret => some .ret
  | _ => none

theorem lowerF_sound {P : Program} {n id : Nat} {ops : Array Oper} {rep : Rep} {gs : GT} {Q : Post} {e : Env} {a : Act} {w : World} (hl : lowerF P n ops rep = some gs.erase) (hf : Fits ds n e a)
    (h : vcT P (fun _ => True) gs Q.nor Q.pan e w.drew) : (Code.region id ops true).wp P (Q.at ds n) a w := by
  unfold lowerF at hl
  split at hl
  · rename_i hc
    simp only [Bool.and_eq_true, beq_iff_eq] at hc
    obtain ⟨⟨⟨hm, hs⟩, hlen⟩, hchk⟩ := hc
    have key := (tree_sound (Q := Q.at ds n) (fun e a w hf hk => ⟨e, hf, hk⟩) (fun ch e a w hf h => ⟨hf.2.1, h⟩) (fun c a a' w hd h => ⟨hd ▸ h.1, h.2⟩) hs gs rep _ _ _ e a w.drew hl hchk (down_none ops) hf h).2 rfl
    rw [hlen] at key
    exact wp_region_any hm (wpAny_of_I _ _ _ _ key)
  · simp at hl

theorem filter_pair (gs : List G) : (gs.map fun g => ((0 : Nat), g)).filter (fun x => x.2.isOp) = (gs.filter G.isOp).map fun g => (0, g) := by
  induction gs with
  | nil => rfl
  | cons g gs ih => simp only [List.map_cons, List.filter_cons]; split <;> simp [ih]

theorem all_zero {l : List (Nat × G)} (h : (l.all fun x => x.1 == 0) = true) : l = (l.map (·.2)).map fun g => (0, g) := by
  induction l with
  | nil => rfl
  | cons x l ih =>
    simp only [List.all_cons, Bool.and_eq_true, beq_iff_eq] at h
    obtain ⟨f, g⟩ := x
    obtain ⟨rfl, h⟩ := h
    simp only [List.map_cons, List.cons.injEq, true_and]
    exact ih h

theorem then_at {n : Nat} {Q : Post} {K : Env → World → Prop} {R : Act → World → Prop} (h : ∀ e a w, Fits ds n e a → K e w → R a w) :
    ∀ x a w, (Q.then K).at ds n x a w → Exit.then R (Q.at ds n) x a w := by
  intro x a w hx
  cases x with
  | normal => obtain ⟨e, hf, hk⟩ := hx; exact h e a w hf hk
  | _ => exact hx

theorem vc_sound {P : Program} {n : Nat} {ord : Nat → Option Rep} : ∀ (c : Code) (sc : C) (Q : Post) (e : Env) (a : Act) (w : World),
    lowerC P n ord c = some sc.erase → Fits ds n e a → vc P sc Q e w → c.wp P (Q.at ds n) a w := by
  intro c
  induction c with
  | skip =>
    intro sc Q e a w hl hf h
    cases sc <;> simp only [lowerC, C.erase, Option.some.injEq] at hl <;> first | contradiction | skip
    exact wp_skip ⟨e, hf, h⟩
  | region id ops draw =>
    intro sc Q e a w hl hf h
    cases draw with
    | true =>
      simp only [lowerC, Option.bind_eq_some_iff] at hl
      obtain ⟨rep, _, hl⟩ := hl
      simp only [Option.map_eq_some_iff] at hl
      obtain ⟨t, hl, hc⟩ := hl
      cases t with
      | fork l' x y =>
        cases sc <;> simp only [C.erase] at hc <;> first | contradiction | skip
        simp only [C.regionT.injEq] at hc
        rename_i t'
        exact lowerF_sound (gs := t') (by rw [hl, hc]) hf h
      | fin l =>
        simp only at hc
        split at hc
        · rename_i hz
          cases sc <;> simp only [C.erase] at hc <;> first | contradiction | skip
          rename_i gs
          simp only [C.regionD.injEq] at hc
          have hl2 : lowerF P n ops rep = some (GT.fin (gs.map fun g => ((0 : Nat), g))).erase := by simp only [GT.erase]; rw [hl, filter_pair, ← hc, ← all_zero hz]
          refine lowerF_sound hl2 hf ?_
          simp only [vcT]
          rw [vcW_plain]; exact h
        · cases sc <;> simp only [C.erase] at hc <;> first | contradiction | skip
          simp only [C.regionW.injEq] at hc
          subst hc
          rename_i gs _
          exact lowerF_sound (gs := .fin gs) hl hf h
    | false =>
      cases sc <;> simp only [lowerC, C.erase, Option.map_eq_some_iff] at hl <;> obtain ⟨gs, hm, hc⟩ := hl <;> first | contradiction | skip
      simp only [C.region.injEq] at hc
      subst hc
      exact wp_region (ops_sound (fun e a w hf hk => ⟨e, hf, hk⟩) (fun ch e a w hf h => ⟨hf.2.1, h⟩) _ _ e a w hm hf h)
  | seq x y ihx ihy =>
    intro sc Q e a w hl hf h
    simp only [lowerC] at hl
    split at hl
    · rename_i x' y' hx hy
      cases sc <;> simp only [C.erase, Option.some.injEq] at hl <;> first | contradiction | skip
      simp only [C.seq.injEq] at hl
      obtain ⟨rfl, rfl⟩ := hl
      refine wp_seq (wp_mono (ihx _ _ e a w hx hf h) ?_)
      exact then_at fun e a w hf hk => ihy _ _ e a w hy hf hk
    · simp at hl
  | cond x y z ihy ihz =>
    intro sc Q e a w hl hf h
    simp only [lowerC] at hl
    split at hl
    · rename_i y' z' hy hz
      cases sc <;> simp only [C.erase, Option.some.injEq] at hl <;> first | contradiction | skip
      simp only [C.cond.injEq] at hl
      obtain ⟨rfl, rfl, rfl⟩ := hl
      simp only [vc] at h
      obtain ⟨b, hb, h⟩ := Bool1_iff (hf.eval h)
      refine wp_cond hb ?_
      cases b with
      | true => rw [if_pos rfl] at h ⊢; exact ihy _ _ e a w hy hf h
      | false => rw [if_neg (by simp)] at h ⊢; exact ihz _ _ e a w hz hf h
    · simp at hl
  | block id b ih =>
    intro sc Q e a w hl hf h
    simp only [lowerC, Option.map_eq_some_iff] at hl
    obtain ⟨b', hb, hc⟩ := hl
    cases sc <;> simp only [C.erase] at hc <;> first | contradiction | skip
    simp only [C.block.injEq] at hc
    obtain ⟨rfl, rfl⟩ := hc
    refine wp_block (wp_mono (ih _ _ e a w hb hf h) ?_)
    intro x a w hx
    cases x with
    | normal => exact hx
    | exit j =>
      obtain ⟨e, hf, hk⟩ := hx
      simp only [Post.inBlock] at hk
      simp only [Exit.inBlock]
      split
      · rename_i hj; subst hj; rw [if_pos rfl] at hk; exact ⟨e, hf, hk⟩
      · rename_i hj; rw [if_neg hj] at hk; exact ⟨e, hf, hk⟩
    | _ => exact hx
  | loop b ih =>
    intro sc Q e a w hl hf h
    simp only [lowerC, Option.map_eq_some_iff] at hl
    obtain ⟨b', hb, hc⟩ := hl
    cases sc <;> simp only [C.erase] at hc <;> first | contradiction | skip
    simp only [C.loop.injEq] at hc
    subst hc
    obtain ⟨I, m, h0, hr⟩ := h
    refine wp_loop_ghost (fun m a w => ∃ e, Fits ds n e a ∧ I m e w) m ⟨e, hf, h0⟩ ?_
    rintro m a w ⟨e, hf, hI⟩
    refine wp_mono (ih _ _ e a w hb hf (hr m e w hI)) ?_
    exact then_at fun e a w hf ⟨m', hm, hI⟩ => ⟨m', hm, e, hf, hI⟩
  | exit id =>
    intro sc Q e a w hl hf h
    cases sc <;> simp only [lowerC, C.erase, Option.some.injEq] at hl <;> first | contradiction | skip
    simp only [C.exit.injEq] at hl
    subst hl
    exact wp_exit ⟨e, hf, h⟩
  | ret =>
    intro sc Q e a w hl hf h
    cases sc <;> simp only [lowerC, C.erase, Option.some.injEq] at hl <;> first | contradiction | skip
    exact wp_ret ⟨e, hf, h⟩
  | _ => intro sc Q e a w hl hf h; simp [lowerC] at hl

end X
end Go.Proofs.YtgibicifflfpfaaDoor
