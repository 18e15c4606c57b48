/-
  The engine: a region that draws its order comes to one end, whatever order is drawn, where a test of its edges says so. Conditions: none.
-/
import Derived.Test.YtgibicifflfpfaaDoorX4
import Derived.Orders
set_option autoImplicit false
namespace Go.Proofs.YtgibicifflfpfaaDoor
namespace X
open Go.Region (binds)

/-! which operation waits for which -/
def Ord (ops : Array Oper) (i j : Nat) : Bool := ((Region.before ops).getD j 0).testBit i

def bval (acc : Array Nat) (o : Oper) : Nat := o.after.foldl (fun s e => if binds .any e then s ||| 2 ^ e.on ||| acc.getD e.on 0 else s) 0

theorem bval_bit (acc : Array Nat) (o : Oper) (i : Nat) (h : (bval acc o).testBit i = true) : ∃ e ∈ o.after, binds .any e = true ∧ (e.on = i ∨ (acc.getD e.on 0).testBit i = true) := by
  unfold bval at h
  rw [← Array.foldl_toList] at h
  have key : ∀ (l : List Edge) (s : Nat), (l.foldl (fun s e => if binds .any e then s ||| 2 ^ e.on ||| acc.getD e.on 0 else s) s).testBit i = true → s.testBit i = true ∨ ∃ e ∈ l, binds .any e = true ∧ (e.on = i ∨ (acc.getD e.on 0).testBit i = true) := by
    intro l
    induction l with
    | nil => intro s h; exact .inl h
    | cons e l ih =>
      intro s h
      rcases ih _ h with h | ⟨e', he', h⟩
      · dsimp only at h
        by_cases hb : binds .any e = true
        · rw [if_pos hb] at h
          simp only [Nat.testBit_or, Nat.testBit_two_pow, Bool.or_eq_true, decide_eq_true_eq] at h
          rcases h with (h | h) | h
          · exact .inl h
          · exact .inr ⟨e, by simp, hb, .inl h⟩
          · exact .inr ⟨e, by simp, hb, .inr h⟩
        · rw [if_neg hb] at h; exact .inl h
      · exact .inr ⟨e', by simp [he'], h⟩
  rcases key _ _ h with h | ⟨e, he, h⟩
  · simp at h
  · exact ⟨e, by simpa using he, h⟩

theorem before_fold (i : Nat) : ∀ (l : List Oper) (acc : Array Nat),
    (∀ k, k < acc.size → (l.foldl (fun acc o => acc.push (bval acc o)) acc).getD k 0 = acc.getD k 0) ∧
    ∀ m o, l[m]? = some o → ((l.foldl (fun acc o => acc.push (bval acc o)) acc).getD (acc.size + m) 0).testBit i = true →
      ∃ e ∈ o.after, binds .any e = true ∧ (e.on = i ∨ (e.on < acc.size + m ∧ ((l.foldl (fun acc o => acc.push (bval acc o)) acc).getD e.on 0).testBit i = true)) := by
  intro l
  induction l with
  | nil => intro acc; exact ⟨fun _ _ => rfl, fun m o h => by simp at h⟩
  | cons o l ih =>
    intro acc
    obtain ⟨h1, h2⟩ := ih (acc.push (bval acc o))
    have hpre : ∀ k, k < acc.size → ((o :: l).foldl (fun acc o => acc.push (bval acc o)) acc).getD k 0 = acc.getD k 0 := by
      intro k hk
      rw [List.foldl_cons, h1 k (by simp; omega)]
      simp [Array.getElem?_push, Nat.ne_of_lt hk]
    refine ⟨hpre, fun m x hm hb => ?_⟩
    cases m with
    | zero =>
      simp only [List.getElem?_cons_zero, Option.some.injEq] at hm
      subst hm
      rw [List.foldl_cons, Nat.add_zero, h1 acc.size (by simp)] at hb
      have : (acc.push (bval acc o)).getD acc.size 0 = bval acc o := by simp
      rw [this] at hb
      obtain ⟨e, he, hbd, h⟩ := bval_bit acc o i hb
      refine ⟨e, he, hbd, h.imp id fun h => ?_⟩
      have hlt : e.on < acc.size := by
        rcases Nat.lt_or_ge e.on acc.size with h' | h'
        · exact h'
        · simp [Array.getElem?_eq_none h'] at h
      exact ⟨by omega, by rw [hpre _ hlt]; exact h⟩
    | succ m =>
      simp only [List.getElem?_cons_succ] at hm
      have e1 : acc.size + (m + 1) = (acc.push (bval acc o)).size + m := by simp; omega
      rw [List.foldl_cons, e1] at hb ⊢
      exact h2 m x hm hb

theorem Ord_step {ops : Array Oper} {i j : Nat} {o : Oper} (ho : ops[j]? = some o) (h : Ord ops i j = true) : ∃ e ∈ o.after, binds .any e = true ∧ (e.on = i ∨ (e.on < j ∧ Ord ops i e.on = true)) := by
  unfold Ord Region.before at *
  rw [← Array.foldl_toList] at *
  have := (before_fold i ops.toList #[]).2 j o (by simpa using ho)
  simp only [Array.size_empty, Nat.zero_add] at this
  exact this h

/-- What is listed waits for nothing that isn't. -/
def Down (ops : Array Oper) (listed : Array Bool) : Prop := ∀ j o, ops[j]? = some o → listed.getD j false = true → ∀ e ∈ o.after, binds .any e = true → listed.getD e.on false = true

theorem Ord_listed {ops : Array Oper} {listed : Array Bool} (hd : Down ops listed) {i : Nat} : ∀ (j : Nat) (o : Oper), ops[j]? = some o → (∀ e ∈ o.after, binds .any e = true → listed.getD e.on false = true) → Ord ops i j = true → listed.getD i false = true := by
  intro j
  induction j using Nat.strongRecOn with
  | _ j ih =>
    intro o ho hall h
    obtain ⟨e, he, hb, h⟩ := Ord_step ho h
    rcases h with h | ⟨hlt, h⟩
    · rw [← h]; exact hall e he hb
    · have hl := hall e he hb
      cases hk : ops[e.on]? with
      | none =>
        have : e.on < ops.size := by
          have := (Array.getElem?_eq_some_iff.1 ho).1
          omega
        rw [Array.getElem?_eq_getElem this] at hk; cases hk
      | some ok => exact ih e.on hlt ok hk (hd e.on ok hk hl) h

theorem Down.set {ops : Array Oper} {listed : Array Bool} (hd : Down ops listed) {i : Nat} (hi : i ∈ Region.ready .any ops listed) : Down ops (listed.setIfInBounds i true) := by
  intro j o ho hl e he hb
  by_cases hij : j = i
  · subst hij
    obtain ⟨_, o', ho', hall⟩ := mem_ready.1 hi
    rw [ho] at ho'; simp only [Option.some.injEq] at ho'; subst ho'
    exact getD_set_true (hall e he hb)
  · rw [getD_set_ne false (Ne.symm hij)] at hl
    exact getD_set_true (hd j o ho hl e he hb)

/-! every order -/
section
variable {P : Program} {ops : Array Oper} {Q : Exit → Act → World → Prop} {S : World → Prop} {qt ck : Nat → Bool}

/-- In every world of which T is so operation o leaves v. -/
def YieldsT (P : Program) (ops : Array Oper) (T : World → Prop) (o : Oper) (v : Value) (a : Act) : Prop :=
  (Region.wanted o (yielded ops a.tmps) = true ∧ ∀ w, T w → (execOp a.eval o).run P w = .ok (.value v) w) ∨ (Region.wanted o (yielded ops a.tmps) = false ∧ v = undef)

def wpAnyI (P : Program) (ops : Array Oper) (Q : Exit → Act → World → Prop) (S : World → Prop) (qt ck : Nat → Bool) : Nat → Array Bool → Act → World → Prop
  | 0, listed, a, w => Region.ready .any ops listed = [] ∧ Q .normal a w
  | fuel + 1, listed, a, w =>
    (Region.ready .any ops listed = [] → Q .normal a w) ∧
    ∀ i ∈ Region.ready .any ops listed, ∀ o, ops[i]? = some o →
      (qt i = true → ∃ v, YieldsT P ops (fun w' => w' = w) o v a ∧ wpAnyI P ops Q S qt ck fuel (listed.setIfInBounds i true) (a.put o.dst v) w) ∧
      (qt i = false → wpOp P ops Q i (fun a' w' => (ck i = true → S w') ∧ wpAnyI P ops Q S qt ck fuel (listed.setIfInBounds i true) a' w') a w)

theorem YieldsT.wpOp {T : World → Prop} {i : Nat} {o : Oper} {v : Value} {a : Act} (hi : ops[i]? = some o) (hy : YieldsT P ops T o v a)
    {K : Act → World → Prop} {w : World} (hT : T w) (h : K (a.put o.dst v) w) : wpOp P ops Q i K a w := by
  unfold Go.wpOp
  simp only [hi]
  rcases hy with ⟨hw, hv⟩ | ⟨hw, rfl⟩
  · simp only [hw, if_true, Oper.wp, hv w hT, Oper.upon]; exact .inl h
  · simp only [hw, Bool.false_eq_true, if_false]; exact h

theorem wpAny_of_I : ∀ (fuel : Nat) (listed : Array Bool) (a : Act) (w : World), wpAnyI P ops Q S qt ck fuel listed a w → wpAny P .any ops Q fuel listed a w
  | 0, _, _, _, h => h
  | fuel + 1, listed, a, w, h => ⟨h.1, fun i hi => by
      obtain ⟨_, o, ho, _⟩ := mem_ready.1 hi
      obtain ⟨h1, h2⟩ := h.2 i hi o ho
      cases hq : qt i with
      | true =>
        obtain ⟨v, hy, h⟩ := h1 hq
        exact hy.wpOp ho rfl (wpAny_of_I fuel _ _ _ h)
      | false => exact wpOp_mono (fun a' w' h' => wpAny_of_I fuel _ a' w' h'.2) (h2 hq)⟩

theorem YieldsT.same {T : World → Prop} {o : Oper} {v : Value} {a a' : Act} (hy : YieldsT P ops T o v a) (he : execOp a'.eval o = execOp a.eval o)
    (hw : Region.wanted o (yielded ops a'.tmps) = Region.wanted o (yielded ops a.tmps)) : YieldsT P ops T o v a' := by
  unfold YieldsT at *
  rw [he, hw]
  exact hy

theorem wpOp_putT {T : World → Prop} {j : Nat} {oi oj : Oper} {v : Value} (hj : ops[j]? = some oj) (hap : oi.apart ops oj = true)
    (hsi : ∀ cs b, oi.op ≠ .select cs b) (hsj : ∀ cs b, oj.op ≠ .select cs b)
    (hQ : ∀ c a w, Q (.panic c) (a.put oi.dst v) w → Q (.panic c) a w) {K : Act → World → Prop} {a : Act} {w : World}
    (hy : YieldsT P ops T oi v a) (h : wpOp P ops Q j K (a.put oi.dst v) w) :
    wpOp P ops Q j (fun a' w' => YieldsT P ops T oi v a' ∧ K (a'.put oi.dst v) w') a w := by
  obtain ⟨h1, h2, h3⟩ := Oper.apart_spec hap
  have keep : ∀ (a : Act), YieldsT P ops T oi v a → ∀ u, YieldsT P ops T oi v (a.put oj.dst u) := fun a hy u =>
    hy.same (execOp_put oi hsi a oj.dst u h3) (wanted_put oi a oj.dst u h3)
  have keepD : ∀ d, YieldsT P ops T oi v { a with defers := d :: a.defers } := fun d => hy.same rfl rfl
  unfold wpOp at *
  simp only [hj] at *
  rw [wanted_put oj a oi.dst v h1] at h
  split
  · rename_i hw
    simp only [hw, if_true] at h
    rcases h with h | ⟨hasks, hlets⟩
    case inr => exact .inr ⟨by unfold Oper.asks at *; rw [execOp_put oj hsj a oi.dst v h1] at hasks; exact hasks, hlets⟩
    refine .inl ?_
    unfold Oper.wp at *
    rw [execOp_put oj hsj a oi.dst v h1] at h
    generalize (execOp a.eval oj).run P w = r at *
    cases r with
    | ok n w' =>
      cases n <;> simp only [Oper.upon] at h ⊢
      case value u => exact ⟨keep a hy u, by rw [← Act.put_comm a v u h2]; exact h⟩
      case skip => exact ⟨keep a hy _, by rw [← Act.put_comm a v undef h2]; exact h⟩
      case defer d =>
        refine ⟨keep _ (keepD d) _, ?_⟩
        rw [← Act.put_comm _ v undef h2, ← Act.put_defers]
        exact h
      case enter f args =>
        refine Calls.mono h fun e w'' he => ?_
        cases e with
        | returned u => exact ⟨keep a hy u, by rw [← Act.put_comm a v u h2]; exact he⟩
        | panicked c => exact hQ _ _ _ he
        | outgrown => exact he
      case row row args => exact Rows.mono h fun u w'' he => ⟨keep a hy u, by rw [← Act.put_comm a v u h2]; exact he⟩
    | halt x w' =>
      cases x <;> simp only [Oper.upon] at h ⊢
      case panic u => exact hQ _ _ _ h
  · rename_i hw
    simp only [hw] at h
    exact ⟨keep a hy _, by rw [← Act.put_comm a v undef h2]; exact h⟩

/-- An operation that may come up is taken first. -/
theorem first_I {T : World → Prop} {i : Nat} {oi : Oper} {v : Value} (hi : ops[i]? = some oi) (hqi : qt i = true) (hsel : ∀ (j : Nat) (o : Oper) cs b, ops[j]? = some o → o.op ≠ .select cs b)
    (hQ : ∀ c a w, Q (.panic c) (a.put oi.dst v) w → Q (.panic c) a w) :
    ∀ (fuel : Nat) (listed : Array Bool) (a : Act) (w : World), Down ops listed →
      (∀ j oj, ops[j]? = some oj → j ≠ i → listed.getD j true = false → Ord ops i j = false → oi.apart ops oj = true ∧ (qt j = true ∨ (∀ w', (ck j = true → S w') → T w'))) →
      i ∈ Region.ready .any ops listed → YieldsT P ops T oi v a → T w →
      wpAnyI P ops Q S qt ck fuel (listed.setIfInBounds i true) (a.put oi.dst v) w → wpAnyI P ops Q S qt ck (fuel + 1) listed a w := by
  intro fuel
  induction fuel with
  | zero =>
    intro listed a w _ _ hr hy hT H
    refine ⟨fun h => (by rw [h] at hr; cases hr), fun j hj o ho => ?_⟩
    by_cases hji : j = i
    · subst hji
      rw [hi] at ho; simp only [Option.some.injEq] at ho; subst ho
      refine ⟨fun _ => ⟨v, hy.imp (fun ⟨h1, h2⟩ => ⟨h1, fun w' hw' => h2 w' (by rw [hw']; exact hT)⟩) id, H⟩, fun h => by rw [hqi] at h; cases h⟩
    · have := ready_mono hj hji
      rw [H.1] at this
      cases this
  | succ fuel ih =>
    intro listed a w hd hfree hr hy hT H
    refine ⟨fun h => (by rw [h] at hr; cases hr), fun j hj o ho => ?_⟩
    by_cases hji : j = i
    · subst hji
      rw [hi] at ho; simp only [Option.some.injEq] at ho; subst ho
      refine ⟨fun _ => ⟨v, hy.imp (fun ⟨h1, h2⟩ => ⟨h1, fun w' hw' => h2 w' (by rw [hw']; exact hT)⟩) id, H⟩, fun h => by rw [hqi] at h; cases h⟩
    · obtain ⟨hjun, oj, hoj, hall⟩ := mem_ready.1 hj
      rw [ho] at hoj; simp only [Option.some.injEq] at hoj; subst hoj
      have hno : Ord ops i j = false := by
        rcases Bool.eq_false_or_eq_true (Ord ops i j) with h | h
        · have h1 := Ord_listed hd j o ho hall h
          have h0 := (mem_ready.1 hr).1
          rcases Nat.lt_or_ge i listed.size with h' | h'
          · simp [h'] at h0 h1; rw [h0] at h1; cases h1
          · simp [Array.getElem?_eq_none h'] at h1
        · exact h
      obtain ⟨hap, hcl⟩ := hfree j o ho hji hjun hno
      have hfree' : ∀ k ok, ops[k]? = some ok → k ≠ i → (listed.setIfInBounds j true).getD k true = false → Ord ops i k = false → oi.apart ops ok = true ∧ (qt k = true ∨ (∀ w', (ck k = true → S w') → T w')) := fun k ok hk hki hun hno => by
        refine hfree k ok hk hki ?_ hno
        by_cases hjk : j = k
        · subst hjk; exact hjun
        · rw [getD_set_ne true hjk] at hun; exact hun
      have hcomm : (listed.setIfInBounds i true).setIfInBounds j true = (listed.setIfInBounds j true).setIfInBounds i true := Array.setIfInBounds_comm _ _ (Ne.symm hji)
      obtain ⟨H1, H2⟩ := H.2 j (ready_mono hj hji) o ho
      obtain ⟨a1, a2, a3⟩ := Oper.apart_spec hap
      refine ⟨fun hq => ?_, fun hq => ?_⟩
      · obtain ⟨u, hyu, Hu⟩ := H1 hq
        refine ⟨u, hyu.same (execOp_put o (fun cs b => hsel j o cs b ho) a oi.dst v a1).symm (wanted_put o a oi.dst v a1).symm, ?_⟩
        refine ih (listed.setIfInBounds j true) _ w (hd.set hj) hfree' (ready_mono hr (Ne.symm hji)) (hy.same (execOp_put oi (fun cs b => hsel i oi cs b hi) a o.dst u a3) (wanted_put oi a o.dst u a3)) hT ?_
        rw [← Act.put_comm a v u a2, ← hcomm]
        exact Hu
      · have h2 := wpOp_putT (T := T) ho hap (fun cs b => hsel i oi cs b hi) (fun cs b => hsel j o cs b ho) hQ hy (H2 hq)
        refine wpOp_mono (fun a' w' h3 => ⟨h3.2.1, ?_⟩) h2
        have hT' : T w' := (hcl.resolve_left (by rw [hq]; simp)) w' h3.2.1
        refine ih (listed.setIfInBounds j true) a' w' (hd.set hj) hfree' (ready_mono hr (Ne.symm hji)) h3.1 hT' ?_
        rw [← hcomm]
        exact h3.2.2

theorem wpAnyI_mono {S' : World → Prop} (h : ∀ w, S' w → S w) : ∀ (fuel : Nat) (listed : Array Bool) (a : Act) (w : World), wpAnyI P ops Q S' qt ck fuel listed a w → wpAnyI P ops Q S qt ck fuel listed a w
  | 0, _, _, _, k => k
  | fuel + 1, listed, a, w, k => ⟨k.1, fun i hi o ho => by
      obtain ⟨h1, h2⟩ := k.2 i hi o ho
      refine ⟨fun hq => ?_, fun hq => ?_⟩
      · obtain ⟨v, hy, hk⟩ := h1 hq
        exact ⟨v, hy, wpAnyI_mono h fuel _ _ _ hk⟩
      · exact wpOp_mono (fun a' w' hk => ⟨fun hc => h w' (hk.1 hc), wpAnyI_mono h fuel _ a' w' hk.2⟩) (h2 hq)⟩
end

end X
end Go.Proofs.YtgibicifflfpfaaDoor
