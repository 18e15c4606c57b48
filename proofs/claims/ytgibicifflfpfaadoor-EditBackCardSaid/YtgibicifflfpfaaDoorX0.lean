/-
  The engine, part 0: a small language of operations out of which a function's code is read ('lower'), the condition under which it comes to an end
  ('vc'), and the proof that this condition gives 'Code.wp' of the code itself. Conditions: none; nothing here names a program.
-/
import Derived.WalkKit
import Derived.KernelRfl
set_option autoImplicit false
namespace Go.Proofs.YtgibicifflfpfaaDoor
namespace X
variable {ds : List Deferred}

abbrev Env := List (Nat × Value)

def find? : Env → Nat → Option Value
  | [], _ => none
  | (k, v) :: e, t => if k = t then some v else find? e t

/-- What slot t holds, handed on. -/
def lk (e : Env) (t : Nat) (K : Value → Prop) : Prop :=
  match e with
  | [] => False
  | (k, v) :: r => if k = t then K v else lk r t K

def ev (e : Env) (x : Operand) (K : Value → Prop) : Prop :=
  match x with
  | .tmp t => lk e t K
  | .const v => K v
  | .global g => K (.pointer (some ⟨g, 0, none⟩))
  | .func f => K (.func (.func f) #[] #[])

def evs (e : Env) (xs : List Operand) (K : List Value → Prop) : Prop :=
  match xs with
  | [] => K []
  | x :: r => ev e x fun v => evs e r fun vs => K (v :: vs)

/-- The frame a has n slots and no deferred call, and holds what e says. -/
def Fits (ds : List Deferred) (n : Nat) (e : Env) (a : Act) : Prop := a.tmps.size = n ∧ a.defers = ds ∧ ∀ t v, find? e t = some v → a.tmps[t]? = some v

theorem lk_iff {e : Env} {t : Nat} {K : Value → Prop} (h : lk e t K) : ∃ v, find? e t = some v ∧ K v := by
  induction e with
  | nil => exact h.elim
  | cons p r ih =>
    obtain ⟨k, v⟩ := p
    simp only [lk, find?] at h ⊢
    split
    · rename_i hk; rw [if_pos hk] at h; exact ⟨v, rfl, h⟩
    · rename_i hk; rw [if_neg hk] at h; exact ih h

theorem Fits.eval {n : Nat} {e : Env} {a : Act} (hf : Fits ds n e a) {x : Operand} {K : Value → Prop} (h : ev e x K) : K (a.eval x) := by
  cases x with
  | tmp t =>
    obtain ⟨v, hv, hk⟩ := lk_iff h
    have := hf.2.2 t v hv
    have h2 : a.eval (.tmp t) = v := by simp [Act.eval, Array.getD_eq_getD_getElem?, this]
    rw [h2]; exact hk
  | const v => exact h
  | global g => exact h
  | func f => exact h

theorem Fits.evals {n : Nat} {e : Env} {a : Act} (hf : Fits ds n e a) : ∀ (xs : List Operand) (K : List Value → Prop), evs e xs K → K (xs.map a.eval)
  | [], _, h => h
  | x :: r, K, h => Fits.evals hf r (fun vs => K (a.eval x :: vs)) (hf.eval (K := fun v => evs e r fun vs => K (v :: vs)) h)

theorem Fits.put {n : Nat} {e : Env} {a : Act} (hf : Fits ds n e a) {d : Nat} (hd : d < n) (v : Value) : Fits ds n ((d, v) :: e) (a.put (some d) v) := by
  refine ⟨by simp [Act.put, hf.1], by simp [Act.put, hf.2.1], fun t u h => ?_⟩
  simp only [find?] at h
  split at h
  · rename_i hk; subst hk; simp only [Option.some.injEq] at h; subst h
    simp [Act.put, hf.1, hd]
  · rename_i hk
    have := hf.2.2 t u h
    simp only [Act.put]
    rw [Array.getElem?_setIfInBounds, if_neg hk]; exact this

theorem Fits.none {n : Nat} {e : Env} {a : Act} (hf : Fits ds n e a) (v : Value) : Fits ds n e (a.put Option.none v) := hf

/-- A frame that holds e holds what e says of the slots ks. -/
def keep (e : Env) : List Nat → Env
  | [] => []
  | k :: ks => match find? e k with
    | some v => (k, v) :: keep e ks
    | none => keep e ks

theorem find_keep {e : Env} : ∀ {ks : List Nat} {t : Nat} {v : Value}, find? (keep e ks) t = some v → find? e t = some v
  | [], _, _, h => by simp [keep, find?] at h
  | k :: ks, t, v, h => by
    simp only [keep] at h
    cases hk : find? e k with
    | none => rw [hk] at h; exact find_keep h
    | some u =>
      rw [hk] at h
      simp only [find?] at h
      split at h
      · rename_i hkt; subst hkt; simp only [Option.some.injEq] at h; subst h; exact hk
      · exact find_keep h

theorem Fits.keep {n : Nat} {e : Env} {a : Act} (hf : Fits ds n e a) (ks : List Nat) : Fits ds n (keep e ks) a :=
  ⟨hf.1, hf.2.1, fun t v h => hf.2.2 t v (find_keep h)⟩

/-- e1 says nothing that e does not say. -/
def Sub (e1 e : Env) : Prop := ∀ kv ∈ e1, find? e kv.1 = some kv.2

theorem find_mem {e : Env} {t : Nat} {v : Value} (h : find? e t = some v) : (t, v) ∈ e := by
  induction e with
  | nil => simp [find?] at h
  | cons p r ih =>
    obtain ⟨k, u⟩ := p
    simp only [find?] at h
    split at h
    · rename_i hk; subst hk; simp only [Option.some.injEq] at h; subst h; exact List.mem_cons_self
    · exact List.mem_cons_of_mem _ (ih h)

theorem Fits.sub {n : Nat} {e e1 : Env} {a : Act} (hf : Fits ds n e a) (h : Sub e1 e) : Fits ds n e1 a :=
  ⟨hf.1, hf.2.1, fun t v hv => hf.2.2 t v (h (t, v) (find_mem hv))⟩

/-! The primitives of the conditions. -/
def Int2 (k : IntKind) (x y : Value) (K : Int → Int → Prop) : Prop :=
  match x, y with
  | .int k1 a, .int k2 b => k1 = k ∧ k2 = k ∧ K a b
  | _, _ => False
def Str2 (x y : Value) (K : ByteArray → ByteArray → Prop) : Prop :=
  match x, y with
  | .string a, .string b => K a b
  | _, _ => False
def Bool1 (x : Value) (K : Bool → Prop) : Prop := match x with | .bool b => K b | _ => False
def Int1 (x : Value) (K : IntKind → Int → Prop) : Prop := match x with | .int k n => K k n | _ => False
def Ptr1 (x : Value) (K : Addr → Prop) : Prop := match x with | .pointer (some a) => K a | _ => False
def Agg1 (x : Value) (K : Array Value → Prop) : Prop := match x with | .agg cs => K cs | _ => False
def Tup1 (x : Value) (i : Nat) (K : Value → Prop) : Prop := match x with | .tuple vs => (match vs[i]? with | some v => K v | none => False) | _ => False
@[simp] theorem Int2_mk (k : IntKind) (a b : Int) (K : Int → Int → Prop) : Int2 k (.int k a) (.int k b) K = K a b := by simp [Int2]
@[simp] theorem Str2_mk (a b : ByteArray) (K : ByteArray → ByteArray → Prop) : Str2 (.string a) (.string b) K = K a b := rfl
@[simp] theorem Bool1_mk (b : Bool) (K : Bool → Prop) : Bool1 (.bool b) K = K b := rfl
@[simp] theorem Int1_mk (k : IntKind) (n : Int) (K : IntKind → Int → Prop) : Int1 (.int k n) K = K k n := rfl
@[simp] theorem Ptr1_mk (a : Addr) (K : Addr → Prop) : Ptr1 (.pointer (some a)) K = K a := rfl
@[simp] theorem Agg1_mk (cs : Array Value) (K : Array Value → Prop) : Agg1 (.agg cs) K = K cs := rfl

/-- The cell at a. -/
def Ld (w : World) (a : Addr) (K : Value → Prop) : Prop :=
  match w.heap[a.block]? with
  | some (.cells C _ _) => a.spot = none ∧ (match C[a.off]? with | some v => K v | none => False)
  | _ => False
/-- n cells from a on. -/
def LdN (w : World) (a : Addr) (n : Nat) (K : Array Value → Prop) : Prop :=
  match w.heap[a.block]? with
  | some (.cells C _ _) => a.spot = none ∧ a.off + n ≤ C.size ∧ K (C.extract a.off (a.off + n))
  | _ => False
def one (v : Value) : Bool := match v with | .agg _ | .tuple _ => false | _ => true
/-- vs over C from o on. -/
def over (C : Array Value) (o : Nat) (vs : List Value) : Array Value := (C.toList.take o ++ vs ++ C.toList.drop (o + vs.length)).toArray
def St (w : World) (a : Addr) (v : Value) (K : World → Prop) : Prop :=
  match w.heap[a.block]? with
  | some (.cells C _ fz) => a.spot = none ∧ a.off < C.size ∧ (fz.2 ≤ a.off ∨ a.off < fz.1) ∧ one v = true ∧ K (w.setRow a.block (C.setIfInBounds a.off v))
  | _ => False
def StN (w : World) (a : Addr) (vs : List Value) (K : World → Prop) : Prop :=
  match w.heap[a.block]? with
  | some (.cells C _ fz) => a.spot = none ∧ a.off + vs.length ≤ C.size ∧ (fz.2 ≤ a.off ∨ a.off + vs.length ≤ fz.1) ∧ (∀ v ∈ vs, one v = true) ∧ K (w.setRow a.block (over C a.off vs))
  | _ => False

end X
end Go.Proofs.YtgibicifflfpfaaDoor
