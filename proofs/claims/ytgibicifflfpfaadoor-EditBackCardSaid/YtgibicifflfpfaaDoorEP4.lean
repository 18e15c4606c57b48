/-
  Where reading goes wrong; how long a printed edit is. Plain. Conditions: none.
-/
import Derived.Test.YtgibicifflfpfaaDoorEP2
set_option autoImplicit false
namespace Go.Proofs.YtgibicifflfpfaaDoor

def bad (s : List UInt8) (x : Nat × Int) : Prop := x.1 ≤ s.length ∧ ¬ x.2 = 0
theorem errAt_bad (s : List UInt8) (i : Nat) : bad s (errAt s i) := by
  unfold bad errAt
  split
  · simp
  · rename_i h
    refine ⟨?_, by simp⟩
    simp only; omega
theorem wordP_err {s : List UInt8} {i : Nat} {ws : List (List UInt8)} {x : Nat × Int} (h : wordP s i ws = .error x) : bad s x := by
  unfold wordP at h
  split at h
  · cases h
  · simp only [Except.error.injEq] at h; subst h; exact errAt_bad _ _
theorem spP_err {s : List UInt8} {i : Nat} {x : Nat × Int} (h : spP s i = .error x) : bad s x := by
  unfold spP at h
  split at h
  · cases h
  · simp only [Except.error.injEq] at h; subst h; exact errAt_bad _ _
theorem spP_ok' {s : List UInt8} {i j : Nat} (h : spP s i = .ok j) : j = i + 1 ∧ i < s.length := by
  unfold spP at h
  split at h
  · rename_i hc
    simp only [Except.ok.injEq] at h
    exact ⟨h.symm, bt_lt_of (by omega)⟩
  · cases h
theorem numL_le' (l : List UInt8) : ∀ (k n : Nat), (numL l k n).2 ≤ k + l.length := by
  induction l with
  | nil => intro k n; simp [numL]
  | cons b l ih =>
    intro k n
    rw [numL]
    split
    · have := ih (k + 1) (min (10 * n + (b.toNat - 48)) 2147483648); simp only [List.length_cons]; omega
    · simp
theorem numP_err {s : List UInt8} {i limit : Nat} {x : Nat × Int} (h : numP s i limit = .error x) : bad s x := by
  have hl := numL_le' (s.drop i) 0 0
  rw [List.length_drop] at hl
  unfold numP at h
  split at h
  · simp only [Except.error.injEq] at h; subst h; exact errAt_bad _ _
  · split at h
    · simp only [Except.error.injEq] at h; subst h
      exact ⟨by simp only; omega, by simp⟩
    · cases h
theorem numP_le' {s : List UInt8} {i limit n j : Nat} (h : numP s i limit = .ok (n, j)) : j ≤ s.length := by
  have hl := numL_le' (s.drop i) 0 0
  rw [List.length_drop] at hl
  unfold numP at h
  split at h
  · cases h
  · split at h
    · cases h
    · simp only [Except.ok.injEq, Prod.mk.injEq] at h; omega
theorem errAt_le' (l : List UInt8) (i : Nat) : (errAt l i).1 ≤ l.length := (errAt_bad l i).1
theorem unqL_le' (l : List UInt8) : ∀ (f i : Nat) (out : List UInt8), (unqL l f i out).2.1 ≤ l.length
  | 0, i, out => errAt_le' l i
  | f + 1, i, out => by
    unfold unqL
    split
    · exact errAt_le' l i
    split
    · simp only; omega
    split
    · exact errAt_le' l i
    split
    · exact unqL_le' l f _ _
    rcases unqE l (i + 1) with ⟨j, _ | y⟩
    · exact errAt_le' l j
    · exact unqL_le' l f _ _
theorem unq_le' (l : List UInt8) : (unq l).2.1 ≤ l.length := by
  unfold unq
  split
  · exact errAt_le' l 0
  · exact unqL_le' l _ _ _
theorem quoP_err {s : List UInt8} {i : Nat} {x : Nat × Int} (hi : i ≤ s.length) (h : quoP s i = .error x) : bad s x := by
  have hl := unq_le' (s.drop i)
  rw [List.length_drop] at hl
  unfold quoP at h
  split at h
  · cases h
  · rename_i h0
    simp only [Except.error.injEq] at h; subst h
    exact ⟨by simp only; omega, h0⟩
theorem bnP_err {s : List UInt8} {i limit : Nat} {x : Nat × Int} (h : bnP s i limit = .error x) : bad s x := by
  unfold bnP at h
  split at h
  · rename_i hs; simp only [Except.error.injEq] at h; subst h; exact spP_err hs
  · exact numP_err h
theorem bqP_err {s : List UInt8} {i : Nat} {x : Nat × Int} (h : bqP s i = .error x) : bad s x := by
  unfold bqP at h
  split at h
  · rename_i hs; simp only [Except.error.injEq] at h; subst h; exact spP_err hs
  · rename_i hs; have := spP_ok' hs; exact quoP_err (by omega) h
theorem numsP_err {s : List UInt8} : ∀ {k i : Nat} {x : Nat × Int}, numsP s k i = .error x → bad s x
  | 0, i, x, h => by simp [numsP] at h
  | k + 1, i, x, h => by
    unfold numsP at h
    split at h
    · rename_i hs; simp only [Except.error.injEq] at h; subst h; exact bnP_err hs
    · split at h
      · rename_i hs; simp only [Except.error.injEq] at h; subst h; exact numsP_err hs
      · cases h
theorem restP_err {s : List UInt8} {k i : Nat} {x : Nat × Int} (hk : k < 6) (h : restP s k i = .error x) : bad s x := by
  match k, hk with
  | 0, _ =>
    simp only [restP] at h
    split at h
    · rename_i hs; simp only [Except.error.injEq] at h; subst h; exact spP_err hs
    split at h
    · rename_i hs; simp only [Except.error.injEq] at h; subst h; exact wordP_err hs
    · cases h
  | 1, _ =>
    simp only [restP] at h
    split at h
    · rename_i hs; simp only [Except.error.injEq] at h; subst h; exact numsP_err hs
    · cases h
  | 2, _ =>
    simp only [restP] at h
    split at h
    · rename_i hs; simp only [Except.error.injEq] at h; subst h; exact numsP_err hs
    · cases h
  | 3, _ =>
    simp only [restP] at h
    split at h
    · rename_i hs; simp only [Except.error.injEq] at h; subst h; exact bnP_err hs
    split at h
    · rename_i hs; simp only [Except.error.injEq] at h; subst h; exact bnP_err hs
    split at h
    · rename_i hs; simp only [Except.error.injEq] at h; subst h; exact bqP_err hs
    · cases h
  | 4, _ =>
    simp only [restP] at h
    split at h
    · rename_i hs; simp only [Except.error.injEq] at h; subst h; exact bnP_err hs
    · cases h
  | 5, _ =>
    simp only [restP] at h
    split at h
    · rename_i hs; simp only [Except.error.injEq] at h; subst h; exact bqP_err hs
    · cases h
theorem parse_err {s : List UInt8} {x : Nat × Int} (h : parseP s = .error x) : bad s x := by
  unfold parseP at h
  split at h
  · rename_i hs; simp only [Except.error.injEq] at h; subst h; exact wordP_err hs
  rename_i k i hw
  split at h
  · rename_i hs; simp only [Except.error.injEq] at h; subst h; exact restP_err (wordP_lt' hw) hs
  split at h
  · rename_i hj; simp only [Except.error.injEq] at h; subst h; exact ⟨by simp only; omega, by simp⟩
  · cases h
theorem parse_place (s : List UInt8) : (parseL s).2.1 ≤ s.length := by
  unfold parseL
  cases h : parseP s with
  | error x => exact (parse_err h).1
  | ok e => simp
end Go.Proofs.YtgibicifflfpfaaDoor
