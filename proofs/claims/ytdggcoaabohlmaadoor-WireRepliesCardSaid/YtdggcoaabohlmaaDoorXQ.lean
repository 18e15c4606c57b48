/-
  The engine: queues: slices of one-cell elements that are appended to, and cut at their beginning. Conditions: none.
-/
import Derived.Test.YtdggcoaabohlmaaDoorXS
import Derived.Test.YtdggcoaabohlmaaDoorXV
set_option autoImplicit false
set_option linter.unusedVariables false
namespace Go.Proofs.YtdggcoaabohlmaaDoor
namespace X

/-- v is a slice of the cells l in a block from b0 on that is all its own (or it has no room). -/
def VO (w : World) (v : Value) (l : List Value) (b0 : Nat) : Prop :=
  (l = [] ∧ v = .slice none 0 0) ∨ ∃ b pre rest cap, b0 ≤ b ∧ v = .slice (some ⟨b, pre.length, none⟩) l.length cap ∧ cap - l.length ≤ rest.length ∧ l.length ≤ cap ∧ Own w b (pre ++ l ++ rest).toArray
theorem VO.nil (w : World) (b0 : Nat) : VO w (.slice none 0 0) [] b0 := .inl ⟨rfl, rfl⟩
theorem VO.fr {S : Nat → Prop} {w w' : World} {v : Value} {l : List Value} {b0 : Nat} (h : VO w v l b0) (f : Fr S w w') (hS : ∀ k, b0 ≤ k → k < w.heap.size → ¬ S k) : VO w' v l b0 := by
  rcases h with h | ⟨b, pre, rest, cap, h1, h2, h3, h4, h6⟩
  · exact .inl h
  · exact .inr ⟨b, pre, rest, cap, h1, h2, h3, h4, h6.fr f (hS b h1 h6.lt)⟩
theorem VO.fr' {S : Nat → Prop} {w w' : World} {v : Value} {l : List Value} {b0 : Nat} (h : VO w v l b0) (f : Fr S w w') (hS : ∀ k, blk v k → b0 ≤ k → k < w.heap.size → ¬ S k) : VO w' v l b0 := by
  rcases h with h | ⟨b, pre, rest, cap, h1, h2, h3, h4, h6⟩
  · exact .inl h
  · exact .inr ⟨b, pre, rest, cap, h1, h2, h3, h4, h6.fr f (hS b (by subst h2; rfl) h1 h6.lt)⟩
theorem VO.blk_ge {w : World} {v : Value} {l : List Value} {b0 : Nat} (h : VO w v l b0) (hl : l ≠ []) : ∀ k, blk v k → b0 ≤ k ∧ k < w.heap.size := by
  rcases h with ⟨rfl, _⟩ | ⟨b, pre, rest, cap, h1, rfl, h3, h4, h6⟩
  · exact absurd rfl hl
  · intro k hk; rw [show k = b from hk]; exact ⟨h1, h6.lt⟩
theorem VO.len {w : World} {v : Value} {l : List Value} {b0 : Nat} (h : VO w v l b0) : ∃ a cap, v = .slice a l.length cap := by
  rcases h with ⟨rfl, rfl⟩ | ⟨b, pre, rest, cap, h1, rfl, h3, h4, h6⟩
  · exact ⟨_, _, rfl⟩
  · exact ⟨_, _, rfl⟩
theorem VO.one {w : World} {v : Value} {l : List Value} {b0 : Nat} (h : VO w v l b0) : one v = true := by obtain ⟨_, _, rfl⟩ := h.len; rfl
/-- What stands at a place. -/
theorem VO.at {w : World} {v : Value} {l : List Value} {b0 : Nat} {u : Value} {i : Nat} (h : VO w v l b0) (hi : l[i]? = some u) : ∃ b o cap C, b0 ≤ b ∧ v = .slice (some ⟨b, o, none⟩) l.length cap ∧ Own w b C ∧ C[o + i]? = some u := by
  rcases h with ⟨rfl, _⟩ | ⟨b, pre, rest, cap, h1, rfl, h3, h4, h6⟩
  · simp at hi
  · refine ⟨b, pre.length, cap, _, h1, rfl, h6, ?_⟩
    have hil : i < l.length := (List.getElem?_eq_some_iff.1 hi).1
    rw [List.getElem?_toArray, List.append_assoc, List.getElem?_append_right (by omega), Nat.add_sub_cancel_left, List.getElem?_append_left hil]
    exact hi
theorem VO.tail {w : World} {a : Option Addr} {n cap : Nat} {x : Value} {l : List Value} {b0 : Nat} (h : VO w (.slice a n cap) (x :: l) b0) : VO w (.slice (if cap = 1 then a else a.map (·.add (1 * 1))) (n - 1) (cap - 1)) l b0 := by
  rcases h with ⟨h, _⟩ | ⟨b, pre, rest, cap', h1, h2, h3, h4, h6⟩
  · cases h
  · simp only [Value.slice.injEq] at h2
    obtain ⟨rfl, rfl, rfl⟩ := h2
    simp only [List.length_cons] at h3 h4
    by_cases hc : cap = 1
    · subst hc
      have : l = [] := List.length_eq_zero_iff.1 (by omega)
      subst this
      exact .inr ⟨b, pre, x :: rest, 0, h1, by simp, by simp, by simp, by simpa using h6⟩
    · right
      refine ⟨b, pre ++ [x], rest, cap - 1, h1, ?_, by omega, by omega, ?_⟩
      · rw [if_neg hc]; simp [ad_add]
      · have e : pre ++ [x] ++ l ++ rest = pre ++ x :: l ++ rest := by simp
        rw [e]; exact h6

theorem vo_append {P : Program} {el bytes : Nat} {w : World} {s x : Value} {l new : List Value} {b0 : Nat} {K : Value → World → Prop} (hv : VO w s l b0) (hb0 : b0 ≤ w.heap.size)
    (hz : (zcells P el).size = 1) (hl : l.length + new.length ≤ 1000000000000 ∧ bytes ≤ 100)
    (hx : ∀ R : Nat → Prop, R new.length → Len1 x R) (hx2 : ∀ R : List Value → Prop, R new → Take w 1 new.length x R) (hn : 0 < new.length) (h1 : ∀ v ∈ new, X.one v = true)
    (hk : ∀ r w', VO w' r (l ++ new) b0 → Fr (fun k => blk s k ∧ b0 ≤ k) w w' → K r w') : AppVC P el 1 bytes w s x K := by
  obtain ⟨hl1, hl2⟩ := hl
  have hmul : (l.length + new.length) * bytes ≤ 140737488355328 := Nat.le_trans (Nat.mul_le_mul hl1 hl2) (by decide)
  have grow : ∀ (M : Nat), l.length + new.length ≤ M → VO (w.drew.alloc (.cells ((l ++ new).toArray ++ Builtin.zeroCells (zcells P el) (M - (l.length + new.length))) el)) (.slice (some ⟨w.heap.size, 0, none⟩) (l.length + new.length) M) (l ++ new) b0 := by
    intro M hM
    refine .inr ⟨w.heap.size, [], (Builtin.zeroCells (zcells P el) (M - (l.length + new.length))).toList, M, hb0, by rw [List.length_append]; rfl, ?_, by rw [List.length_append]; exact hM, ?_⟩
    · have e0 : (Builtin.zeroCells (zcells P el) (M - (l.length + new.length))).toList.length = M - (l.length + new.length) := by rw [Array.length_toList, size_zeroCells, hz, Nat.mul_one]
      rw [e0, List.length_append]; exact Nat.le_refl _
    · have e : ([] ++ (l ++ new) ++ (Builtin.zeroCells (zcells P el) (M - (l.length + new.length))).toList).toArray = (l ++ new).toArray ++ Builtin.zeroCells (zcells P el) (M - (l.length + new.length)) := by apply Array.ext'; simp
      rw [e]; exact Own.newD w _ _
  have growF : ∀ (M : Nat), Fr (fun k => blk s k ∧ b0 ≤ k) w (w.drew.alloc (.cells ((l ++ new).toArray ++ Builtin.zeroCells (zcells P el) (M - (l.length + new.length))) el)) := fun M => ((Fr.refl _ w).drew).alloc _
  unfold AppVC
  rcases hv with ⟨rfl, rfl⟩ | ⟨b, pre, rest, cap, hb, rfl, h3, h4, h6⟩
  · simp only [Slc1_mk]
    apply hx; apply hx2
    refine ⟨h1, fun hm => by omega, fun _ => ⟨by simp at hl1; omega, by simpa using hmul, ?_⟩⟩
    exact ⟨rfl, fun M hM => hk _ _ (grow M (by simpa using hM)) (growF M)⟩
  · simp only [Slc1_mk]
    apply hx; apply hx2
    refine ⟨h1, fun hm => ?_, fun hm => ⟨by omega, hmul, ?_⟩⟩
    · show StN w ((⟨b, pre.length, none⟩ : Addr).add (l.length * 1)) new _
      rw [ad_add, Nat.mul_one]
      refine stN_row h6 (by simp; omega) h1 ?_
      have e : over (pre ++ l ++ rest).toArray (pre.length + l.length) new = (pre ++ (l ++ new) ++ rest.drop new.length).toArray := by
        have := over_app (pre ++ l) rest new (by omega)
        rw [List.length_append] at this
        rw [this]; simp
      rw [e]
      refine hk _ _ (.inr ⟨b, pre, rest.drop new.length, cap, hb, by rw [List.length_append], ?_, by rw [List.length_append]; exact hm, h6.set _⟩) ?_
      · rw [List.length_drop, List.length_append]; omega
      · exact (Fr.refl _ w).setRow b _ fun _ => ⟨rfl, hb⟩
    · rw [tk_some]
      refine ldN_row h6.row (by simp) ?_
      have e : ((pre ++ l ++ rest).toArray.extract pre.length (pre.length + l.length * 1)).toList = l := by simp
      intro M hM
      rw [e]
      exact hk _ _ (grow M hM) (growF M)
end X
end Go.Proofs.YtdggcoaabohlmaaDoor
