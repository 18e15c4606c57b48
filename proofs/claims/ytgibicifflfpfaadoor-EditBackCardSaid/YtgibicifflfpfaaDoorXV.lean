/-
  The engine: slices that a function has made itself and appends to. Conditions: none.
-/
import Derived.Test.YtgibicifflfpfaaDoorXR
import Derived.Laws.AppendOwn
set_option autoImplicit false
namespace Go.Proofs.YtgibicifflfpfaaDoor
namespace X

/-- v is a slice of the cells l, c cells an element, in a block from b0 on that is all its own (or nil). -/
def Vec (w : World) (v : Value) (c : Nat) (l : List Value) (b0 : Nat) : Prop :=
  (v = .slice none 0 0 ∧ l = []) ∨ ∃ b n cap rest, b0 ≤ b ∧ v = .slice (some ⟨b, 0, none⟩) n cap ∧ l.length = n * c ∧ n ≤ cap ∧ rest.length = (cap - n) * c ∧ Own w b (l ++ rest).toArray
/-- The block of a slice. -/
def blk (v : Value) : Nat → Prop := fun k => match v with | .slice (some a) _ _ => k = a.block | _ => False

theorem Vec.nil (w : World) (c b0 : Nat) : Vec w (.slice none 0 0) c [] b0 := .inl ⟨rfl, rfl⟩
theorem Vec.fr {S : Nat → Prop} {w w' : World} {v : Value} {c : Nat} {l : List Value} {b0 : Nat} (h : Vec w v c l b0) (f : Fr S w w') (hS : ∀ k, blk v k → ¬ S k) : Vec w' v c l b0 := by
  rcases h with h | ⟨b, n, cap, rest, h1, h2, h3, h4, h5, h6⟩
  · exact .inl h
  · exact .inr ⟨b, n, cap, rest, h1, h2, h3, h4, h5, h6.fr f (hS b (by subst h2; rfl))⟩
theorem Vec.drew {w : World} {v : Value} {c : Nat} {l : List Value} {b0 : Nat} (h : Vec w v c l b0) : Vec w.drew v c l b0 := by
  rcases h with h | ⟨b, n, cap, rest, h1, h2, h3, h4, h5, h6⟩
  · exact .inl h
  · exact .inr ⟨b, n, cap, rest, h1, h2, h3, h4, h5, h6⟩
theorem Vec.mono {w : World} {v : Value} {c : Nat} {l : List Value} {b0 b1 : Nat} (h : Vec w v c l b0) (hb : b1 ≤ b0) : Vec w v c l b1 := by
  rcases h with h | ⟨b, n, cap, rest, h1, h2, h3, h4, h5, h6⟩
  · exact .inl h
  · exact .inr ⟨b, n, cap, rest, by omega, h2, h3, h4, h5, h6⟩
theorem Vec.blk_ge {w : World} {v : Value} {c : Nat} {l : List Value} {b0 : Nat} (h : Vec w v c l b0) : ∀ k, blk v k → b0 ≤ k := by
  rcases h with ⟨rfl, _⟩ | ⟨b, n, cap, rest, h1, rfl, h3, h4, h5, h6⟩
  · intro k hk; exact hk.elim
  · intro k hk; rw [show k = b from hk]; exact h1
theorem Vec.blk_lt {w : World} {v : Value} {c : Nat} {l : List Value} {b0 : Nat} (h : Vec w v c l b0) : ∀ k, blk v k → k < w.heap.size := by
  rcases h with ⟨rfl, _⟩ | ⟨b, n, cap, rest, h1, rfl, h3, h4, h5, h6⟩
  · intro k hk; exact hk.elim
  · intro k hk; rw [show k = b from hk]; exact h6.lt
theorem Vec.one {w : World} {b : Nat} {c : Nat} {l : List Value} {b0 n : Nat} (hb : b0 ≤ b) (hl : l.length = n * c) (h : Own w b l.toArray) : Vec w (.slice (some ⟨b, 0, none⟩) n n) c l b0 :=
  .inr ⟨b, n, n, [], hb, rfl, hl, Nat.le_refl _, by simp, by simpa using h⟩
/-- What can be read of it. -/
theorem Vec.row {w : World} {v : Value} {c : Nat} {l : List Value} {b0 : Nat} (h : Vec w v c l b0) : ∃ a n cap, v = .slice a n cap ∧ l.length = n * c ∧
    ((a = none ∧ n = 0 ∧ cap = 0) ∨ ∃ b rest, b0 ≤ b ∧ a = some ⟨b, 0, none⟩ ∧ n ≤ cap ∧ Own w b (l ++ rest).toArray) := by
  rcases h with ⟨rfl, rfl⟩ | ⟨b, n, cap, rest, h1, rfl, h3, h4, h5, h6⟩
  · exact ⟨none, 0, 0, rfl, by simp, .inl ⟨rfl, rfl, rfl⟩⟩
  · exact ⟨_, n, cap, rfl, h3, .inr ⟨b, rest, h1, rfl, h4, h6⟩⟩

theorem over_app (l rest new : List Value) (h : new.length ≤ rest.length) : over (l ++ rest).toArray l.length new = (l ++ new ++ rest.drop new.length).toArray := by
  unfold over
  simp only [List.take_left, List.append_assoc]
  congr 2
  rw [← List.drop_drop, List.drop_left]

theorem vec_append {P : Program} {el c bytes : Nat} {w : World} {s x : Value} {l new : List Value} {b0 m : Nat} {K : Value → World → Prop} (hv : Vec w s c l b0) (hb0 : b0 ≤ w.heap.size)
    (hz : (zcells P el).size = c) (hl : ∃ n, l.length = n * c ∧ n + m ≤ 4611686018427387904 ∧ (n + m) * bytes ≤ 140737488355328) (hc : 0 < c)
    (hx : ∀ R : Nat → Prop, R m → Len1 x R) (hx2 : ∀ R : List Value → Prop, R new → Take w c m x R) (hnew : new.length = m * c) (h1 : ∀ v ∈ l ++ new, one v = true)
    (hk : ∀ r w', Vec w' r c (l ++ new) b0 → Fr (blk s) w w' → (∀ k, blk r k → blk s k ∨ w.heap.size ≤ k) → K r w') : AppVC P el c bytes w s x K := by
  obtain ⟨n, hln, hs1, hs2⟩ := hl
  have hnew1 : ∀ v ∈ new, one v = true := fun v h => h1 v (by simp [h])
  have grow : ∀ (M : Nat), n + m ≤ M → Vec (w.drew.alloc (.cells ((l ++ new).toArray ++ Builtin.zeroCells (zcells P el) (M - (n + m))) el)) (.slice (some ⟨w.heap.size, 0, none⟩) (n + m) M) c (l ++ new) b0 := by
    intro M hM
    refine .inr ⟨w.heap.size, n + m, M, (Builtin.zeroCells (zcells P el) (M - (n + m))).toList, hb0, rfl, by simp [hln, hnew, Nat.add_mul], hM, ?_, ?_⟩
    · rw [Array.length_toList, size_zeroCells, hz]
    · have e : (l ++ new ++ (Builtin.zeroCells (zcells P el) (M - (n + m))).toList).toArray = (l ++ new).toArray ++ Builtin.zeroCells (zcells P el) (M - (n + m)) := by apply Array.ext'; simp
      rw [e]; exact Own.newD w _ _
  have growF : ∀ (M : Nat), Fr (blk s) w (w.drew.alloc (.cells ((l ++ new).toArray ++ Builtin.zeroCells (zcells P el) (M - (n + m))) el)) := fun M => ((Fr.refl _ w).drew).alloc _
  unfold AppVC
  rcases hv with ⟨rfl, rfl⟩ | ⟨b, n', cap, rest, hb, rfl, h3, h4, h5, h6⟩
  · have hn0 : n = 0 := by
      rcases Nat.eq_zero_or_pos n with h | h
      · exact h
      · have := Nat.mul_pos h hc; simp at hln; omega
    subst hn0
    simp only [Slc1_mk]
    apply hx; apply hx2
    refine ⟨hnew1, fun hm => ?_, fun _ => ⟨by omega, hs2, ⟨rfl, fun M hM => ?_⟩⟩⟩
    · have hm0 : m = 0 := by omega
      subst hm0
      have : new = [] := by simpa using hnew
      subst this
      exact ⟨rfl, hk _ _ (.inl ⟨rfl, rfl⟩) (Fr.refl _ _) fun k h => h.elim⟩
    · exact hk _ _ (grow M (by omega)) (growF M) fun k h => .inr (by rw [show k = w.heap.size from h]; exact Nat.le_refl _)
  · have hnn : n' = n := Nat.eq_of_mul_eq_mul_right hc (h3.symm.trans hln)
    subst hnn
    simp only [Slc1_mk]
    apply hx; apply hx2
    refine ⟨hnew1, fun hm => ?_, fun _ => ⟨by omega, hs2, ?_⟩⟩
    · have hr : new.length ≤ rest.length := by rw [h5, hnew]; exact Nat.mul_le_mul_right c (by omega)
      show StN w ((⟨b, 0, none⟩ : Addr).add (n' * c)) new _
      rw [ad_add]
      refine stN_row h6 (by simp [h3]; omega) hnew1 ?_
      rw [Nat.zero_add, ← h3, over_app l rest new hr]
      refine hk _ _ (.inr ⟨b, n' + m, cap, rest.drop new.length, hb, rfl, by simp [h3, hnew, Nat.add_mul], hm, ?_, h6.set _⟩) ?_ fun k h => .inl h
      · rw [List.length_drop, h5, hnew, ← Nat.sub_mul]; congr 1; omega
      · exact (Fr.refl _ w).setRow b _ fun _ => rfl
    · rw [tk_some]
      refine ldN_row h6.row (by simp [h3]) ?_
      have e : ((l ++ rest).toArray.extract 0 (0 + n' * c)).toList = l := by simp [← h3]
      intro M hM
      rw [e]
      exact hk _ _ (grow M hM) (growF M) fun k h => .inr (by rw [show k = w.heap.size from h]; exact Nat.le_refl _)
end X
end Go.Proofs.YtgibicifflfpfaaDoor
