/-
  What a table holds: its codes are those of the symbols, in order (plain).
-/
import Derived.Test.YtomckpllbihikaaB9
set_option autoImplicit false
set_option linter.unusedSimpArgs false
set_option linter.unusedVariables false
namespace Go.Proofs.Ytomckpllbihikaa
open X

theorem hIn_inv {s : ByteArray} {n : Nat} (hn : 1 ≤ n ∧ n ≤ 16) : ∀ (c nx at' : Nat) (m : List Int) (L : List (Nat × Nat × Nat)), m.length = 546 → CInv m L → L.map (·.1) = (List.range at').map (sb s) → ∀ nx' at2 m', hIn s n c nx at' m = some (nx', at2, m') →
    ∃ L', CInv m' L' ∧ m'.length = 546 ∧ L'.map (·.1) = (List.range at2).map (sb s) ∧ at2 = at' + c ∧ (at' ≤ s.size → at2 ≤ s.size)
  | 0, nx, at', m, L, hm, hL, hs, nx', at2, m', h => by
    simp only [hIn, Option.some.injEq, Prod.mk.injEq] at h
    obtain ⟨_, rfl, rfl⟩ := h
    exact ⟨L, hL, hm, hs, rfl, fun h => h⟩
  | c + 1, nx, at', m, L, hm, hL, hs, nx', at2, m', h => by
    simp only [hIn] at h
    split at h
    · cases h
    · rename_i hbad
      obtain ⟨b1, hb⟩ := not_or.1 hbad
      obtain ⟨b2, b3⟩ := not_or.1 hb
      have h2 := hL.step hm (x := sb s at') (b := nx) (n := n) (sb_lt s at') b3 hn.1 hn.2 (by omega)
      obtain ⟨L', r1, r2, r3, r4, r5⟩ := hIn_inv hn c (nx + 1) (at' + 1) _ _ (by simp [hm]) h2 (by rw [List.map_append, hs, List.range_succ, List.map_append]; rfl) nx' at2 m' h
      exact ⟨L', r1, r2, r3, by omega, fun _ => r5 (by omega)⟩
def cntSum (cnt : List Int) : Nat → Nat
  | 0 => 0
  | r + 1 => (g cnt (15 - r)).toNat + cntSum cnt r
theorem hOut_inv {cnt : List Int} {s : ByteArray} : ∀ (r nx at' : Nat) (m : List Int) (L : List (Nat × Nat × Nat)), r ≤ 16 → m.length = 546 → CInv m L → L.map (·.1) = (List.range at').map (sb s) → ∀ nx' at2 m', hOut cnt s r nx at' m = some (nx', at2, m') →
    ∃ L', CInv m' L' ∧ m'.length = 546 ∧ L'.map (·.1) = (List.range at2).map (sb s) ∧ at2 = at' + cntSum cnt r
  | 0, nx, at', m, L, hr, hm, hL, hs, nx', at2, m', h => by
    simp only [hOut, Option.some.injEq, Prod.mk.injEq] at h
    obtain ⟨_, rfl, rfl⟩ := h
    exact ⟨L, hL, hm, hs, rfl⟩
  | r + 1, nx, at', m, L, hr, hm, hL, hs, nx', at2, m', h => by
    simp only [hOut] at h
    split at h
    · cases h
    · rename_i nx2 at3 m3 he
      have h2 := (hL.far hm (512 + (16 - r)) (by omega) (by omega) ((2 * nx : Nat) : Int)).far (by simpa using hm) (529 + (16 - r)) (by omega) (by omega) (at' : Int)
      obtain ⟨L2, r1, r2, r3, r4, r5⟩ := hIn_inv (by omega) _ _ _ _ _ (by simp [hm]) h2 hs _ _ _ he
      obtain ⟨L', q1, q2, q3, q4⟩ := hOut_inv r nx2 at3 m3 L2 (by omega) r2 r1 r3 nx' at2 m' h
      exact ⟨L', q1, q2, q3, by simp only [cntSum]; omega⟩
/-- A table that was made holds a list of codes: of all symbols, in their order. -/
theorem hNew_inv {cnt : List Int} {s : ByteArray} {M : List Int} (h : hNew cnt s = some M) : ∃ L, CInv M L ∧ M.length = 546 ∧ L.map (·.1) = (List.range s.size).map (sb s) := by
  unfold hNew at h
  split at h
  · cases h
  · rename_i nx at' m he
    split at h
    · cases h
    · rename_i hn
      simp only [Option.some.injEq] at h; subst h
      obtain ⟨L, h1, h2, h3, _⟩ := hOut_inv 16 0 0 _ [] (Nat.le_refl _) List.length_replicate .base rfl _ _ _ he
      obtain ⟨_, n2⟩ := not_or.1 hn
      rw [Decidable.not_not] at n2
      exact ⟨L, h1, h2, by rw [← n2]; exact h3⟩
theorem CInv.bound {M : List Int} {L : List (Nat × Nat × Nat)} (h : CInv M L) (i : Nat) (hi : i < 256) : 0 ≤ g M (2 * i + 1) ∧ g M (2 * i + 1) ≤ 16 ∧ (0 < g M (2 * i + 1) ↔ i ∈ L.map (·.1)) := by
  by_cases hm : i ∈ L.map (·.1)
  · obtain ⟨⟨x, b, n⟩, ht, he⟩ := List.mem_map.1 hm
    dsimp only at he; subst he
    obtain ⟨_, _, h3, h4, h5, _⟩ := h.mem _ _ _ ht
    exact ⟨by omega, by omega, by simp only [hm, iff_true]; omega⟩
  · have := h.out i hi hm
    exact ⟨by omega, by omega, by simp only [hm, iff_false]; omega⟩


/-- The lengths of the codes, in order. -/
def lensC (cnt : List Int) : Nat → List Nat
  | 0 => []
  | r + 1 => List.replicate (g cnt (15 - r)).toNat (16 - r) ++ lensC cnt r
/-- What the last r lengths' codes take of 65536. -/
def krem (cnt : List Int) : Nat → Nat
  | 0 => 0
  | r + 1 => (g cnt (15 - r)).toNat * 2 ^ r + krem cnt r

theorem hIn_ok {s : ByteArray} {n : Nat} (hn : 1 ≤ n ∧ n ≤ 16) (hd : ∀ i j, i < s.size → j < s.size → i ≠ j → sb s i ≠ sb s j) : ∀ (c nx at' : Nat) (m : List Int) (L : List (Nat × Nat × Nat)), m.length = 546 → CInv m L → L.map (·.1) = (List.range at').map (sb s) →
    at' + c ≤ s.size → nx + c < 2 ^ n → ∃ m' L', hIn s n c nx at' m = some (nx + c, at' + c, m') ∧ CInv m' L' ∧ m'.length = 546 ∧ L'.map (·.1) = (List.range (at' + c)).map (sb s) ∧ L'.map (·.2.2) = L.map (·.2.2) ++ List.replicate c n
  | 0, nx, at', m, L, hm, hL, hs, h1, h2 => ⟨m, L, rfl, hL, hm, hs, by simp⟩
  | c + 1, nx, at', m, L, hm, hL, hs, h1, h2 => by
    have hno : ¬ 0 < g m (2 * sb s at' + 1) := fun h => by
      have := (hL.bound (sb s at') (sb_lt s at')).2.2.1 h
      rw [hs] at this
      obtain ⟨j, hj, he⟩ := List.mem_map.1 this
      have hj := List.mem_range.1 hj
      exact hd j at' (by omega) (by omega) (by omega) he
    have h3 := hL.step hm (x := sb s at') (b := nx) (n := n) (sb_lt s at') hno hn.1 hn.2 (by omega)
    obtain ⟨m', L', r1, r2, r3, r4, r5⟩ := hIn_ok hn hd c (nx + 1) (at' + 1) _ _ (by simp [hm]) h3 (by rw [List.map_append, hs, List.range_succ, List.map_append]; rfl) (by omega) (by omega)
    refine ⟨m', L', ?_, r2, r3, ?_, ?_⟩
    · simp only [hIn]
      rw [if_neg (by omega), r1]
      rw [show nx + 1 + c = nx + (c + 1) by omega, show at' + 1 + c = at' + (c + 1) by omega]
    · rw [r4, show at' + 1 + c = at' + (c + 1) by omega]
    · rw [r5, List.map_append, List.replicate_succ, List.append_assoc]; rfl

theorem hOut_ok {cnt : List Int} {s : ByteArray} (hd : ∀ i j, i < s.size → j < s.size → i ≠ j → sb s i ≠ sb s j) : ∀ (r nx at' : Nat) (m : List Int) (L : List (Nat × Nat × Nat)), r ≤ 16 → m.length = 546 → CInv m L → L.map (·.1) = (List.range at').map (sb s) →
    at' + cntSum cnt r ≤ s.size → nx * 2 ^ r + krem cnt r < 65536 → ∃ nx' m' L', hOut cnt s r nx at' m = some (nx', at' + cntSum cnt r, m') ∧ CInv m' L' ∧ m'.length = 546 ∧ L'.map (·.1) = (List.range (at' + cntSum cnt r)).map (sb s) ∧ L'.map (·.2.2) = L.map (·.2.2) ++ lensC cnt r
  | 0, nx, at', m, L, hr, hm, hL, hs, h1, h2 => ⟨nx, m, L, rfl, hL, hm, hs, by simp [lensC]⟩
  | r + 1, nx, at', m, L, hr, hm, hL, hs, h1, h2 => by
    have h3 := (hL.far hm (512 + (16 - r)) (by omega) (by omega) ((2 * nx : Nat) : Int)).far (by simpa using hm) (529 + (16 - r)) (by omega) (by omega) (at' : Int)
    simp only [cntSum, krem] at h1 h2
    obtain ⟨c, hc⟩ : ∃ c, (g cnt (15 - r)).toNat = c := ⟨_, rfl⟩
    rw [hc] at h1 h2
    have e1 : (2 * nx + c) * 2 ^ r + krem cnt r = nx * 2 ^ (r + 1) + (c * 2 ^ r + krem cnt r) := by
      rw [Nat.add_mul, Nat.pow_succ, Nat.mul_comm (2 ^ r) 2, ← Nat.mul_assoc, Nat.mul_comm nx 2]; omega
    have e2 : (2 * nx + c) * 2 ^ r < 65536 := by omega
    have e3 : (65536 : Nat) = 2 ^ (16 - r) * 2 ^ r := by rw [← Nat.pow_add, show 16 - r + r = 16 by omega]
    have e4 : 2 * nx + c < 2 ^ (16 - r) := by
      rw [e3] at e2
      exact Nat.lt_of_mul_lt_mul_right e2
    obtain ⟨m2, L2, r1, r2, r3, r4, r5⟩ := hIn_ok (by omega : 1 ≤ 16 - r ∧ 16 - r ≤ 16) hd c (2 * nx) at' _ _ (by simp [hm]) h3 hs (by omega) e4
    obtain ⟨nx', m', L', q1, q2, q3, q4, q5⟩ := hOut_ok (cnt := cnt) hd r (2 * nx + c) (at' + c) m2 L2 (by omega) r3 r2 r4 (by omega) (by omega)
    refine ⟨nx', m', L', ?_, q2, q3, ?_, ?_⟩
    · simp only [hOut, cntSum, hc, r1]
      rw [q1, show at' + c + cntSum cnt r = at' + (c + cntSum cnt r) by omega]
    · simp only [cntSum, hc]
      rw [q4, show at' + c + cntSum cnt r = at' + (c + cntSum cnt r) by omega]
    · simp only [lensC, hc]; rw [q5, r5, List.append_assoc]
theorem hNew_ok {cnt : List Int} {s : ByteArray} (hd : ∀ i j, i < s.size → j < s.size → i ≠ j → sb s i ≠ sb s j) (h1 : cntSum cnt 16 = s.size) (h0 : s.size ≠ 0) (h2 : krem cnt 16 < 65536) :
    ∃ M L, hNew cnt s = some M ∧ CInv M L ∧ M.length = 546 ∧ L.map (·.1) = (List.range s.size).map (sb s) ∧ L.map (·.2.2) = lensC cnt 16 := by
  obtain ⟨nx', M, L, q1, q2, q3, q4, q5⟩ := hOut_ok (cnt := cnt) hd 16 0 0 (List.replicate 546 0) [] (Nat.le_refl _) List.length_replicate .base rfl (by omega) (by omega)
  refine ⟨M, L, ?_, q2, q3, by rw [q4, Nat.zero_add, h1], q5⟩
  unfold hNew
  rw [q1, Nat.zero_add, h1]
  simp [h0]
end Go.Proofs.Ytomckpllbihikaa
