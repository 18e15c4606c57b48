/-
  What a table holds: its codes are those of the symbols, in order (plain).
-/
import Derived.Test.YtomckpllbihikaaB9
set_option autoImplicit false
set_option linter.unusedSimpArgs false
set_option linter.unusedVariables false
namespace Go.Proofs.Ytomckpllbihikaa
open X

theorem hIn_inv {s : ByteArray} {n : Nat} (hn : 1 ≤ n ∧ n ≤ 16) : ∀ (c nx at' : Nat) (m : List Int) (L : List (Nat × Nat × Nat)), m.length = 546 → CInv m L → L.map (·.1) = (List.range at').map (sb s) → ∀ nx' at2 m', hIn s n c nx at' m = some (nx', at2, m') →
    ∃ L', CInv m' L' ∧ m'.length = 546 ∧ L'.map (·.1) = (List.range at2).map (sb s) ∧ at2 = at' + c ∧ (at' ≤ s.size → at2 ≤ s.size)
  | 0, nx, at', m, L, hm, hL, hs, nx', at2, m', h => by
    simp only [hIn, Option.some.injEq, Prod.mk.injEq] at h
    obtain ⟨_, rfl, rfl⟩ := h
    exact ⟨L, hL, hm, hs, rfl, fun h => h⟩
  | c + 1, nx, at', m, L, hm, hL, hs, nx', at2, m', h => by
    simp only [hIn] at h
    split at h
    · cases h
    · rename_i hbad
      obtain ⟨b1, hb⟩ := not_or.1 hbad
      obtain ⟨b2, b3⟩ := not_or.1 hb
      have h2 := hL.step hm (x := sb s at') (b := nx) (n := n) (sb_lt s at') b3 hn.1 hn.2 (by omega)
      obtain ⟨L', r1, r2, r3, r4, r5⟩ := hIn_inv hn c (nx + 1) (at' + 1) _ _ (by simp [hm]) h2 (by rw [List.map_append, hs, List.range_succ, List.map_append]; rfl) nx' at2 m' h
      exact ⟨L', r1, r2, r3, by omega, fun _ => r5 (by omega)⟩
def cntSum (cnt : List Int) : Nat → Nat
  | 0 => 0
  | r + 1 => (g cnt (15 - r)).toNat + cntSum cnt r
theorem hOut_inv {cnt : List Int} {s : ByteArray} : ∀ (r nx at' : Nat) (m : List Int) (L : List (Nat × Nat × Nat)), r ≤ 16 → m.length = 546 → CInv m L → L.map (·.1) = (List.range at').map (sb s) → ∀ nx' at2 m', hOut cnt s r nx at' m = some (nx', at2, m') →
    ∃ L', CInv m' L' ∧ m'.length = 546 ∧ L'.map (·.1) = (List.range at2).map (sb s) ∧ at2 = at' + cntSum cnt r
  | 0, nx, at', m, L, hr, hm, hL, hs, nx', at2, m', h => by
    simp only [hOut, Option.some.injEq, Prod.mk.injEq] at h
    obtain ⟨_, rfl, rfl⟩ := h
    exact ⟨L, hL, hm, hs, rfl⟩
  | r + 1, nx, at', m, L, hr, hm, hL, hs, nx', at2, m', h => by
    simp only [hOut] at h
    split at h
    · cases h
    · rename_i nx2 at3 m3 he
      have h2 := (hL.far hm (512 + (16 - r)) (by omega) (by omega) ((2 * nx : Nat) : Int)).far (by simpa using hm) (529 + (16 - r)) (by omega) (by omega) (at' : Int)
      obtain ⟨L2, r1, r2, r3, r4, r5⟩ := hIn_inv (by omega) _ _ _ _ _ (by simp [hm]) h2 hs _ _ _ he
      obtain ⟨L', q1, q2, q3, q4⟩ := hOut_inv r nx2 at3 m3 L2 (by omega) r2 r1 r3 nx' at2 m' h
      exact ⟨L', q1, q2, q3, by simp only [cntSum]; omega⟩
/-- A table that was made holds a list of codes: of all symbols, in their order. -/
theorem hNew_inv {cnt : List Int} {s : ByteArray} {M : List Int} (h : hNew cnt s = some M) : ∃ L, CInv M L ∧ M.length = 546 ∧ L.map (·.1) = (List.range s.size).map (sb s) := by
  unfold hNew at h
  split at h
  · cases h
  · rename_i nx at' m he
    split at h
    · cases h
    · rename_i hn
      simp only [Option.some.injEq] at h; subst h
      obtain ⟨L, h1, h2, h3, _⟩ := hOut_inv 16 0 0 _ [] (Nat.le_refl _) List.length_replicate .base rfl _ _ _ he
      obtain ⟨_, n2⟩ := not_or.1 hn
      rw [Decidable.not_not] at n2
      exact ⟨L, h1, h2, by rw [← n2]; exact h3⟩
theorem CInv.bound {M : List Int} {L : List (Nat × Nat × Nat)} (h : CInv M L) (i : Nat) (hi : i < 256) : 0 ≤ g M (2 * i + 1) ∧ g M (2 * i + 1) ≤ 16 ∧ (0 < g M (2 * i + 1) ↔ i ∈ L.map (·.1)) := by
  by_cases hm : i ∈ L.map (·.1)
  · obtain ⟨⟨x, b, n⟩, ht, he⟩ := List.mem_map.1 hm
    dsimp only at he; subst he
    obtain ⟨_, _, h3, h4, h5, _⟩ := h.mem _ _ _ ht
    exact ⟨by omega, by omega, by simp only [hm, iff_true]; omega⟩
  · have := h.out i hi hm
    exact ⟨by omega, by omega, by simp only [hm, iff_false]; omega⟩
end Go.Proofs.Ytomckpllbihikaa
