/-
  The engine: slices that came in, read. Conditions: none.
-/
import Derived.Test.YtgibicifflfpfaaDoorXT
import Derived.Deep.Slices
set_option autoImplicit false
set_option linter.unusedVariables false
namespace Go.Proofs.YtgibicifflfpfaaDoor
namespace X
open Go.ChangeShapes Go.WideShapes Go.RowKit

/-- v is a slice of the elements xs, of c cells each, in a block below B. -/
def Sl (w : World) (B : Nat) (v : Value) (c : Nat) (xs : List (Array Value)) : Prop :=
  (∃ a cap, v = .slice a xs.length cap) ∧ (xs ≠ [] → ∃ b o cap C, b < B ∧ b < w.heap.size ∧ v = .slice (some ⟨b, o, none⟩) xs.length cap ∧ Row w b C ∧ ∀ i x, xs[i]? = some x → o + i * c + c ≤ C.size ∧ C.extract (o + i * c) (o + i * c + c) = x)
theorem Sl.fr {S : Nat → Prop} {w w' : World} {B : Nat} {v : Value} {c : Nat} {xs : List (Array Value)} (h : Sl w B v c xs) (f : Fr S w w') (hS : ∀ k, k < B → k < w.heap.size → ¬ S k) : Sl w' B v c xs := by
  refine ⟨h.1, fun hx => ?_⟩
  obtain ⟨b, o, cap, C, h1, h2, h3, h4, h5⟩ := h.2 hx
  exact ⟨b, o, cap, C, h1, Nat.lt_of_lt_of_le h2 f.size, h3, h4.fr f (hS b h1 h2), h5⟩
theorem Sl.at {w : World} {B : Nat} {v : Value} {c : Nat} {xs : List (Array Value)} (h : Sl w B v c xs) {i : Nat} (hi : i < xs.length) : ∃ b o cap C, b < B ∧ b < w.heap.size ∧ v = .slice (some ⟨b, o, none⟩) xs.length cap ∧ Row w b C ∧
    o + i * c + c ≤ C.size ∧ C.extract (o + i * c) (o + i * c + c) = xs[i] := by
  obtain ⟨b, o, cap, C, h1, h2, h3, h4, h5⟩ := h.2 (fun e => by subst e; simp at hi)
  have := h5 i xs[i] (List.getElem?_eq_getElem hi)
  exact ⟨b, o, cap, C, h1, h2, h3, h4, this.1, this.2⟩
theorem Sl.len {w : World} {B : Nat} {v : Value} {c : Nat} {xs : List (Array Value)} (h : Sl w B v c xs) : ∃ a cap, v = .slice a xs.length cap := h.1
/-- One cell an element. -/
theorem Sl.at1 {w : World} {B : Nat} {v : Value} {xs : List (Array Value)} {u : Value} (h : Sl w B v 1 xs) {i : Nat} (hi : xs[i]? = some #[u]) : ∃ b o cap C, b < B ∧ b < w.heap.size ∧ v = .slice (some ⟨b, o, none⟩) xs.length cap ∧ Row w b C ∧ C[o + i]? = some u := by
  have hl : i < xs.length := (List.getElem?_eq_some_iff.1 hi).1
  obtain ⟨b, o, cap, C, h1, h2, h3, h4, h5⟩ := h.2 (fun e => by subst e; simp at hl)
  have h6 := h5 i _ hi
  refine ⟨b, o, cap, C, h1, h2, h3, h4, ?_⟩
  have h7 := congrArg (fun a : Array Value => a[0]?) h6.2
  have h8 : 0 < min (o + i + 1) C.size - (o + i) ∧ C[o + i]? = some u := by simpa [Array.getElem?_extract] using h7
  exact h8.2

section
variable {H : Type} {enc : TypeId × Value → H} {P : Program} {w : World} {base : Nat} {sp : Nat → Bool} {held : Bool}
theorem open_sl {t e : TypeId} {v : Value} {d : DataW H} {p : List MemPlace} {n : Nat} (ht : P.underlying t = some (.slice e)) (hc : 0 < P.cellsOf e) (h : DataW.trod enc P w base sp held n t [v] = some (d, p)) :
    ∃ xs, Sl w w.heap.size v (P.cellsOf e) xs ∧ xs.length ≤ maxLen ∧ ∀ x ∈ xs, x.size = P.cellsOf e ∧ ∃ m y, DataW.trod enc P w base sp held m e x.toList = some y := by
  rcases Go.Deep.open_slice ht h with ⟨h0, _⟩ | ⟨a, len, cap, m, n', D, Pl, hcs, hb, hl, hm, hmm, _, hi⟩
  · simp only [List.cons.injEq, and_true] at h0
    subst h0
    exact ⟨[], ⟨⟨none, 0, rfl⟩, fun h => absurd rfl h⟩, by simp [maxLen], fun x hx => by cases hx⟩
  · simp only [List.cons.injEq, and_true] at hcs
    subst hcs
    have hlm : len ≤ m := by rw [hmm]; split <;> omega
    let f : Nat → Array Value := fun i => ((w.cells? base (a.add (i * P.cellsOf e)) (P.cellsOf e)).getD []).toArray
    have hf : ∀ i, i < len → ∃ cs', f i = cs'.toArray ∧ w.cells? base (a.add (i * P.cellsOf e)) (P.cellsOf e) = some cs' ∧ DataW.trod enc P w base sp held n' e cs' = some (D i, Pl i) := fun i hi' => by
      obtain ⟨cs', h1, h2⟩ := hi i (by omega)
      exact ⟨cs', by simp only [f, h1, Option.getD_some], h1, h2⟩
    refine ⟨(List.range len).map f, ⟨⟨some a, cap, by simp⟩, fun hne => ?_⟩, by simp; omega, fun x hx => ?_⟩
    · have hpos : 0 < len := by
        rcases Nat.eq_zero_or_pos len with h0 | h0
        · subst h0; exact absurd rfl hne
        · exact h0
      -- the first cell shows the block
      obtain ⟨cs0, _, h1, _⟩ := hf 0 hpos
      obtain ⟨_, hcl, hat⟩ := World.cells?_some h1
      have h00 := hat 0 hc
      have hz : ∀ a : Addr, a.add 0 = a := fun a => by simp [Addr.add]
      rw [Nat.zero_mul, hz, hz] at h00
      have hsome : (cs0[0]?).isSome := by rw [List.getElem?_eq_getElem (by omega)]; rfl
      unfold World.cell? at h00
      split at h00
      · rename_i C T fz hg
        split at h00
        · rw [← h00] at hsome; cases hsome
        · rename_i hspot
          have hlt : a.block < w.heap.size := (Array.getElem?_eq_some_iff.1 hg).1
          have ha : a = ⟨a.block, a.off, none⟩ := by
            obtain ⟨b, o, s⟩ := a
            cases s with
            | none => rfl
            | some s => simp at hspot
          refine ⟨a.block, a.off, cap, C, hlt, hlt, by simp [← ha], ⟨T, fz, hg⟩, fun i x hx => ?_⟩
          rw [List.getElem?_map] at hx
          have hil : i < len := by
            rcases Nat.lt_or_ge i len with h | h
            · exact h
            · rw [List.getElem?_eq_none (by simpa using h)] at hx; cases hx
          rw [List.getElem?_range hil] at hx
          simp only [Option.map_some, Option.some.injEq] at hx
          subst hx
          obtain ⟨cs', hfi, h1, _⟩ := hf i hil
          obtain ⟨_, hcl, hat⟩ := World.cells?_some h1
          have hcell : ∀ j, j < P.cellsOf e → C[a.off + i * P.cellsOf e + j]? = cs'[j]? := fun j hj => by
            have h2 := hat j hj
            rw [ha, ad_add, ad_add] at h2
            simpa [World.cell?, hg] using h2
          have hsz : a.off + i * P.cellsOf e + P.cellsOf e ≤ C.size := by
            have h3 := hcell (P.cellsOf e - 1) (by omega)
            rw [List.getElem?_eq_getElem (by omega)] at h3
            have := (Array.getElem?_eq_some_iff.1 h3).1
            omega
          refine ⟨hsz, ?_⟩
          rw [hfi]
          apply Array.ext'
          apply List.ext_getElem?
          intro j
          rw [Array.getElem?_toList, Array.getElem?_extract]
          split
          · rename_i hj; rw [← hcell j (by omega)]
          · rename_i hj; rw [List.getElem?_eq_none (by show cs'.length ≤ j; omega)]
      · rw [← h00] at hsome; cases hsome
    · obtain ⟨i, hi', rfl⟩ := List.mem_map.1 hx
      rw [List.mem_range] at hi'
      obtain ⟨cs', hfi, h1, h2⟩ := hf i hi'
      obtain ⟨_, hcl, _⟩ := World.cells?_some h1
      rw [hfi]
      exact ⟨by simpa using hcl, n', _, h2⟩
/-- A slice of one-cell elements. -/
theorem open_sl1 {α : Type} {t e : TypeId} {v : Value} {d : DataW H} {p : List MemPlace} {r : Reach} {b0 : Nat} {f : α → Value} {R : α → Prop} (ht : P.underlying t = some (.slice e)) (hc : P.cellsOf e = 1) (hok : Value.okWide P w r b0 t v) (h : DataW.Trod enc P w base sp held t v d p)
    (hel : ∀ (m : Nat) (u : Value) y, DataW.trod enc P w base sp held m e [u] = some y → ∃ a, u = f a ∧ R a) : ∃ ls : List α, Sl w w.heap.size v 1 (ls.map fun a => #[f a]) ∧ ls.length ≤ maxLen ∧ ∀ a ∈ ls, R a := by
  obtain ⟨a, n, c, rfl⟩ := okWide_slice ht hok
  obtain ⟨fuel, hf⟩ := h
  obtain ⟨xs, h1, h2, h3⟩ := open_sl (v := .slice a n c) ht (by omega) hf
  rw [hc] at h1 h3
  have key : ∀ l : List (Array Value), (∀ x ∈ l, x.size = 1 ∧ ∃ m y, DataW.trod enc P w base sp held m e x.toList = some y) → ∃ ls : List α, l = ls.map (fun a => #[f a]) ∧ ∀ a ∈ ls, R a := by
    intro l
    induction l with
    | nil => intro _; exact ⟨[], rfl, fun a h => by cases h⟩
    | cons x l ih =>
      intro h
      obtain ⟨ls, rfl, hR⟩ := ih fun y hy => h y (List.mem_cons_of_mem _ hy)
      obtain ⟨hs, m, y, hy⟩ := h x (List.mem_cons_self ..)
      obtain ⟨l⟩ := x
      match l, hs with
      | [u], _ =>
        obtain ⟨a, rfl, ha⟩ := hel m u y hy
        exact ⟨a :: ls, rfl, fun b hb => by rcases List.mem_cons.1 hb with rfl | hb; exact ha; exact hR b hb⟩
  obtain ⟨ls, rfl, hR⟩ := key xs h3
  exact ⟨ls, h1, by simpa using h2, hR⟩
end
end X
end Go.Proofs.YtgibicifflfpfaaDoor
