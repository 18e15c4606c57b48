/-
  What the laws' proofs use (plain).
-/
import Derived.Test.YtomckpllbihikaaP10
import Derived.Test.YtomckpllbihikaaW2
set_option autoImplicit false
set_option linter.unusedSimpArgs false
set_option linter.unusedVariables false
namespace Go.Proofs.Ytomckpllbihikaa
open X

theorem badIn_of {l : List Int} {k : Nat} (hk : k < l.length) (h : badN (g l k) = true) : badIn l = true := by
  cases hb : badIn l with
  | true => rfl
  | false =>
    have := good_of hb k hk
    simp [badN] at h; omega
theorem firstBad_lt {l : List Int} : ∀ (r i : Nat), (∀ k, i ≤ k → k < i + r → badN (g l k) = false) → firstBad l r i < 0
  | 0, i, _ => by simp only [firstBad]; omega
  | r + 1, i, h => by
    simp only [firstBad]
    rw [h i (Nat.le_refl _) (by omega)]
    exact firstBad_lt r (i + 1) fun k h1 h2 => h k (by omega) (by omega)
theorem not_bad {l : List Int} (h : ∀ k, k < l.length → badN (g l k) = false) : badIn l = false := by
  unfold badIn
  have := firstBad_lt l.length 0 fun k _ h2 => h k (by omega)
  simpa using this
def anyB (f : List Int) : Nat → Bool
  | 0 => false
  | k + 1 => anyB f k || decide (0 < g f k)
theorem anyB_iff (f : List Int) : ∀ k, anyB f k = true ↔ ∃ x, x < k ∧ 0 < g f x
  | 0 => by simp [anyB]
  | k + 1 => by
    simp only [anyB, Bool.or_eq_true, anyB_iff f k, decide_eq_true_eq]
    constructor
    · rintro (⟨x, x1, x2⟩ | h)
      · exact ⟨x, by omega, x2⟩
      · exact ⟨k, by omega, h⟩
    · rintro ⟨x, x1, x2⟩
      rcases Nat.lt_or_ge x k with h | h
      · exact .inl ⟨x, h, x2⟩
      · obtain rfl : x = k := by omega
        exact .inr x2
def lawRight (f : List Int) : Bool := !badIn f && anyB f 256

theorem box_in (w : World) (f : List Int) : Row (w.alloc (Obj.cells (ints .i64 f) 22)) w.heap.size (ints .i64 f) ∧ Fr no w (w.alloc (Obj.cells (ints .i64 f) 22)) ∧ w.heap.size < (w.alloc (Obj.cells (ints .i64 f) 22)).heap.size :=
  ⟨Row.new _ _ _, (Fr.refl _ _).alloc _, by simp⟩
theorem empty_eq : (ByteArray.toList ⟨#[]⟩ == ByteArray.toList ⟨#[]⟩) = true := beq_self_eq_true _
/-- What Table answers of numbers that may not be, or are all 0. -/
theorem table_wrong {w w' : World} {f : List Int} {e : Ending} (hf : f.length = 256) (hr : lawRight f = false) (h : TabPost w f e w') : Fr no w w' ∧ ∃ n : Int, (n = 1 ∨ n = 5) ∧ e = .returned (.tuple #[no16, .string ⟨#[]⟩, .int .i64 n]) := by
  obtain ⟨h1, h⟩ := h
  refine ⟨h1, ?_⟩
  cases hb : badIn f with
  | true => rw [hb, if_pos rfl] at h; exact ⟨1, .inl rfl, h⟩
  | false =>
    rw [hb, if_neg (by decide)] at h
    have hno : ¬ ∃ x, x < 256 ∧ 0 < g f x := fun hx => by
      have := (anyB_iff f 256).2 hx
      simp [lawRight, hb, this] at hr
    have h0 := (shape hf fun i hi => good_of hb i (by omega)).2.2 hno
    have hnil : ordL (bits f) 256 = [] := List.eq_nil_iff_forall_not_mem.2 fun x hx => by
      obtain ⟨y, _, y2, _⟩ := ord_mem.1 hx
      rw [h0 y] at y2; omega
    rw [if_pos hnil] at h
    exact ⟨5, .inr rfl, h⟩
/-- What Table answers of right numbers. -/
theorem table_right {w w' : World} {f : List Int} {e : Ending} (hf : f.length = 256) (hr : lawRight f = true) (h : TabPost w f e w') : Fr no w w' ∧ (∀ i, i < 256 → 0 ≤ g f i ∧ g f i ≤ 1099511627776) ∧ (∃ x, x < 256 ∧ 0 < g f x) ∧
    ∃ Z : List Int, Z.Perm (ordL (bits f) 256) ∧ Rise (key f) Z 0 Z.length ∧ e = .returned (.tuple #[.agg (ints .u8 (tabC f)), .string (bytesOf Z), .int .i64 0]) := by
  obtain ⟨h1, h⟩ := h
  simp only [lawRight, Bool.and_eq_true, Bool.not_eq_true'] at hr
  obtain ⟨hb, ha⟩ := hr
  have hg : ∀ i, i < 256 → 0 ≤ g f i ∧ g f i ≤ 1099511627776 := fun i hi => good_of hb i (by omega)
  have hex := (anyB_iff f 256).1 ha
  rw [hb, if_neg (by decide)] at h
  have hne : ordL (bits f) 256 ≠ [] := fun e => by
    obtain ⟨x, x1, x2⟩ := hex
    have : (x : Int) ∈ ordL (bits f) 256 := ord_mem.2 ⟨x, x1, (((shape hf hg).2.1 ⟨x, x1, x2⟩).2 x (by omega)).2 (.inr x2), rfl⟩
    rw [e] at this; cases this
  rw [if_neg hne] at h
  exact ⟨h1, hg, hex, h⟩
/-- Which symbols a table of Table's has codes for. -/
theorem table_codes {f Z M : List Int} {L : List (Nat × Nat × Nat)} (hf : f.length = 256) (hg : ∀ i, i < 256 → 0 ≤ g f i ∧ g f i ≤ 1099511627776) (hex : ∃ x, x < 256 ∧ 0 < g f x) (hp : Z.Perm (ordL (bits f) 256)) (hI : CInv M L) (hL : L.map (fun t => (t.1 : Int)) = Z) (i : Nat) (hi : i < 256) :
    0 < g M (2 * i + 1) ↔ 0 < g f i := by
  rw [(hI.bound i hi).2.2]
  have e1 : L.map (fun t => (t.1 : Int)) = (L.map (·.1)).map Int.ofNat := by rw [List.map_map]; rfl
  have h1 : i ∈ L.map (·.1) ↔ (i : Int) ∈ Z := by
    have e2 : ((i : Int) ∈ (L.map (·.1)).map Int.ofNat) ↔ ∃ j, j ∈ L.map (·.1) ∧ Int.ofNat j = i := List.mem_map
    rw [← hL, e1, e2]
    constructor
    · intro h; exact ⟨i, h, rfl⟩
    · rintro ⟨j, h, e⟩
      have : j = i := Int.ofNat.inj e
      rw [← this]; exact h
  rw [h1, hp.mem_iff, ord_mem]
  have hc := ((shape hf hg).2.1 hex).2 i (by omega)
  constructor
  · rintro ⟨y, y1, y2, y3⟩
    obtain rfl : y = i := by omega
    rcases hc.1 y2 with h | h
    · omega
    · exact h
  · intro h; exact ⟨i, hi, hc.2 (.inr h), rfl⟩

end Go.Proofs.Ytomckpllbihikaa
