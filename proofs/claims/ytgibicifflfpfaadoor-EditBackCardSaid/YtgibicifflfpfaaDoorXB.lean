/-
  The engine: runs of the longer operations. Conditions: none.
-/
import Derived.Test.YtgibicifflfpfaaDoorX2
import Derived.Deep.AppendSrc
set_option autoImplicit false
namespace Go.Proofs.YtgibicifflfpfaaDoor
namespace X
variable {ds : List Deferred}
variable {P : Program}

theorem run_zero {t : TypeId} (h : ((P.info? t).bind (·.zero)).isSome = true) (w : World) : ∃ z, (zeroValue t).run P w = .ok z w ∧ z.cells = zcells P t := by
  obtain ⟨z, hz⟩ := Option.isSome_iff_exists.1 h
  obtain ⟨i, hi, hiz⟩ := Option.bind_eq_some_iff.1 hz
  exact ⟨z, by simp [zeroValue, typeInfo, hi, hiz], by simp [zcells, hi, hiz]⟩

theorem fill_ok (place : Nat → Option (Nat × Nat)) : ∀ (ps : List (Nat × Nat × Operand)) (is : List Nat) (vs : List Value) (cs : Array Value) (K : Array Value → Prop), is.length = ps.length →
    (∀ (j i off sz : Nat) (x : Operand), is[j]? = some i → ps[j]? = some (off, sz, x) → place i = some (off, sz)) → fillC cs ps vs K → ∃ cs', Instr.fill place cs (is.zip vs) = some cs' ∧ K cs' := by
  intro ps
  induction ps with
  | nil =>
    intro is vs cs K hl hp h
    cases is with
    | cons i is => simp at hl
    | nil =>
      cases vs with
      | nil => exact ⟨cs, rfl, h⟩
      | cons v vs => exact h.elim
  | cons p ps ih =>
    intro is vs cs K hl hp h
    obtain ⟨off, sz, x⟩ := p
    cases is with
    | nil => simp at hl
    | cons i is =>
      cases vs with
      | nil => exact h.elim
      | cons v vs =>
        obtain ⟨h1, h2, h⟩ := h
        have hpl := hp 0 i off sz x rfl rfl
        obtain ⟨cs', hc, hk⟩ := ih is vs (putc cs off v.cells) K (by simpa using hl) (fun j i off sz x h1 h2 => hp (j + 1) i off sz x (by simpa using h1) (by simpa using h2)) h
        refine ⟨cs', ?_, hk⟩
        simp only [List.zip_cons_cons, Instr.fill, hpl]
        rw [if_neg (by simp [h1]; omega)]
        exact hc

theorem partsS_spec {fs : Array Field} : ∀ (ps : List (Nat × Operand)) (l : List (Nat × Nat × Operand)), partsS P fs ps = some l →
    l.length = ps.length ∧ l.map (·.2.2) = ps.map (·.2) ∧ ∀ (j i off sz : Nat) (x : Operand), (ps.map (·.1))[j]? = some i → l[j]? = some (off, sz, x) → (fs.map fun f => (f.offset, P.cellsOf f.type))[i]? = some (off, sz)
  | [], l, h => by simp only [partsS, Option.some.injEq] at h; subst h; simp
  | (i, x) :: r, l, h => by
    simp only [partsS] at h
    split at h
    · rename_i f l' hf hl'
      split at h
      · simp only [Option.some.injEq] at h
        subst h
        obtain ⟨h1, h2, h3⟩ := partsS_spec r l' hl'
        refine ⟨by simp [h1], by simp [h2], fun j i' off sz x' hi hx => ?_⟩
        cases j with
        | zero =>
          simp only [List.map_cons, List.getElem?_cons_zero, Option.some.injEq, Prod.mk.injEq] at hi hx
          obtain ⟨rfl, rfl, rfl⟩ := hx
          subst hi
          simp [hf]
        | succ j => exact h3 j i' off sz x' (by simpa using hi) (by simpa using hx)
      · simp at h
    · simp at h

theorem run_places {fs : Array Field} (h : fs.toList.all (fun f => hasInfo P f.type) = true) (w : World) :
    (fs.mapM fun f => do pure (f.offset, ← sizeOf f.type) : Sem (Array (Nat × Nat))).run P w = .ok (fs.map fun f => (f.offset, P.cellsOf f.type)) w := by
  rw [Array.mapM_eq_mapM_toList, Sem.run_map]
  have key : ∀ (l : List Field), l.all (fun f => hasInfo P f.type) = true → (l.mapM fun f => do pure (f.offset, ← sizeOf f.type) : Sem (List (Nat × Nat))).run P w = .ok (l.map fun f => (f.offset, P.cellsOf f.type)) w := by
    intro l
    induction l with
    | nil => intro _; rfl
    | cons f l ih =>
      intro h
      simp only [List.all_cons, Bool.and_eq_true] at h
      simp only [List.mapM_cons, Sem.run_bind, run_sizeOf h.1, Result.andThen_ok, Sem.run_pure, ih h.2, List.map_cons]
  rw [key fs.toList h]
  simp only [Result.andThen_ok]
  congr 1
  apply Array.ext'
  simp

theorem zip_pairs (ρ : Operand → Value) (ps : List (Nat × Operand)) : (ps.map fun (i, x) => (i, ρ x)) = (ps.map (·.1)).zip ((ps.map (·.2)).map ρ) := by
  induction ps with
  | nil => rfl
  | cons p ps ih => obtain ⟨i, x⟩ := p; simp [ih]

theorem run_buildS {t : TypeId} {fs : Array Field} (hu : P.underlying t = some (.struct fs)) (hz : ((P.info? t).bind (·.zero)).isSome = true) (hi : fs.toList.all (fun f => hasInfo P f.type) = true) {ps : Array (Nat × Operand)} {l : List (Nat × Nat × Operand)}
    (hl : partsS P fs ps.toList = some l) (ρ : Operand → Value) (w : World) {K : Array Value → Prop} (h : fillC (zcells P t) l ((l.map (·.2.2)).map ρ) K) :
    ∃ cs, (Instr.build t (ps.map fun (i, x) => (i, ρ x))).run P w = .ok (.agg cs) w ∧ K cs := by
  obtain ⟨z, hzr, hzc⟩ := run_zero hz w
  obtain ⟨h1, h2, h3⟩ := partsS_spec ps.toList l hl
  rw [h2] at h
  obtain ⟨cs, hc, hk⟩ := fill_ok (fun i => (fs.map fun f => (f.offset, P.cellsOf f.type))[i]?) l (ps.toList.map (·.1)) ((ps.toList.map (·.2)).map ρ) (zcells P t) K (by simp [h1]) (fun j i off sz x hi hx => h3 j i off sz x hi hx) h
  refine ⟨cs, ?_, hk⟩
  have e : (ps.map fun (i, x) => (i, ρ x)).toList = (ps.toList.map (·.1)).zip ((ps.toList.map (·.2)).map ρ) := by rw [← zip_pairs]; simp
  unfold Instr.build
  simp only [Sem.run_bind, hzr, Result.andThen_ok, run_underlying hu, run_places hi, e, hzc]
  rw [hc]
  rfl

theorem partsA_spec (c : Nat) (ps : List (Nat × Operand)) : (partsA c ps).length = ps.length ∧ (partsA c ps).map (·.2.2) = ps.map (·.2) ∧ ∀ (j i off sz : Nat) (x : Operand), (ps.map (·.1))[j]? = some i → (partsA c ps)[j]? = some (off, sz, x) → (i * c, c) = (off, sz) := by
  refine ⟨by simp [partsA], by simp [partsA], fun j i off sz x hi hx => ?_⟩
  simp only [partsA, List.getElem?_map, Option.map_eq_some_iff] at hi hx
  obtain ⟨p, hp, rfl⟩ := hi
  obtain ⟨q, hq, hx⟩ := hx
  rw [hp] at hq; simp only [Option.some.injEq] at hq; subst hq
  simp only [Prod.mk.injEq] at hx ⊢
  exact ⟨hx.1, hx.2.1⟩

theorem run_buildA {t el : TypeId} {n : Nat} (hu : P.underlying t = some (.array n el)) (hz : ((P.info? t).bind (·.zero)).isSome = true) (hi : hasInfo P el = true) (ps : Array (Nat × Operand))
    (ρ : Operand → Value) (w : World) {K : Array Value → Prop} (h : fillC (zcells P t) (partsA (P.cellsOf el) ps.toList) (((partsA (P.cellsOf el) ps.toList).map (·.2.2)).map ρ) K) :
    ∃ cs, (Instr.build t (ps.map fun (i, x) => (i, ρ x))).run P w = .ok (.agg cs) w ∧ K cs := by
  obtain ⟨z, hzr, hzc⟩ := run_zero hz w
  obtain ⟨h1, h2, h3⟩ := partsA_spec (P.cellsOf el) ps.toList
  rw [h2] at h
  obtain ⟨cs, hc, hk⟩ := fill_ok (fun i => some (i * P.cellsOf el, P.cellsOf el)) _ (ps.toList.map (·.1)) ((ps.toList.map (·.2)).map ρ) (zcells P t) K (by simp [h1]) (fun j i off sz x hi hx => by rw [h3 j i off sz x hi hx]) h
  refine ⟨cs, ?_, hk⟩
  have e : (ps.map fun (i, x) => (i, ρ x)).toList = (ps.toList.map (·.1)).zip ((ps.toList.map (·.2)).map ρ) := by rw [← zip_pairs]; simp
  unfold Instr.build
  simp only [Sem.run_bind, hzr, Result.andThen_ok, run_underlying hu, run_sizeOf hi, e, hzc]
  rw [hc]
  rfl

theorem run_bslice {t el : TypeId} {n : Nat} (hu : P.underlying t = some (.slice el)) (hz : ((P.info? el).bind (·.zero)).isSome = true) (hi : hasInfo P el = true) (hb : n * P.cellsOf el ≤ 16777216) (hc : P.cellsOf el ≠ 0) (hn : n ≠ 0) (ps : Array (Nat × Operand))
    (ρ : Operand → Value) (w : World) {K : Array Value → Prop} (h : fillC (zrep (zcells P el) (n * P.cellsOf el)) (partsA (P.cellsOf el) ps.toList) (((partsA (P.cellsOf el) ps.toList).map (·.2.2)).map ρ) K) :
    ∃ cs, (Instr.buildSlice t n (ps.map fun (i, x) => (i, ρ x))).run P w = .ok (.slice (some ⟨w.heap.size, 0, none⟩) n n) (w.alloc (.cells cs el)) ∧ K cs := by
  obtain ⟨z, hzr, hzc⟩ := run_zero hz w
  obtain ⟨h1, h2, h3⟩ := partsA_spec (P.cellsOf el) ps.toList
  rw [h2] at h
  obtain ⟨cs, hcs, hk⟩ := fill_ok (fun i => some (i * P.cellsOf el, P.cellsOf el)) _ (ps.toList.map (·.1)) ((ps.toList.map (·.2)).map ρ) (zrep (zcells P el) (n * P.cellsOf el)) K (by simp [h1]) (fun j i off sz x hi hx => by rw [h3 j i off sz x hi hx]) h
  refine ⟨cs, ?_, hk⟩
  have e : (ps.map fun (i, x) => (i, ρ x)).toList = (ps.toList.map (·.1)).zip ((ps.toList.map (·.2)).map ρ) := by rw [← zip_pairs]; simp
  have hne : n * P.cellsOf el ≠ 0 := Nat.mul_ne_zero hn hc
  have hle : ¬ n * P.cellsOf el > 2 ^ 24 := by omega
  unfold Instr.buildSlice
  simp only [Sem.run_bind, run_underlying hu, Result.andThen_ok, run_sizeOf hi, hle, hne, ↓reduceIte, hzr, Sem.run_pure, e, hzc]
  unfold zrep at hcs
  rw [hcs]
  rfl

theorem run_sbound {x : Value} {k : IntKind} {i : Int} {y : Nat} {code : BoundsCode} (hx : x = .int k i) (h0 : 0 ≤ i) (h1 : i ≤ y) (w : World) : (Instr.sliceBound x y code).run P w = .ok i.toNat w := by
  subst hx
  simp [Instr.sliceBound, asIntOf, h0, h1]

def BndAt (ρ : Operand → Value) (o : Option Operand) (d i : Int) : Prop := match o with | none => i = d | some x => ∃ k, ρ x = .int k i
/-- The bounds of a slice expression, as the frame gives them. -/
theorem bnd_iff {n : Nat} {e : Env} {a : Act} (hf : Fits ds n e a) {o : Option Operand} {d : Int} {K : Int → Prop} (h : bnd e o d K) : ∃ i, K i ∧ BndAt a.eval o d i := by
  cases o with
  | none => exact ⟨d, h, rfl⟩
  | some x =>
    obtain ⟨k, i, hx, h⟩ := Int1_of (hf.eval h)
    exact ⟨i, h, k, hx⟩
where
  Int1_of {x : Value} {K : IntKind → Int → Prop} (h : Int1 x K) : ∃ k n, x = .int k n ∧ K k n := by
    unfold Int1 at h
    split at h
    · exact ⟨_, _, rfl, h⟩
    · exact h.elim

theorem run_sbounds {ρ : Operand → Value} {isSlice : Bool} {len cap : Nat} {lo hi mx : Option Operand} {l h m : Int} (hmx : mx.isNone = true ∨ hi.isSome = true)
    (h1 : BndAt ρ lo 0 l) (h2 : BndAt ρ hi len h) (h3 : BndAt ρ mx cap m)
    (g1 : 0 ≤ l) (g2 : l ≤ h) (g3 : h ≤ m) (g4 : m ≤ cap) (w : World) :
    (Instr.sliceBounds isSlice len cap (lo.map ρ) (hi.map ρ) (mx.map ρ)).run P w = .ok (l.toNat, h.toNat, m.toNat) w := by
  unfold Instr.sliceBounds
  unfold BndAt at h1 h2 h3
  have e1 : ∀ (b : Nat), (b : Int).toNat = b := fun b => by omega
  cases mx with
  | none =>
    subst h3
    cases hi with
    | none =>
      subst h2
      cases lo with
      | none => subst h1; simp
      | some x => obtain ⟨k, hx⟩ := h1; simp [run_sbound hx g1 g2]
    | some y =>
      obtain ⟨k2, hy⟩ := h2
      have hh := fun code => run_sbound (P := P) (y := cap) (code := code) hy (by omega) (by omega) w
      cases lo with
      | none => subst h1; simp [hh]
      | some x => obtain ⟨k, hx⟩ := h1; simp [hh, run_sbound (P := P) (y := h.toNat) hx g1 (by omega)]
  | some z =>
    obtain ⟨k3, hz⟩ := h3
    have hm := fun code => run_sbound (P := P) (y := cap) (code := code) hz (by omega) (by omega) w
    cases hi with
    | none => simp at hmx
    | some y =>
      obtain ⟨k2, hy⟩ := h2
      have hh := fun code => run_sbound (P := P) (y := m.toNat) (code := code) hy (by omega) (by omega) w
      cases lo with
      | none => subst h1; simp [hm, hh]
      | some x => obtain ⟨k, hx⟩ := h1; simp [hm, hh, run_sbound (P := P) (y := h.toNat) hx g1 (by omega)]

end X
end Go.Proofs.YtgibicifflfpfaaDoor
