/-
  The engine: what is kept of the memory (rows, frames), and the tactics that walk. Conditions: none.
-/
import Derived.Test.YtgibicifflfpfaaDoorXL
import Derived.Below
set_option autoImplicit false
namespace Go.Proofs.YtgibicifflfpfaaDoor
namespace X
open Go.RowKit (Below Below.heap_alloc)

/-- Block b holds the cells C. -/
def Row (w : World) (b : Nat) (C : Array Value) : Prop := ∃ T fz, w.heap[b]? = some (.cells C T fz)
/-- Block b holds the cells C, and all may be written. -/
def Own (w : World) (b : Nat) (C : Array Value) : Prop := ∃ T, w.heap[b]? = some (.cells C T)
theorem Own.row {w : World} {b : Nat} {C : Array Value} (h : Own w b C) : Row w b C := let ⟨T, h⟩ := h; ⟨T, _, h⟩
theorem Row.lt {w : World} {b : Nat} {C : Array Value} (h : Row w b C) : b < w.heap.size := by
  obtain ⟨T, fz, h⟩ := h
  rcases Nat.lt_or_ge b w.heap.size with h1 | h1
  · exact h1
  · rw [Array.getElem?_eq_none h1] at h; cases h
theorem Own.lt {w : World} {b : Nat} {C : Array Value} (h : Own w b C) : b < w.heap.size := h.row.lt

/-- Of the blocks that were, only those of S may be others now. -/
structure Fr (S : Nat → Prop) (w w' : World) : Prop where
  os : w'.os = w.os
  tape : w'.tape = w.tape
  output : w'.output = w.output
  size : w.heap.size ≤ w'.heap.size
  block : ∀ k, k < w.heap.size → ¬ S k → w'.heap[k]? = w.heap[k]?
def no : Nat → Prop := fun _ => False
theorem Fr.refl (S : Nat → Prop) (w : World) : Fr S w w := ⟨rfl, rfl, rfl, Nat.le_refl _, fun _ _ _ => rfl⟩
theorem Fr.mono {S S' : Nat → Prop} {w w' : World} (h : Fr S w w') (hS : ∀ k, k < w.heap.size → S k → S' k) : Fr S' w w' := ⟨h.os, h.tape, h.output, h.size, fun k hk hn => h.block k hk fun hs => hn (hS k hk hs)⟩
theorem Fr.trans' {S S' : Nat → Prop} {a b c : World} (h : Fr S a b) (k : Fr S' b c) (hS : ∀ k, k < a.heap.size → S' k → S k) : Fr S a c :=
  ⟨k.os.trans h.os, k.tape.trans h.tape, k.output.trans h.output, Nat.le_trans h.size k.size, fun x hx hn => (k.block x (Nat.lt_of_lt_of_le hx h.size) fun hs => hn (hS x hx hs)).trans (h.block x hx hn)⟩
theorem Fr.trans {S : Nat → Prop} {a b c : World} (h : Fr S a b) (k : Fr S b c) : Fr S a c := h.trans' k fun _ _ h => h
theorem Fr.and {S : Nat → Prop} {a b c : World} (h : Fr S a b) (k : Fr X.no b c) : Fr S a c := h.trans' k fun _ _ h => h.elim
theorem Fr.below {S : Nat → Prop} {w w' : World} (h : Fr S w w') (hS : ∀ k, k < w.heap.size → ¬ S k) : Below w.heap.size w w' :=
  ⟨h.os, h.tape, h.output, h.size, fun k hk => h.block k hk (hS k hk)⟩
theorem Fr.only {w w' : World} (h : Fr X.no w w') : Below w.heap.size w w' := h.below fun _ _ h => h
theorem fr_of {w w' : World} (h : Below w.heap.size w w') : Fr no w w' := ⟨h.os, h.tape, h.output, h.size, fun k hk _ => h.block k hk⟩
theorem Fr.drew {S : Nat → Prop} {w w' : World} (h : Fr S w w') : Fr S w w'.drew := ⟨h.os, h.tape, h.output, h.size, h.block⟩
theorem Fr.alloc {S : Nat → Prop} {w w' : World} (o : Obj) (h : Fr S w w') : Fr S w (w'.alloc o) := by
  refine ⟨h.os, h.tape, h.output, ?_, fun k hk hn => ?_⟩
  · have := h.size; rw [World.size_alloc]; omega
  · have := h.size
    rw [← h.block k hk hn]
    exact Below.heap_alloc w' o k (by omega)
theorem Fr.setRow {S : Nat → Prop} {w w' : World} (b : Nat) (C : Array Value) (h : Fr S w w') (hS : b < w.heap.size → S b) : Fr S w (w'.setRow b C) := by
  refine ⟨h.os, h.tape, h.output, by simpa using h.size, fun k hk hn => ?_⟩
  rw [setRow_other w' b k C (fun he => hn (he ▸ hS (he ▸ hk)))]
  exact h.block k hk hn

/-! the iterator of a string that is ranged over -/
theorem iterAt_other (w : World) (k : Nat) (s : ByteArray) (p j : Nat) (h : j ≠ k) : (w.iterAt k s p).heap[j]? = w.heap[j]? := by
  simp only [World.iterAt]
  rw [Array.getElem?_setIfInBounds_ne (fun e => h e.symm)]
theorem sz_iterAt (w : World) (k : Nat) (s : ByteArray) (p : Nat) : (w.iterAt k s p).heap.size = w.heap.size := by simp [World.iterAt]
theorem nxt_of {w : World} {k pos : Nat} {s : ByteArray} {K : Value → World → Prop} (hk : w.heap[k]? = some (.stringIter s pos))
    (h1 : pos < s.size → K (.tuple #[.bool true, .int .i64 pos, .int .i32 (Utf8.decode s pos).1]) (w.iterAt k s (pos + (Utf8.decode s pos).2))) (h2 : s.size ≤ pos → K (.tuple #[.bool false]) w) : NxtVC w ⟨k, 0, none⟩ K :=
  ⟨k, s, pos, rfl, hk, h1, h2⟩
theorem Fr.iterAt {S : Nat → Prop} {w w' : World} (k : Nat) (s : ByteArray) (p : Nat) (h : Fr S w w') (hS : k < w.heap.size → S k) : Fr S w (w'.iterAt k s p) := by
  refine ⟨h.os, h.tape, h.output, by rw [sz_iterAt]; exact h.size, fun j hj hn => ?_⟩
  rw [iterAt_other w' k s p j (fun he => hn (he ▸ hS (he ▸ hj)))]
  exact h.block j hj hn
theorem Row.iterAt {w : World} {b : Nat} {C : Array Value} (k : Nat) (s : ByteArray) (p : Nat) (h : Row w b C) (hn : b ≠ k) : Row (w.iterAt k s p) b C := by
  obtain ⟨T, fz, h⟩ := h
  exact ⟨T, fz, (iterAt_other w k s p b hn).trans h⟩
theorem Own.iterAt {w : World} {b : Nat} {C : Array Value} (k : Nat) (s : ByteArray) (p : Nat) (h : Own w b C) (hn : b ≠ k) : Own (w.iterAt k s p) b C := by
  obtain ⟨T, h⟩ := h
  exact ⟨T, (iterAt_other w k s p b hn).trans h⟩

theorem freeze_other (w : World) (a : Addr) (n k : Nat) (h : k ≠ a.block) : (w.freeze a n).heap[k]? = w.heap[k]? := by
  unfold World.freeze
  split
  · rfl
  · simp [Array.getElem?_modify, Ne.symm h]
theorem freeze_size (w : World) (a : Addr) (n : Nat) : (w.freeze a n).heap.size = w.heap.size := by
  unfold World.freeze
  split <;> simp
theorem Fr.freeze {S : Nat → Prop} {w w' : World} (a : Addr) (n : Nat) (h : Fr S w w') (hS : a.block < w.heap.size → S a.block) : Fr S w (w'.freeze a n) := by
  have h1 : (w'.freeze a n).os = w'.os ∧ (w'.freeze a n).tape = w'.tape ∧ (w'.freeze a n).output = w'.output := by
    unfold World.freeze; split <;> exact ⟨rfl, rfl, rfl⟩
  refine ⟨h1.1.trans h.os, h1.2.1.trans h.tape, h1.2.2.trans h.output, by rw [freeze_size]; exact h.size, fun k hk hn => ?_⟩
  rw [freeze_other w' a n k (fun he => hn (he ▸ hS (he ▸ hk)))]
  exact h.block k hk hn

theorem Row.fr {S : Nat → Prop} {w w' : World} {b : Nat} {C : Array Value} (h : Row w b C) (f : Fr S w w') (hn : ¬ S b) : Row w' b C := by
  have hl := h.lt; obtain ⟨T, fz, h⟩ := h; exact ⟨T, fz, (f.block b hl hn).trans h⟩
theorem Own.fr {S : Nat → Prop} {w w' : World} {b : Nat} {C : Array Value} (h : Own w b C) (f : Fr S w w') (hn : ¬ S b) : Own w' b C := by
  have hl := h.lt; obtain ⟨T, h⟩ := h; exact ⟨T, (f.block b hl hn).trans h⟩
theorem Row.drew {w : World} {b : Nat} {C : Array Value} (h : Row w b C) : Row w.drew b C := h
theorem Own.drew {w : World} {b : Nat} {C : Array Value} (h : Own w b C) : Own w.drew b C := h
theorem Own.set {w : World} {b : Nat} {C : Array Value} (C' : Array Value) (h : Own w b C) : Own (w.setRow b C') b C' := by
  obtain ⟨T, h⟩ := h; exact ⟨T, setRow_heap w b C C' T _ h⟩
theorem Own.ne {w : World} {b c : Nat} {C : Array Value} (C' : Array Value) (h : Own w b C) (hn : b ≠ c) : Own (w.setRow c C') b C := by
  obtain ⟨T, h⟩ := h; exact ⟨T, (setRow_other w c b C' hn).trans h⟩
theorem Row.ne {w : World} {b c : Nat} {C : Array Value} (C' : Array Value) (h : Row w b C) (hn : b ≠ c) : Row (w.setRow c C') b C := by
  obtain ⟨T, fz, h⟩ := h; exact ⟨T, fz, (setRow_other w c b C' hn).trans h⟩
theorem Own.new (w : World) (C : Array Value) (T : TypeId) : Own (w.alloc (.cells C T)) w.heap.size C := ⟨T, heap_alloc_new w _⟩
theorem Own.newD (w : World) (C : Array Value) (T : TypeId) : Own (w.drew.alloc (.cells C T)) w.heap.size C := ⟨T, heap_alloc_new w.drew _⟩
theorem Row.alloc {w : World} {b : Nat} {C : Array Value} (o : Obj) (h : Row w b C) : Row (w.alloc o) b C := by
  have hl := h.lt; obtain ⟨T, fz, h⟩ := h
  exact ⟨T, fz, (Below.heap_alloc w o b hl).trans h⟩
theorem Own.alloc {w : World} {b : Nat} {C : Array Value} (o : Obj) (h : Own w b C) : Own (w.alloc o) b C := by
  have hl := h.lt; obtain ⟨T, h⟩ := h
  exact ⟨T, (Below.heap_alloc w o b hl).trans h⟩

/-- The same, of cells of type T. -/
def OwnT (w : World) (b : Nat) (C : Array Value) (T : TypeId) : Prop := w.heap[b]? = some (.cells C T)
theorem OwnT.own {w : World} {b : Nat} {C : Array Value} {T : TypeId} (h : OwnT w b C T) : Own w b C := ⟨T, h⟩
theorem OwnT.fr {S : Nat → Prop} {w w' : World} {b : Nat} {C : Array Value} {T : TypeId} (h : OwnT w b C T) (f : Fr S w w') (hn : ¬ S b) : OwnT w' b C T := (f.block b h.own.lt hn).trans h
theorem OwnT.drew {w : World} {b : Nat} {C : Array Value} {T : TypeId} (h : OwnT w b C T) : OwnT w.drew b C T := h
theorem OwnT.newE {w : World} {b : Nat} {C : Array Value} {T : TypeId} (h : b = w.heap.size) : OwnT (w.alloc (.cells C T)) b C T := by subst h; exact heap_alloc_new w _
theorem OwnT.alloc {w : World} {b : Nat} {C : Array Value} {T : TypeId} (o : Obj) (h : OwnT w b C T) : OwnT (w.alloc o) b C T := (Below.heap_alloc w o b h.own.lt).trans h
theorem OwnT.ne {w : World} {b c : Nat} {C : Array Value} {T : TypeId} (C' : Array Value) (h : OwnT w b C T) (hn : b ≠ c) : OwnT (w.setRow c C') b C T := (setRow_other w c b C' hn).trans h
theorem OwnT.setE {w : World} {b c : Nat} {C : Array Value} {T : TypeId} (C' : Array Value) (e : b = c) (h : OwnT w c C T) : OwnT (w.setRow c C') b C' T := by subst e; exact setRow_heap w b C C' T _ h
theorem Own.newE {w : World} {b : Nat} {C : Array Value} {T : TypeId} (h : b = w.heap.size) : Own (w.alloc (.cells C T)) b C := ⟨T, OwnT.newE h⟩
theorem Row.newE {w : World} {b : Nat} {C : Array Value} {T : TypeId} (h : b = w.heap.size) : Row (w.alloc (.cells C T)) b C := (Own.newE h).row
theorem Own.setE {w : World} {b c : Nat} {C : Array Value} (C' : Array Value) (e : b = c) (h : Own w c C) : Own (w.setRow c C') b C' := by subst e; exact h.set C'
theorem Row.setE {w : World} {b c : Nat} {C : Array Value} (C' : Array Value) (e : b = c) (h : Own w c C) : Row (w.setRow c C') b C' := (Own.setE C' e h).row
theorem ld_row {w : World} {b o : Nat} {C : Array Value} {K : Value → Prop} (hb : Row w b C) (h : At C o K) : Ld w ⟨b, o, none⟩ K := by
  obtain ⟨T, fz, hb⟩ := hb; exact ld_at hb h
theorem ldN_row {w : World} {b o n : Nat} {C : Array Value} {K : Array Value → Prop} (hb : Row w b C) (hl : o + n ≤ C.size) (h : K (C.extract o (o + n))) : LdN w ⟨b, o, none⟩ n K := by
  obtain ⟨T, fz, hb⟩ := hb; exact ldN_at hb hl h
theorem st_row {w : World} {b o : Nat} {C : Array Value} {v : Value} {K : World → Prop} (hb : Own w b C) (hl : o < C.size) (h1 : one v = true)
    (h : K (w.setRow b (C.setIfInBounds o v))) : St w ⟨b, o, none⟩ v K := by
  obtain ⟨T, hb⟩ := hb; exact st_at hb hl (by simp) h1 h
theorem stN_row {w : World} {b o : Nat} {C : Array Value} {vs : List Value} {K : World → Prop} (hb : Own w b C) (hl : o + vs.length ≤ C.size)
    (h1 : ∀ v ∈ vs, one v = true) (h : K (w.setRow b (over C o vs))) : StN w ⟨b, o, none⟩ vs K := by
  obtain ⟨T, hb⟩ := hb; exact stN_at hb hl (by simp) h1 h
theorem ldN_all {w : World} {b n : Nat} {C : Array Value} {K : Array Value → Prop} (hb : Row w b C) (hl : C.size = n) (h : K C) : LdN w ⟨b, 0, none⟩ n K := by
  subst hl
  refine ldN_row hb (by omega) ?_
  rw [Nat.zero_add, Array.extract_size]; exact h
theorem stN_all {w : World} {b : Nat} {C : Array Value} {vs : List Value} {K : World → Prop} (hb : Own w b C) (hl : vs.length = C.size) (h1 : ∀ v ∈ vs, one v = true) (h : K (w.setRow b vs.toArray)) : StN w ⟨b, 0, none⟩ vs K := by
  refine stN_row hb (by omega) h1 ?_
  have : over C 0 vs = vs.toArray := by
    unfold over
    have h2 : C.toList.drop (0 + vs.length) = [] := List.drop_eq_nil_of_le (by rw [Array.length_toList]; omega)
    rw [h2]; simp
  rw [this]; exact h
theorem putc1 (cs : Array Value) (o : Nat) (v : Value) : putc cs o #[v] = cs.setIfInBounds o v := rfl
theorem one_cons {v : Value} {l : List Value} (h : one v = true) (k : ∀ x ∈ l, one x = true) : ∀ x ∈ v :: l, one x = true := List.forall_mem_cons.2 ⟨h, k⟩
theorem one_nil : ∀ x ∈ ([] : List Value), one x = true := fun _ h => by cases h
def Ones (l : List Value) : Prop := ∀ v ∈ l, one v = true
theorem Ones.nil : Ones [] := fun _ h => by cases h
theorem Ones.cons {v : Value} {l : List Value} (h : one v = true) (k : Ones l) : Ones (v :: l) := List.forall_mem_cons.2 ⟨h, k⟩
theorem one_i (k : IntKind) (n : Int) : one (.int k n) = true := rfl
theorem one_s (s : ByteArray) : one (.string s) = true := rfl
theorem one_b (b : Bool) : one (.bool b) = true := rfl
theorem one_p (a : Option Addr) : one (.pointer a) = true := rfl
theorem one_l (a : Option Addr) (n c : Nat) : one (.slice a n c) = true := rfl
theorem ld_r {w : World} {b o : Nat} {C : Array Value} {K : Value → Prop} (hb : Row w b C) (h : At C o K) : Ld w ⟨b, o, none⟩ K := ld_row hb h
theorem ldN_a {w : World} {b n : Nat} {C : Array Value} {K : Array Value → Prop} (hb : Row w b C ∧ C.size = n) (h : K C) : LdN w ⟨b, 0, none⟩ n K := ldN_all hb.1 hb.2 h
theorem ldN_r {w : World} {b o n : Nat} {C : Array Value} {K : Array Value → Prop} (hb : Row w b C ∧ o + n ≤ C.size) (h : K (C.extract o (o + n))) : LdN w ⟨b, o, none⟩ n K := ldN_row hb.1 hb.2 h
theorem st_r {w : World} {b o : Nat} {C : Array Value} {v : Value} {K : World → Prop} (hb : Own w b C ∧ o < C.size ∧ one v = true) (h : K (w.setRow b (C.setIfInBounds o v))) : St w ⟨b, o, none⟩ v K := st_row hb.1 hb.2.1 hb.2.2 h
theorem stN_a {w : World} {b : Nat} {C : Array Value} {vs : List Value} {K : World → Prop} (hb : Own w b C ∧ vs.length = C.size ∧ Ones vs) (h : K (w.setRow b vs.toArray)) : StN w ⟨b, 0, none⟩ vs K := stN_all hb.1 hb.2.1 hb.2.2 h
theorem bound_of {i : Int} {n : Nat} {K : Nat → Prop} (h1 : 0 ≤ i) (h2 : i < n) (h : K i.toNat) : bound i n K := ⟨h1, h2, h⟩
theorem ite_of {c : Prop} [Decidable c] {A B : Prop} (h1 : c → A) (h2 : ¬ c → B) : if c then A else B := by split <;> simp_all
theorem le_andI {a b : Int} {K : Prop} (h : a ≤ b) (k : K) : a ≤ b ∧ K := ⟨h, k⟩
theorem le_andN {a b : Nat} {K : Prop} (h : a ≤ b) (k : K) : a ≤ b ∧ K := ⟨h, k⟩
theorem ne_andI {a b : Int} {K : Prop} (h : ¬ a = b) (k : K) : (¬ a = b) ∧ K := ⟨h, k⟩
theorem calls_mono {P : Program} {f : FuncId} {args : Array Value} {w : World} {R R' : Ending → World → Prop} (h : Calls P f args w R) (hr : ∀ e w, R e w → R' e w) : Calls P f args w R' := Calls.mono h hr

/-! rows of numbers -/
def ints (k : IntKind) (l : List Int) : Array Value := (l.map (Value.int k)).toArray
def g (l : List Int) (i : Nat) : Int := l.getD i 0
theorem ints_size (k : IntKind) (l : List Int) : (ints k l).size = l.length := by simp [ints]
theorem ints_at {k : IntKind} {l : List Int} {i : Nat} {K : Value → Prop} (h : i < l.length) (hk : K (.int k (g l i))) : At (ints k l) i K :=
  at_of (v := .int k (g l i)) (by simp [ints, h, g, List.getD]) hk
theorem ints_set (k : IntKind) (l : List Int) (i : Nat) (v : Int) : (ints k l).setIfInBounds i (.int k v) = ints k (l.set i v) := by
  apply Array.ext'; simp [ints, List.map_set]
theorem ints_ext (k : IntKind) (l : List Int) (a b : Nat) : (ints k l).extract a b = ints k ((l.take b).drop a) := by
  apply Array.ext'; simp [ints, List.map_drop, List.map_take, List.drop_take]
theorem g_set (l : List Int) (i j : Nat) (v : Int) (h : i < l.length) : g (l.set i v) j = if i = j then v else g l j := by
  unfold g; simp only [List.getD, List.getElem?_set]; split <;> simp_all
theorem g_take (l : List Int) (a b i : Nat) (h : i < b - a) : g ((l.take b).drop a) i = g l (a + i) := by
  unfold g; simp only [List.getD, List.getElem?_drop, List.getElem?_take]
  rw [if_pos (by omega)]
theorem g_take0 (l : List Int) (b i : Nat) (h : i < b) : g (l.take b) i = g l i := by
  unfold g; simp only [List.getD, List.getElem?_take]
  rw [if_pos h]

/-- All numbers of a row lie within c. -/
def Lim (c : Int) (l : List Int) : Prop := ∀ k, -c ≤ g l k ∧ g l k ≤ c
theorem Lim.set {c : Int} {l : List Int} (h : Lim c l) (i : Nat) {v : Int} (hv : -c ≤ v ∧ v ≤ c) : Lim c (l.set i v) := by
  intro k
  rcases Nat.lt_or_ge i l.length with hi | hi
  · rw [g_set _ _ _ _ hi]; split
    · exact hv
    · exact h k
  · rw [List.set_eq_of_length_le hi]; exact h k
theorem Lim.mono {c d : Int} {l : List Int} (h : Lim c l) (hcd : c ≤ d) : Lim d l := fun k => by have := h k; omega

theorem Row.set {w : World} {b : Nat} {C : Array Value} (C' : Array Value) (h : Own w b C) : Row (w.setRow b C') b C' := (h.set C').row
theorem Row.new (w : World) (C : Array Value) (T : TypeId) : Row (w.alloc (.cells C T)) w.heap.size C := (Own.new w C T).row
theorem Row.newD (w : World) (C : Array Value) (T : TypeId) : Row (w.drew.alloc (.cells C T)) w.heap.size C := (Own.newD w C T).row

theorem mapM_some {α β : Type} {f : α → Option β} {h : α → β} : ∀ (l : List α), (∀ x ∈ l, f x = some (h x)) → l.mapM f = some (l.map h)
  | [], _ => rfl
  | x :: l, hx => by
    rw [List.mapM_cons, hx x (List.mem_cons_self ..), mapM_some l fun y hy => hx y (List.mem_cons_of_mem _ hy)]; rfl
theorem keyLits_ints {P : Program} {t e : TypeId} {n : Nat} {k : IntKind} (ht : P.underlying t = some (.array n e)) (he : P.underlying e = some (.int k)) (hct : P.cellsOf t = n) (hce : P.cellsOf e = 1) {l : List Int} (hl : l.length = n) (hw : ∀ i, i < n → (Lit.int k (g l i)).wf = true) (d : Nat) :
    P.keyLits (d + 2) t (ints k l).toList = some (l.map (Lit.int k)) := by
  have h1 : ∀ i, i < n → P.keyLits (d + 1) e (((ints k l).toList.drop (i * P.cellsOf e)).take (P.cellsOf e)) = some [Lit.int k (g l i)] := fun i hi => by
    have e1 : ((ints k l).toList.drop (i * P.cellsOf e)).take (P.cellsOf e) = [.int k (g l i)] := by
      rw [hce, Nat.mul_one]
      simp only [ints]
      rw [List.drop_eq_getElem_cons (by simpa using (by omega : i < l.length)), List.take_succ_cons, List.take_zero]
      simp [g, List.getD_eq_getElem?_getD, List.getElem?_eq_getElem (by omega : i < l.length)]
    rw [e1]; unfold Program.keyLits; rw [he]; simp [hw i hi]
  unfold Program.keyLits
  rw [ht]
  have h2 : (ints k l).toList.length = P.cellsOf t := by rw [hct]; simpa [ints] using hl
  simp only [h2, if_true]
  rw [mapM_some (h := fun i => [Lit.int k (g l i)]) (List.range n) fun i hi => h1 i (List.mem_range.1 hi), Option.map_some]
  congr 1
  apply List.ext_getElem?
  intro i
  have h3 : ((List.range n).map fun i => [Lit.int k (g l i)]).flatten = (List.range n).map fun i => Lit.int k (g l i) := by
    generalize List.range n = r
    induction r with
    | nil => rfl
    | cons x r ih => rw [List.map_cons, List.flatten_cons, ih, List.map_cons]; rfl
  rw [h3]
  rcases Nat.lt_or_ge i n with hi | hi
  · rw [List.getElem?_map, List.getElem?_range hi, List.getElem?_map, List.getElem?_eq_getElem (by omega : i < l.length)]
    simp [g, List.getD_eq_getElem?_getD, List.getElem?_eq_getElem (by omega : i < l.length)]
  · rw [List.getElem?_eq_none (by simpa using hi), List.getElem?_eq_none (by simpa [hl] using hi)]
/-- Two arrays of integers are compared. -/
theorem aeq_ints {P : Program} {t e : TypeId} {n : Nat} {k : IntKind} (ht : P.underlying t = some (.array n e)) (he : P.underlying e = some (.int k)) (hct : P.cellsOf t = n) (hce : P.cellsOf e = 1) {l m : List Int} (hl : l.length = n) (hm : m.length = n)
    (hw : ∀ i, i < n → (Lit.int k (g l i)).wf = true) (hw2 : ∀ i, i < n → (Lit.int k (g m i)).wf = true) {K : Bool → Prop} (hk : K (decide (l = m))) : Agg2W P t (.agg (ints k l)) (.agg (ints k m)) K := by
  refine ⟨_, _, decide (l = m), ?_, ?_, keyLits_ints ht he hct hce hl hw 62, keyLits_ints ht he hct hce hm hw2 62, ?_, hk⟩
  · simp only [Value.formed, ht, beq_iff_eq]; rw [hct, ints_size]; exact hl
  · simp only [Value.formed, ht, beq_iff_eq]; rw [hct, ints_size]; exact hm
  · rw [decide_eq_true_eq]
    constructor
    · intro h; rw [h]
    · intro h
      have := congrArg (List.map fun x => match x with | Lit.int _ n => n | _ => 0) h
      rw [List.map_map, List.map_map] at this
      have e : ∀ l : List Int, l.map ((fun x => match x with | Lit.int _ n => n | _ => 0) ∘ Lit.int k) = l := fun l => by
        induction l with
        | nil => rfl
        | cons x l ih => rw [List.map_cons, ih]; rfl
      rw [e, e] at this; exact this

theorem sz_alloc (w : World) (o : Obj) : (w.alloc o).heap.size = w.heap.size + 1 := World.size_alloc w o
theorem sz_drew (w : World) : w.drew.heap.size = w.heap.size := rfl
theorem sz_setRow (w : World) (b : Nat) (C : Array Value) : (w.setRow b C).heap.size = w.heap.size := by simp [World.setRow]
theorem SameB.fr {S : Nat → Prop} {b : Nat} {w w' : World} (f : Fr S w w') (h : ¬ S b) : SameB b w w' := fun hb => f.block b hb h
theorem SameB.fr' {S : Nat → Prop} {b : Nat} {w w1 w' : World} (h1 : SameB b w w1) (f : Fr S w1 w') (h : ¬ S b) (hs : w.heap.size ≤ w1.heap.size) : SameB b w w' := fun hb => (f.block b (Nat.lt_of_lt_of_le hb hs) h).trans (h1 hb)
theorem SameB.drew {b : Nat} {w w' : World} (h : SameB b w w') : SameB b w w'.drew := h
theorem SameB.drew' {b : Nat} {w w' : World} (h : SameB b w w') : SameB b w.drew w' := h
theorem SameB.alloc {b : Nat} {w w' : World} (o : Obj) (h : SameB b w w') (hs : b < w.heap.size → b < w'.heap.size) : SameB b w (w'.alloc o) := fun hb => (Below.heap_alloc w' o b (hs hb)).trans (h hb)
theorem SameB.setRow {b c : Nat} {w w' : World} (C : Array Value) (h : SameB b w w') (hn : b ≠ c) : SameB b w (w'.setRow c C) := fun hb => (setRow_other w' c b C hn).trans (h hb)
theorem same_and {b : Nat} {w w' : World} {K : Prop} (h : SameB b w w') (k : K) : SameB b w w' ∧ K := ⟨h, k⟩
theorem same_andW {A K : Prop} {b : Nat} {w w' : World} (h : A ∧ SameB b w w') (k : K) : (A ∧ SameB b w w') ∧ K := ⟨h, k⟩
/-- What omega is told of lengths. -/
theorem LN : (∀ (l : List Int) (i : Nat) (v : Int), (l.set i v).length = l.length) ∧ (∀ {α : Type} (n : Nat) (l : List α), (l.take n).length = min n l.length) ∧ (∀ {α : Type} (n : Nat) (l : List α), (l.drop n).length = l.length - n) ∧
    (∀ {α : Type} (l m : List α), (l ++ m).length = l.length + m.length) ∧ (∀ {α : Type} (n : Nat) (v : α), (List.replicate n v).length = n) ∧ (∀ (k : IntKind) (l : List Int), (ints k l).size = l.length) ∧ (∀ (C : Array Value) (i : Nat) (v : Value), (C.setIfInBounds i v).size = C.size) ∧ (∀ l : List Value, (List.toArray l).size = l.length) ∧ (∀ {α : Type} (a : α) (l : List α), (a :: l).length = l.length + 1) ∧ (∀ {α : Type}, ([] : List α).length = 0) ∧ (∀ (w : World) (o : Obj), (w.alloc o).heap.size = w.heap.size + 1) ∧ (∀ w : World, w.drew.heap.size = w.heap.size) ∧ (∀ (w : World) (b : Nat) (C : Array Value), (w.setRow b C).heap.size = w.heap.size) :=
  ⟨fun _ _ _ => List.length_set, fun _ _ => List.length_take, fun _ _ => List.length_drop, fun _ _ => List.length_append, fun _ _ => List.length_replicate, ints_size, fun _ _ _ => Array.size_setIfInBounds, fun _ => List.size_toArray, fun _ _ => List.length_cons, List.length_nil, sz_alloc, sz_drew, sz_setRow⟩

/-! what closes the small goals of a walk -/
theorem om {P : Prop} (h : P := by (first | omega | (focus (simp only [X.LN] at *; done)) | (focus (simp only [X.LN] at *; omega)) | fail)) : P := h
theorem rws {P : Prop} (h : P := by (first | (focus ((repeat' first | (with_reducible first | assumption | apply X.Own.set | apply X.Own.new | apply X.Own.newD | apply X.Own.drew | apply X.Row.drew | apply X.OwnT.drew | apply X.Row.set | apply X.Row.new | apply X.Row.newD | apply And.intro | apply X.Ones.nil | apply X.Ones.cons | apply X.one_i | apply X.one_s | apply X.one_b | apply X.one_p | apply X.one_l) | ((with_reducible first | apply X.Own.newE | apply X.Row.newE | apply X.OwnT.newE); exact X.om) | ((with_reducible first | apply X.Own.setE | apply X.Row.setE | apply X.OwnT.setE); exact X.om) | (with_reducible first | apply X.Own.alloc | apply X.Row.alloc | apply X.OwnT.alloc | apply X.Own.ne | apply X.Row.ne | apply X.OwnT.ne | apply X.Own.row) | exact X.om | rfl); done)) | fail)) : P := h
theorem frz {P : Prop} (h : P := by (first | (focus ((repeat' first | (with_reducible first | assumption | apply X.Fr.drew | apply X.Fr.alloc | apply X.Fr.setRow | exact X.Fr.refl _ _) | (intro _; rfl) | (intro hb; first | (simp only [X.no] at *; omega) | (simp only [X.no, X.LN] at *; omega))); done)) | fail)) : P := h
theorem olz {P : Prop} (h : P := by (first | (focus ((repeat' first | (with_reducible first | assumption | apply And.intro | apply X.SameB.drew | apply X.SameB.drew' | apply X.SameB.alloc | apply X.SameB.setRow | exact X.SameB.refl _ _) | (intro _; exact X.om) | exact X.om); done)) | fail)) : P := h
theorem envz {P : Prop} (h : P := by (first | rfl | (simp only [List.cons.injEq, Prod.mk.injEq, Value.int.injEq, Value.bool.injEq, true_and, and_true, List.cons_append, List.nil_append]; done) | (simp only [List.cons.injEq, Prod.mk.injEq, Value.int.injEq, Value.bool.injEq, true_and, and_true, List.cons_append, List.nil_append]; omega) | fail)) : P := h
theorem andx {a b : Prop} (h : a) (k : b) : a ∧ b := ⟨h, k⟩
/-! a region, unfolded -/
theorem ux (P : Program) {l l' : List G} (h : l = l') (K : Env → World → Prop) (pan : List PanicEntry → World → Prop) (e : Env) (w : World) : vcOps P l K pan e w = vcOps P l' K pan e w := by rw [h]
theorem uw (P : Program) {l l' : List (Nat × G)} (h : l = l') (W : World → Prop) (K : (World → Prop) → Env → World → Prop) (pan : List PanicEntry → World → Prop) (e : Env) (w : World) : vcW P W l K pan e w = vcW P W l' K pan e w := by rw [h]
theorem ut (P : Program) {l l' : GT} (h : l = l') (W : World → Prop) (K : Env → World → Prop) (pan : List PanicEntry → World → Prop) (e : Env) (w : World) : vcT P W l K pan e w = vcT P W l' K pan e w := by rw [h]
end X
end Go.Proofs.YtgibicifflfpfaaDoor
