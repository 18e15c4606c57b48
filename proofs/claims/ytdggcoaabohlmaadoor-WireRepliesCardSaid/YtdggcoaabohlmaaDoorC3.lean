/-
  Bytes, numbers as bytes, and a buffer of bytes that a function has made itself: plain. Conditions: none.
-/
import Derived.Test.YtdggcoaabohlmaaDoorC2
set_option autoImplicit false
set_option linter.unusedSimpArgs false
set_option linter.unusedVariables false
namespace Go.Proofs.YtdggcoaabohlmaaDoor
open X

def ba (l : List UInt8) : ByteArray := ⟨l.toArray⟩
theorem ba_size (l : List UInt8) : (ba l).size = l.length := by simp [ba, ByteArray.size]
theorem ba_list (l : List UInt8) : (ba l).data.toList = l := by simp [ba]
theorem ba_of (s : ByteArray) : ∃ l, s = ba l := ⟨s.data.toList, by cases s; simp [ba]⟩
theorem ba_add (l m : List UInt8) : ba l ++ ba m = ba (l ++ m) := by
  apply ByteArray.ext
  simp [ba]
theorem ba_nil : ({ data := #[] } : ByteArray) = ba [] := rfl
theorem ba_emp : ByteArray.empty = ba [] := rfl
theorem ba_ext (l : List UInt8) (a b : Nat) : (ba l).extract a b = ba ((l.take b).drop a) := by
  apply ByteArray.ext
  rw [ByteArray.data_extract]
  apply Array.ext'
  simp [ba, List.drop_take]
theorem ba_inj {l m : List UInt8} : ba l = ba m ↔ l = m := by
  constructor
  · intro h; have := congrArg (fun s : ByteArray => s.data.toList) h; simpa [ba_list] using this
  · rintro rfl; rfl
theorem ba_toList (l : List UInt8) : (ba l).toList = l := by
  have h : ∀ s : ByteArray, s.toList = s.data.toList := fun s => by
    rw [ByteArray.toList_eq]
  rw [h, ba_list]
theorem ba_eq (l m : List UInt8) : ((ba l).toList == (ba m).toList) = decide (l = m) := by
  rw [ba_toList, ba_toList, Bool.eq_iff_iff]; simp
/-- The cells of bytes. -/
def bc (l : List UInt8) : List Value := l.map fun b => Value.int .u8 b.toNat
theorem bc_len (l : List UInt8) : (bc l).length = l.length := by simp [bc]
theorem bc_add (l m : List UInt8) : bc (l ++ m) = bc l ++ bc m := by simp [bc]
theorem bc_one (l : List UInt8) : ∀ v ∈ bc l, one v = true := by
  intro v hv; simp only [bc, List.mem_map] at hv; obtain ⟨b, _, rfl⟩ := hv; rfl

/-- The low k bytes of n, the highest first. -/
def be (n : Nat) : Nat → List UInt8
  | 0 => []
  | k + 1 => be (n / 256) k ++ [UInt8.ofNat n]
theorem be_len (k : Nat) : ∀ n, (be n k).length = k := by
  induction k with
  | zero => intro n; rfl
  | succ k ih => intro n; simp [be, ih]
theorem be_front (k : Nat) : ∀ n, be n (k + 1) = UInt8.ofNat (n / 256 ^ k) :: be n k := by
  induction k with
  | zero => intro n; simp [be]
  | succ k ih =>
    intro n
    rw [be, ih]
    have : n / 256 / 256 ^ k = n / 256 ^ (k + 1) := by rw [Nat.div_div_eq_div_mul, Nat.pow_succ, Nat.mul_comm]
    rw [this, List.cons_append, be]
/-- The number of bytes. -/
def val (l : List UInt8) : Nat := l.foldl (fun n b => n * 256 + b.toNat) 0
theorem val_snoc (l : List UInt8) (b : UInt8) : val (l ++ [b]) = val l * 256 + b.toNat := by simp [val]
theorem val_lt (l : List UInt8) : val l < 256 ^ l.length := by
  have : ∀ (m : List UInt8), val m.reverse < 256 ^ m.length := by
    intro m
    induction m with
    | nil => simp [val]
    | cons b m ih =>
      rw [List.reverse_cons, val_snoc, List.length_cons, Nat.pow_succ]
      have := b.toNat_lt
      omega
  have h := this l.reverse
  simpa using h
theorem val_be (k : Nat) : ∀ n, n < 256 ^ k → val (be n k) = n := by
  induction k with
  | zero => intro n h; simp at h; subst h; rfl
  | succ k ih =>
    intro n h
    rw [be, val_snoc, ih (n / 256) (by rw [Nat.pow_succ] at h; omega)]
    have : (UInt8.ofNat n).toNat = n % 256 := UInt8.toNat_ofNat'
    omega

/-- v is a slice of the bytes l, in a block from b0 on that is all its own (or nil). -/
def Buf (w : World) (v : Value) (l : List UInt8) (b0 : Nat) : Prop :=
  (v = .slice none 0 0 ∧ l = []) ∨ ∃ b cap rest, b0 ≤ b ∧ v = .slice (some ⟨b, 0, none⟩) l.length cap ∧ l.length ≤ cap ∧ 0 < cap ∧ rest.length = cap - l.length ∧ w.heap[b]? = some (.cells (bc l ++ rest).toArray 5)
theorem Buf.fr {S : Nat → Prop} {w w' : World} {v : Value} {l : List UInt8} {b0 : Nat} (h : Buf w v l b0) (f : Fr S w w') (hS : ∀ k, blk v k → ¬ S k) : Buf w' v l b0 := by
  rcases h with h | ⟨b, cap, rest, h1, h2, h3, h4, h5, h6⟩
  · exact .inl h
  · have hlt : b < w.heap.size := by
      rcases Nat.lt_or_ge b w.heap.size with h | h
      · exact h
      · rw [Array.getElem?_eq_none h] at h6; cases h6
    exact .inr ⟨b, cap, rest, h1, h2, h3, h4, h5, (f.block b hlt (hS b (by subst h2; rfl))).trans h6⟩
theorem Buf.blk_ge {w : World} {v : Value} {l : List UInt8} {b0 : Nat} (h : Buf w v l b0) : ∀ k, blk v k → b0 ≤ k := by
  rcases h with ⟨rfl, _⟩ | ⟨b, cap, rest, h1, rfl, h3, h4, h5, h6⟩
  · intro k hk; exact hk.elim
  · intro k hk; rw [show k = b from hk]; exact h1

theorem take_str {w : World} {m : List UInt8} {K : List Value → Prop} (h : K (bc m)) : Take w 1 m.length (.string (ba m)) K := by
  refine ⟨rfl, by rw [ba_size]; exact Nat.le_refl _, ?_⟩
  rw [ba_list, List.take_length]; exact h

theorem buf_append {P : Program} {w : World} {s : Value} {l m : List UInt8} {b0 : Nat} {K : Value → World → Prop} (hz : (zcells P 5).size = 1) (hv : Buf w s l b0) (hb0 : b0 ≤ w.heap.size)
    (hl : l.length + m.length ≤ 1000000000) (hk : ∀ r w', Buf w' r (l ++ m) b0 → Fr (blk s) w w' → (∀ k, blk r k → blk s k ∨ w.heap.size ≤ k) → K r w') : AppVC P 5 1 1 w s (.string (ba m)) K := by
  have grow : ∀ (M : Nat), l.length + m.length ≤ M → 0 < M → Buf (w.drew.alloc (.cells ((bc l ++ bc m).toArray ++ Builtin.zeroCells (zcells P 5) (M - (l.length + m.length))) 5)) (.slice (some ⟨w.heap.size, 0, none⟩) (l.length + m.length) M) (l ++ m) b0 := by
    intro M hM h0
    refine .inr ⟨w.heap.size, M, (Builtin.zeroCells (zcells P 5) (M - (l.length + m.length))).toList, hb0, by rw [List.length_append], by rw [List.length_append]; exact hM, h0, ?_, ?_⟩
    · rw [Array.length_toList, size_zeroCells, hz, List.length_append]; omega
    · refine (heap_alloc_new w.drew _).trans ?_
      congr 2
      apply Array.ext'; simp [bc_add]
  have growF : ∀ (M : Nat), Fr (blk s) w (w.drew.alloc (.cells ((bc l ++ bc m).toArray ++ Builtin.zeroCells (zcells P 5) (M - (l.length + m.length))) 5)) := fun M => ((Fr.refl _ w).drew).alloc _
  have hsz : (ba m).size = m.length := ba_size m
  unfold AppVC
  rcases hv with ⟨rfl, rfl⟩ | ⟨b, cap, rest, hb, rfl, h3, h4, h5, h6⟩
  · simp only [Slc1_mk, Len1, hsz]
    refine take_str ?_
    refine ⟨bc_one m, fun hm => ?_, fun hm => ⟨by simpa using (by simp at hl; omega), by simp at hl ⊢; omega, ⟨rfl, fun M hM => ?_⟩⟩⟩
    · have : m = [] := by cases m; rfl; simp at hm
      subst this
      exact ⟨rfl, hk _ _ (.inl ⟨rfl, rfl⟩) (Fr.refl _ _) fun k h => h.elim⟩
    · have h := grow M (by simpa using hM) (by omega)
      have hf := growF M
      simp only [bc, List.map_nil, List.nil_append, List.length_nil] at h hf ⊢
      exact hk _ _ h hf fun k h => .inr (by rw [show k = w.heap.size from h]; exact Nat.le_refl _)
  · simp only [Slc1_mk, Len1, hsz]
    refine take_str ?_
    refine ⟨bc_one m, fun hm => ?_, fun hm => ⟨by omega, by omega, ?_⟩⟩
    · have hr : (bc m).length ≤ rest.length := by rw [bc_len]; omega
      show StN w ((⟨b, 0, none⟩ : Addr).add (l.length * 1)) (bc m) _
      rw [ad_add, Nat.zero_add, Nat.mul_one]
      refine stN_at h6 (by simp [bc_len]; omega) (by simp) (bc_one m) ?_
      have e := over_app (bc l) rest (bc m) hr
      rw [bc_len] at e
      rw [e]
      refine hk _ _ (.inr ⟨b, cap, rest.drop (bc m).length, hb, by rw [List.length_append], by rw [List.length_append]; exact hm, h4, ?_, ?_⟩) ?_ fun k h => .inl h
      · rw [List.length_drop, bc_len, List.length_append]; omega
      · rw [setRow_heap w b _ _ _ _ h6, bc_add]
      · exact (Fr.refl _ w).setRow b _ fun _ => rfl
    · rw [tk_some]
      refine ldN_row ⟨5, _, h6⟩ (by simp [bc_len]) ?_
      have e : ((bc l ++ rest).toArray.extract 0 (0 + l.length * 1)).toList = bc l := by simp [← bc_len l]
      intro M hM
      rw [e]
      exact hk _ _ (grow M hM (by omega)) (growF M) fun k h => .inr (by rw [show k = w.heap.size from h]; exact Nat.le_refl _)
end Go.Proofs.YtdggcoaabohlmaaDoor
