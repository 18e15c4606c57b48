/-
  Strings as lists of bytes; small facts of walks. Conditions: none.
-/
import Derived.Test.YtgibicifflfpfaaDoorXG
set_option autoImplicit false
set_option linter.unusedVariables false
namespace Go.Proofs.YtgibicifflfpfaaDoor
open X

def ba (l : List UInt8) : ByteArray := ⟨l.toArray⟩
theorem ba_size (l : List UInt8) : (ba l).size = l.length := by simp [ba, ByteArray.size]
theorem ba_list (l : List UInt8) : (ba l).data.toList = l := by simp [ba]
theorem ba_of (s : ByteArray) : ∃ l, s = ba l := ⟨s.data.toList, by cases s; simp [ba]⟩
theorem ba_add (l m : List UInt8) : ba l ++ ba m = ba (l ++ m) := by
  apply ByteArray.ext
  simp [ba]
theorem ba_nil : ({ data := #[] } : ByteArray) = ba [] := rfl
theorem ba_emp : ByteArray.empty = ba [] := rfl
theorem ba_ext (l : List UInt8) (a b : Nat) : (ba l).extract a b = ba ((l.take b).drop a) := by
  apply ByteArray.ext
  rw [ByteArray.data_extract]
  apply Array.ext'
  simp [ba, List.drop_take]
theorem ba_inj {l m : List UInt8} : ba l = ba m ↔ l = m := by
  constructor
  · intro h; have := congrArg (fun s : ByteArray => s.data.toList) h; simpa [ba_list] using this
  · rintro rfl; rfl
theorem ba_toList (l : List UInt8) : (ba l).toList = l := by
  have h : ∀ s : ByteArray, s.toList = s.data.toList := fun s => by
    rw [ByteArray.toList_eq]
  rw [h, ba_list]
theorem ba_eq (l m : List UInt8) : ((ba l).toList == (ba m).toList) = decide (l = m) := by
  rw [ba_toList, ba_toList, Bool.eq_iff_iff]; simp
/-- The cells of bytes. -/
def bc (l : List UInt8) : List Value := l.map fun b => Value.int .u8 b.toNat
theorem bc_len (l : List UInt8) : (bc l).length = l.length := by simp [bc]
theorem bc_add (l m : List UInt8) : bc (l ++ m) = bc l ++ bc m := by simp [bc]
theorem bc_one (l : List UInt8) : ∀ v ∈ bc l, one v = true := by
  intro v hv; simp only [bc, List.mem_map] at hv; obtain ⟨b, _, rfl⟩ := hv; rfl
theorem u8s_bc : ∀ l : List UInt8, u8s (bc l) = some l
  | [] => rfl
  | b :: l => by
    have := u8s_bc l
    simp only [bc] at this
    simp only [bc, List.map_cons, u8s, this, Option.map_some, Int.toNat_natCast]
    congr 2
    exact UInt8.ofNat_toNat
theorem bytes_bc {l : List UInt8} {K : ByteArray → Prop} : Bytes1 (bc l) K = K (ba l) := by unfold Bytes1; rw [u8s_bc]; rfl
theorem bytes_1 {x : Int} {K : ByteArray → Prop} : Bytes1 [.int .u8 x] K = K (ba [UInt8.ofNat x.toNat]) := (rfl)
theorem bytes_2 {x y : Int} {K : ByteArray → Prop} : Bytes1 [.int .u8 x, .int .u8 y] K = K (ba [UInt8.ofNat x.toNat, UInt8.ofNat y.toNat]) := (rfl)
theorem bytes_3 {x y z : Int} {K : ByteArray → Prop} : Bytes1 [.int .u8 x, .int .u8 y, .int .u8 z] K = K (ba [UInt8.ofNat x.toNat, UInt8.ofNat y.toNat, UInt8.ofNat z.toNat]) := (rfl)
theorem bytes_4 {x y z v : Int} {K : ByteArray → Prop} : Bytes1 [.int .u8 x, .int .u8 y, .int .u8 z, .int .u8 v] K = K (ba [UInt8.ofNat x.toNat, UInt8.ofNat y.toNat, UInt8.ofNat z.toNat, UInt8.ofNat v.toNat]) := (rfl)
theorem bc_set (l : List UInt8) (j : Nat) (x : UInt8) : (List.toArray (bc l)).setIfInBounds j (.int .u8 x.toNat) = List.toArray (bc (l.set j x)) := by
  simp [bc, List.map_set]
theorem zrepU (k : Nat) : zrep #[.int .u8 0] k = List.toArray (bc (List.replicate k 0)) := by
  apply Array.ext'
  simp only [zrep, bc]
  apply List.ext_getElem?
  intro i
  simp only [Array.toList_map, Array.toList_range, List.getElem?_map, List.map_replicate, List.getElem?_replicate]
  rcases Nat.lt_or_ge i k with h | h
  · rw [List.getElem?_range h, if_pos h]; simp [Nat.mod_one]
  · rw [List.getElem?_eq_none (by simpa using h), if_neg (by omega)]; rfl
/-- Division of natural numbers. -/
theorem td_nat (n m : Nat) : (n : Int).tdiv m = ((n / m : Nat) : Int) := (rfl)
theorem tm_nat (n m : Nat) : (n : Int).tmod m = ((n % m : Nat) : Int) := (rfl)
theorem td10 (n : Nat) : (n : Int).tdiv 10 = ((n / 10 : Nat) : Int) := (rfl)
theorem tm10 (n : Nat) : (n : Int).tmod 10 = ((n % 10 : Nat) : Int) := (rfl)
theorem td16 (n : Nat) : (n : Int).tdiv 16 = ((n / 16 : Nat) : Int) := (rfl)
theorem tm16 (n : Nat) : (n : Int).tmod 16 = ((n % 16 : Nat) : Int) := (rfl)
theorem wr_of {k : IntKind} {n : Int} {K : Value → Prop} (h : K (.int k (k.wrap n))) : Wr k n K := h
/-- A small number, as a rune, as text. -/
theorem enc_small {n : Int} (h0 : 0 ≤ n) (h : n < 128) : Utf8.encode n = ba [UInt8.ofNat n.toNat] := by
  have h1 : Utf8.valid n = true := by simp [Utf8.valid]; omega
  unfold Utf8.encode
  simp only [h1, if_true]
  rw [if_pos (by omega)]
  rfl

theorem tup_10 (a : Value) (K : Value → Prop) : Tup1 (.tuple #[a]) 0 K = K a := (rfl)
theorem iterAt_same {w : World} {k p : Nat} {s : ByteArray} {o : Obj} (h : w.heap[k]? = some o) : (w.iterAt k s p).heap[k]? = some (.stringIter s p) := by
  have hk : k < w.heap.size := (Array.getElem?_eq_some_iff.1 h).1
  simp [World.iterAt, hk]
theorem at_z {a : Value} {l : List Value} {K : Value → Prop} : At (List.toArray (a :: l)) 0 K = K a := by simp [At]
theorem at_s {a : Value} {l : List Value} {n : Nat} {K : Value → Prop} : At (List.toArray (a :: l)) (n + 1) K = At (List.toArray l) n K := by simp [At]
end Go.Proofs.YtgibicifflfpfaaDoor
