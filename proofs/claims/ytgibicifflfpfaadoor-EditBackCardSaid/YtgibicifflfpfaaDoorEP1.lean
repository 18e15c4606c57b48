/-
  Texts as lists of bytes: how they are printed and read; edits likewise. Plain. Conditions: none.
-/
import Derived.Lib.DecodeN
set_option autoImplicit false
namespace Go.Proofs.YtgibicifflfpfaaDoor

def bt (l : List UInt8) (i : Nat) : Nat := (l.getD i 0).toNat
theorem btE (l : List UInt8) (i : Nat) : (l.getD i 0).toNat = bt l i := (rfl)
theorem bt_lt (l : List UInt8) (i : Nat) : bt l i < 256 := (l.getD i 0).toNat_lt
theorem bt_out {l : List UInt8} {i : Nat} (h : l.length ≤ i) : bt l i = 0 := by
  unfold bt; rw [List.getD_eq_getElem?_getD, List.getElem?_eq_none h]; rfl
theorem bt_drop (l : List UInt8) (i k : Nat) : bt (l.drop i) k = bt l (i + k) := by
  unfold bt; simp only [List.getD_eq_getElem?_getD, List.getElem?_drop]
theorem bt_app (l m : List UInt8) (k : Nat) : bt (l ++ m) (l.length + k) = bt m k := by
  unfold bt; simp only [List.getD_eq_getElem?_getD]; rw [List.getElem?_append_right (by omega), Nat.add_sub_cancel_left]
theorem bt_zero (b : UInt8) (l : List UInt8) : bt (b :: l) 0 = b.toNat := rfl
theorem bt_succ (b : UInt8) (l : List UInt8) (k : Nat) : bt (b :: l) (k + 1) = bt l k := rfl
theorem bt_byte (l : List UInt8) (i : Nat) : UInt8.ofNat (bt l i) = l.getD i 0 := UInt8.ofNat_toNat

/-- A hexadecimal digit's number; -1. -/
def dig (c : Nat) : Int := if 48 ≤ c ∧ c ≤ 57 then (c : Int) - 48 else if 97 ≤ c ∧ c ≤ 102 then (c : Int) - 87 else -1
theorem dig_rng (c : Nat) : -1 ≤ dig c ∧ dig c ≤ 15 := by
  unfold dig
  repeat' split
  all_goals omega
def errAt (s : List UInt8) (i : Nat) : Nat × Int := if s.length ≤ i then (s.length, 2) else (i, 16)
def fault (l : List UInt8) (i : Nat) : List UInt8 × Nat × Int := ([], errAt l i)
/-- The bytes of a rune. -/
def rb (r : Nat) : List UInt8 :=
  if r < 128 then [UInt8.ofNat r] else if r < 2048 then [UInt8.ofNat (192 + r / 64), UInt8.ofNat (128 + r % 64)]
  else if r < 65536 then [UInt8.ofNat (224 + r / 4096), UInt8.ofNat (128 + r / 64 % 64), UInt8.ofNat (128 + r % 64)]
  else [UInt8.ofNat (240 + r / 262144), UInt8.ofNat (128 + r / 4096 % 64), UInt8.ofNat (128 + r / 64 % 64), UInt8.ofNat (128 + r % 64)]
/-- May n be a rune? -/
def isR (n : Int) : Prop := (0 ≤ n ∧ n < 55296) ∨ (57344 ≤ n ∧ n ≤ 1114111)
instance (n : Int) : Decidable (isR n) := by unfold isR; infer_instance
/-- At most so many hexadecimal digits more. -/
def hexs (l : List UInt8) : Nat → Nat → Int → Nat × Int
  | 0, i, n => (i, n)
  | k + 1, i, n => if 0 < n ∧ 0 ≤ dig (bt l i) then hexs l k (i + 1) (n * 16 + dig (bt l i)) else (i, n)
/-- A rune's number within braces, at i: the place behind it, and its bytes; or the place where it goes wrong. -/
def unqU (l : List UInt8) (i : Nat) : Nat × Option (List UInt8) :=
  if bt l i ≠ 123 then (i, none) else if dig (bt l (i + 1)) < 0 then (i + 1, none) else
  if bt l (hexs l 5 (i + 2) (dig (bt l (i + 1)))).1 = 125 ∧ isR (hexs l 5 (i + 2) (dig (bt l (i + 1)))).2 then
    ((hexs l 5 (i + 2) (dig (bt l (i + 1)))).1 + 1, some (rb (hexs l 5 (i + 2) (dig (bt l (i + 1)))).2.toNat)) else ((hexs l 5 (i + 2) (dig (bt l (i + 1)))).1, none)
/-- What stands behind a backslash, at i. -/
def unqE (l : List UInt8) (i : Nat) : Nat × Option (List UInt8) :=
  if bt l i = 34 ∨ bt l i = 92 then (i + 1, some [l.getD i 0]) else
  if bt l i = 110 then (i + 1, some [10]) else
  if bt l i = 117 then unqU l (i + 1) else
  if bt l i = 120 then (if dig (bt l (i + 1)) < 0 then (i + 1, none) else if dig (bt l (i + 2)) < 0 then (i + 2, none) else (i + 3, some [UInt8.ofNat (dig (bt l (i + 1)) * 16 + dig (bt l (i + 2))).toNat]))
  else (i, none)
/-- The rest of a quoted text, of which out was read. -/
def unqL (l : List UInt8) : Nat → Nat → List UInt8 → List UInt8 × Nat × Int
  | 0, i, _ => fault l i
  | f + 1, i, out =>
    if l.length ≤ i then fault l i else if bt l i = 34 then (out, i + 1, 0) else if bt l i < 32 ∨ 126 < bt l i then fault l i else
    if bt l i ≠ 92 then unqL l f (i + 1) (out ++ [l.getD i 0]) else
    match unqE l (i + 1) with
    | (j, none) => fault l j
    | (j, some x) => unqL l f j (out ++ x)
/-- A quoted text, read. -/
def unq (l : List UInt8) : List UInt8 × Nat × Int := if bt l 0 ≠ 34 then fault l 0 else unqL l l.length 1 []

theorem hexs_ge (l : List UInt8) : ∀ (k i : Nat) (n : Int), i ≤ (hexs l k i n).1
  | 0, i, n => Nat.le_refl _
  | k + 1, i, n => by
    unfold hexs; split
    · exact Nat.le_trans (Nat.le_succ i) (hexs_ge l k (i + 1) _)
    · exact Nat.le_refl _
theorem hexs_le (l : List UInt8) : ∀ (k i : Nat) (n : Int), i ≤ l.length → (hexs l k i n).1 ≤ l.length
  | 0, i, n, h => h
  | k + 1, i, n, h => by
    unfold hexs; split
    · rename_i hc
      refine hexs_le l k (i + 1) _ ?_
      rcases Nat.lt_or_ge i l.length with h1 | h1
      · omega
      · rw [bt_out h1] at hc; exact absurd hc.2 (by decide)
    · exact h
theorem bt_lt_of {l : List UInt8} {i : Nat} (h : bt l i ≠ 0) : i < l.length := by
  rcases Nat.lt_or_ge i l.length with h1 | h1
  · exact h1
  · exact absurd (bt_out h1) h
theorem dig_lt_of {l : List UInt8} {i : Nat} (h : 0 ≤ dig (bt l i)) : i < l.length :=
  bt_lt_of fun h0 => by rw [h0] at h; exact absurd h (by decide)
theorem unqU_ge (l : List UInt8) (i : Nat) : i ≤ (unqU l i).1 := by
  unfold unqU
  split
  · exact Nat.le_refl _
  · split
    · exact Nat.le_succ _
    · have := hexs_ge l 5 (i + 2) (dig (bt l (i + 1)))
      split <;> simp only <;> omega
theorem unqU_le (l : List UInt8) (i : Nat) (h : i ≤ l.length) : (unqU l i).1 ≤ l.length := by
  unfold unqU
  split
  · exact h
  · rename_i h1
    have := bt_lt_of (l := l) (i := i) (by omega)
    split
    · exact this
    · rename_i h2
      have h3 := dig_lt_of (l := l) (i := i + 1) (by omega)
      have h4 := hexs_le l 5 (i + 2) (dig (bt l (i + 1))) (by omega)
      split
      · rename_i h5
        have := bt_lt_of (l := l) (i := (hexs l 5 (i + 2) (dig (bt l (i + 1)))).1) (by omega)
        simp only; omega
      · exact h4
theorem unqE_ge (l : List UInt8) (i : Nat) : i ≤ (unqE l i).1 := by
  unfold unqE
  repeat' split
  all_goals first | (simp only; omega) | (have := unqU_ge l (i + 1); omega)
theorem unqE_le (l : List UInt8) (i : Nat) (h : i ≤ l.length) : (unqE l i).1 ≤ l.length := by
  unfold unqE
  split
  · have := bt_lt_of (l := l) (i := i) (by omega); simp only; omega
  · split
    · have := bt_lt_of (l := l) (i := i) (by omega); simp only; omega
    · split
      · have := bt_lt_of (l := l) (i := i) (by omega); exact unqU_le l _ (by omega)
      · split
        · have := bt_lt_of (l := l) (i := i) (by omega)
          split
          · simp only; omega
          · have := dig_lt_of (l := l) (i := i + 1) (by omega)
            split
            · simp only; omega
            · have := dig_lt_of (l := l) (i := i + 2) (by omega); simp only; omega
        · exact h

/-! numbers -/
def decL (n : Nat) : List UInt8 := if n < 10 then [UInt8.ofNat (48 + n)] else decL (n / 10) ++ [UInt8.ofNat (48 + n % 10)]
def digL (l : List Nat) : List UInt8 := l.flatMap fun n => 32 :: decL n
def hd (n : Nat) : UInt8 := UInt8.ofNat (if n < 10 then 48 + n else 87 + n)
/-- n in hexadecimal digits, at least k. -/
def hexK (k n : Nat) : List UInt8 := if n = 0 ∧ k = 0 then [] else hexK (k - 1) (n / 16) ++ [hd (n % 16)]
termination_by n + k
decreasing_by omega

/-! runes -/
def dn (l : List UInt8) : Nat × Nat := Lib.decodeN l.length (bt l 0) (bt l 1) (bt l 2) (bt l 3)
theorem dn_pos (l : List UInt8) : 1 ≤ (dn l).2 := by
  unfold dn Lib.decodeN
  repeat' split
  all_goals (simp only; omega)
/-- Is the first byte no text? -/
def brk (l : List UInt8) : Prop := (dn l).1 = 65533 ∧ (dn l).2 = 1
instance (l : List UInt8) : Decidable (brk l) := by unfold brk; infer_instance
/-- How a rune is printed. -/
def quoR (r : Nat) : List UInt8 :=
  if r = 34 then [92, 34] else if r = 92 then [92, 92] else if r = 10 then [92, 110] else if 32 ≤ r ∧ r ≤ 126 then [UInt8.ofNat r] else [92, 117, 123] ++ hexK 1 r ++ [125]
/-- How the first rune of a text is printed. -/
def piece (l : List UInt8) : List UInt8 := if brk l then [92, 120] ++ hexK 2 (bt l 0) else quoR (dn l).1
def quoB (l : List UInt8) : List UInt8 := if l = [] then [] else piece l ++ quoB (l.drop (dn l).2)
termination_by l.length
decreasing_by
  rename_i h
  have := dn_pos l
  have : l.length ≠ 0 := fun h2 => h (List.eq_nil_of_length_eq_zero h2)
  simp only [List.length_drop]; omega
def quo (l : List UInt8) : List UInt8 := 34 :: quoB l ++ [34]
theorem quoB_nil : quoB [] = [] := by rw [quoB]; rfl
theorem quoB_cons {l : List UInt8} (h : l ≠ []) : quoB l = piece l ++ quoB (l.drop (dn l).2) := by rw [quoB, if_neg h]

/-! edits -/
structure Ed where
  kind : Int
  a : Int
  b : Int
  c : Int
  d : Int
  body : List UInt8
def ed0 : Ed := ⟨0, 0, 0, 0, 0, []⟩
def turnW : List (List UInt8) := [[110, 111, 110, 101], [109, 105, 114, 114, 111, 114], [102, 108, 105, 112], [104, 97, 108, 102], [115, 119, 97, 112], [114, 105, 103, 104, 116], [108, 101, 102, 116], [97, 110, 116, 105]]
def kindW : List (List UInt8) := [[116, 117, 114, 110], [99, 114, 111, 112], [114, 101, 100, 97, 99, 116], [112, 117, 116], [100, 114, 111, 112], [110, 111, 116, 101]]
/-- A clean edit's text. -/
def texL (e : Ed) : List UInt8 :=
  if e.kind = 0 then [116, 117, 114, 110, 32] ++ turnW.getD e.a.toNat []
  else if e.kind = 1 then [99, 114, 111, 112] ++ digL [e.a.toNat, e.b.toNat, e.c.toNat, e.d.toNat]
  else if e.kind = 2 then [114, 101, 100, 97, 99, 116] ++ digL [e.a.toNat, e.b.toNat, e.c.toNat, e.d.toNat]
  else if e.kind = 3 then [112, 117, 116] ++ digL [e.a.toNat, e.b.toNat] ++ [32] ++ quo e.body
  else if e.kind = 4 then [100, 114, 111, 112] ++ digL [e.a.toNat]
  else [110, 111, 116, 101, 32] ++ quo e.body
/-- How many bytes do two texts begin with alike? -/
def lcp : List UInt8 → List UInt8 → Nat
  | a :: as, b :: bs => if a = b then lcp as bs + 1 else 0
  | _, _ => 0
def wordL (r : List UInt8) : List (List UInt8) → Nat → Nat → Option Nat × Nat
  | [], _, m => (none, m)
  | w :: ws, k, m => if lcp r w = w.length then (some k, w.length) else wordL r ws (k + 1) (max m (lcp r w))
/-- Which of some words stands at i, and the place behind it. -/
def wordP (s : List UInt8) (i : Nat) (ws : List (List UInt8)) : Except (Nat × Int) (Nat × Nat) :=
  match wordL (s.drop i) ws 0 0 with
  | (some k, n) => .ok (k, i + n)
  | (none, m) => .error (errAt s (i + m))
def numL : List UInt8 → Nat → Nat → Nat × Nat
  | [], k, n => (n, k)
  | b :: l, k, n => if (48 ≤ b.toNat ∧ b.toNat ≤ 57) ∧ (k = 0 ∨ 0 < n) then numL l (k + 1) (min (10 * n + (b.toNat - 48)) 2147483648) else (n, k)
def numP (s : List UInt8) (i limit : Nat) : Except (Nat × Int) (Nat × Nat) :=
  if (numL (s.drop i) 0 0).2 = 0 then .error (errAt s i) else if limit < (numL (s.drop i) 0 0).1 then .error (i, 11) else .ok ((numL (s.drop i) 0 0).1, i + (numL (s.drop i) 0 0).2)
def spP (s : List UInt8) (i : Nat) : Except (Nat × Int) Nat := if bt s i = 32 then .ok (i + 1) else .error (errAt s i)
def quoP (s : List UInt8) (i : Nat) : Except (Nat × Int) (List UInt8 × Nat) :=
  if (unq (s.drop i)).2.2 = 0 then .ok ((unq (s.drop i)).1, i + (unq (s.drop i)).2.1) else .error (i + (unq (s.drop i)).2.1, (unq (s.drop i)).2.2)
/-- A blank, and a number behind it. -/
def bnP (s : List UInt8) (i limit : Nat) : Except (Nat × Int) (Nat × Nat) :=
  match spP s i with
  | .error x => .error x
  | .ok j => numP s j limit
/-- A blank, and a quoted text behind it. -/
def bqP (s : List UInt8) (i : Nat) : Except (Nat × Int) (List UInt8 × Nat) :=
  match spP s i with
  | .error x => .error x
  | .ok j => quoP s j
/-- So many numbers, a blank ahead of each. -/
def numsP (s : List UInt8) : Nat → Nat → Except (Nat × Int) (List Nat × Nat)
  | 0, i => .ok ([], i)
  | k + 1, i => match bnP s i 2147483647 with
    | .error x => .error x
    | .ok (n, j) => match numsP s k j with
      | .error x => .error x
      | .ok (l, j) => .ok (n :: l, j)
/-- What stands behind the word of a kind. -/
def restP (s : List UInt8) (k i : Nat) : Except (Nat × Int) (Ed × Nat) :=
  match k with
  | 0 => match spP s i with
    | .error x => .error x
    | .ok j => match wordP s j turnW with
      | .error x => .error x
      | .ok (t, j) => .ok (⟨0, t, 0, 0, 0, []⟩, j)
  | 3 => match bnP s i 2147483647 with
    | .error x => .error x
    | .ok (a, j) => match bnP s j 255 with
      | .error x => .error x
      | .ok (b, j) => match bqP s j with
        | .error x => .error x
        | .ok (t, j) => .ok (⟨3, a, b, 0, 0, t⟩, j)
  | 4 => match bnP s i 2147483647 with
    | .error x => .error x
    | .ok (a, j) => .ok (⟨4, a, 0, 0, 0, []⟩, j)
  | 5 => match bqP s i with
    | .error x => .error x
    | .ok (t, j) => .ok (⟨5, 0, 0, 0, 0, t⟩, j)
  | k => match numsP s 4 i with
    | .error x => .error x
    | .ok (l, j) => .ok (⟨k, l.getD 0 0, l.getD 1 0, l.getD 2 0, l.getD 3 0, []⟩, j)
def parseP (s : List UInt8) : Except (Nat × Int) Ed :=
  match wordP s 0 kindW with
  | .error x => .error x
  | .ok (k, i) => match restP s k i with
    | .error x => .error x
    | .ok (e, j) => if j < s.length then .error (j, 16) else .ok e
/-- A text, read. -/
def parseL (s : List UInt8) : Ed × Nat × Int :=
  match parseP s with
  | .error x => (ed0, x.1, x.2)
  | .ok e => (e, 0, 0)

theorem lcp_le (a b : List UInt8) : lcp a b ≤ a.length ∧ lcp a b ≤ b.length := by
  induction a generalizing b with
  | nil => simp [lcp]
  | cons x a ih =>
    cases b with
    | nil => simp [lcp]
    | cons y b =>
      simp only [lcp, List.length_cons]
      have := ih b
      split <;> omega
def sameEd (x y : Ed) : Prop := x.kind = y.kind ∧ x.a = y.a ∧ x.b = y.b ∧ x.c = y.c ∧ x.d = y.d ∧ x.body = y.body
instance (x y : Ed) : Decidable (sameEd x y) := by unfold sameEd; infer_instance
theorem sameEd_iff (x y : Ed) : sameEd x y ↔ x = y := by
  cases x; cases y; simp [sameEd]
def kindOk (e : Ed) : Prop := e.kind = 0 ∨ e.kind = 1 ∨ e.kind = 2 ∨ e.kind = 3 ∨ e.kind = 4 ∨ e.kind = 5
instance (e : Ed) : Decidable (kindOk e) := by unfold kindOk; infer_instance
/-- What the operation of an edit's kind answers. -/
def edOf (e : Ed) : Ed :=
  if e.kind = 0 then ⟨0, e.a, 0, 0, 0, []⟩ else if e.kind = 1 then ⟨1, e.a, e.b, e.c, e.d, []⟩ else if e.kind = 2 then ⟨2, e.a, e.b, e.c, e.d, []⟩
  else if e.kind = 3 then ⟨3, e.a, e.b, 0, 0, e.body⟩ else if e.kind = 4 then ⟨4, e.a, 0, 0, 0, []⟩ else ⟨5, 0, 0, 0, 0, e.body⟩
def rng (n : Int) : Prop := 0 ≤ n ∧ n ≤ 2147483647
instance (n : Int) : Decidable (rng n) := by unfold rng; infer_instance
/-- Is an edit clean? -/
def cleanP (e : Ed) : Prop := (kindOk e ∧ sameEd (edOf e) e) ∧ (rng e.a ∧ rng e.b ∧ rng e.c ∧ rng e.d) ∧ (e.kind = 0 → e.a < 8) ∧ (e.kind = 3 → e.b ≤ 255)
instance (e : Ed) : Decidable (cleanP e) := by unfold cleanP; infer_instance
end Go.Proofs.YtgibicifflfpfaaDoor
