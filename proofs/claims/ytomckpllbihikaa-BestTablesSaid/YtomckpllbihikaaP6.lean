/-
  Table: what it needs (plain).
-/
import Derived.Test.YtomckpllbihikaaP7
import Derived.Test.YtomckpllbihikaaXV
set_option autoImplicit false
set_option linter.unusedSimpArgs false
set_option linter.unusedVariables false
namespace Go.Proofs.Ytomckpllbihikaa
open X

def key (f : List Int) (x : Int) : Int := bits f x.toNat * 1000 + x
def tabN (f : List Int) : List Int := shLast (shT 240 (nT (bits f) 257))
def tabC (f : List Int) : List Int := (List.range 16).map fun l => g (tabN f) (l + 1)
def bytesOf (l : List Int) : ByteArray := ⟨(l.map fun x => UInt8.ofNat x.toNat).toArray⟩
def no16 : Value := .agg (ints .u8 (List.replicate 16 0))
def TabPost (w : World) (f : List Int) (e : Ending) (w' : World) : Prop :=
  Fr no w w' ∧ if badIn f = true then e = .returned (.tuple #[no16, .string ⟨#[]⟩, .int .i64 1]) else if ordL (bits f) 256 = [] then e = .returned (.tuple #[no16, .string ⟨#[]⟩, .int .i64 5]) else
    ∃ Z : List Int, Z.Perm (ordL (bits f) 256) ∧ Rise (key f) Z 0 Z.length ∧ e = .returned (.tuple #[.agg (ints .u8 (tabC f)), .string (bytesOf Z), .int .i64 0])
theorem z23 : zcells Try.prog 23 = ints .u8 (List.replicate 16 0) := by kernel_rfl

theorem z50 : zcells Try.prog 50 = ints .i64 (List.replicate 771 0) := by kernel_rfl
theorem z47 : zcells Try.prog 47 = #[.pointer none] := by kernel_rfl
theorem over_ints (k : IntKind) (l m : List Int) (h : m.length ≤ l.length) : over (ints k l) 0 (ints k m).toList = ints k (m ++ l.drop m.length) := by
  unfold over ints
  apply Array.ext'
  simp [List.map_drop]
theorem stN_ints {k : IntKind} {w : World} {b : Nat} {l m : List Int} {K : World → Prop} (ho : Own w b (ints k l)) (h : m.length ≤ l.length) (hk : K (w.setRow b (ints k (m ++ l.drop m.length)))) : StN w ⟨b, 0, none⟩ (ints k m).toList K := by
  refine stN_row ho (by simp [ints]; exact h) (fun v hv => ?_) (by rw [over_ints k l m h]; exact hk)
  simp only [ints, List.mem_map] at hv; obtain ⟨x, _, rfl⟩ := hv; rfl
theorem ldN_ints {k : IntKind} {w : World} {b n : Nat} {l : List Int} {K : Array Value → Prop} (ho : Row w b (ints k l)) (h : l.length = n) (hk : K (ints k l)) : LdN w ⟨b, 0, none⟩ n K := ldN_all ho (by rw [ints_size]; exact h) hk
theorem int_one {k : IntKind} {l : List Int} {v : Value} (h : v ∈ (ints k l).toList) : one v = true := by
  simp only [ints, List.mem_map] at h; obtain ⟨x, _, rfl⟩ := h; rfl
/-- The tree's numbers while next is filled. -/
def mT (f : List Int) (i : Nat) : List Int := f ++ 1 :: (List.replicate 257 0 ++ (List.replicate i (-1) ++ List.replicate (257 - i) 0))
theorem mT_len {f : List Int} (h : f.length = 256) {i : Nat} (hi : i ≤ 257) : (mT f i).length = 771 := by
  simp only [mT, List.length_append, List.length_cons, List.length_replicate, h]; omega
theorem mT_all (f : List Int) : mT f 257 = m0 f := by
  unfold mT m0
  have : List.replicate (257 - 257) (0 : Int) = [] := rfl
  rw [this, List.append_nil]
theorem set_app_right (a b : List Int) (k i : Nat) (v : Int) (h : a.length = k) : (a ++ b).set (k + i) v = a ++ b.set i v := by
  subst h; rw [List.set_append_right _ _ (by omega), Nat.add_sub_cancel_left]
theorem set_app_here (a b : List Int) (k : Nat) (u v : Int) (h : a.length = k) : (a ++ u :: b).set k v = a ++ v :: b := by
  have := set_app_right a (u :: b) k 0 v h
  rwa [List.set_cons_zero] at this
theorem mT_set {f : List Int} (h : f.length = 256) {i : Nat} (hi : i < 257) : (mT f i).set (514 + i) (-1) = mT f (i + 1) := by
  unfold mT
  have e1 : 514 + i = 256 + (257 + i + 1) := by omega
  have e2 : 257 - i = (257 - (i + 1)) + 1 := by omega
  have e3 : List.replicate i (-1 : Int) ++ (-1 : Int) :: List.replicate (257 - (i + 1)) 0 = List.replicate (i + 1) (-1) ++ List.replicate (257 - (i + 1)) 0 := by
    rw [List.replicate_succ', List.append_assoc]; rfl
  rw [e1, set_app_right _ _ 256 _ _ h, List.set_cons_succ, set_app_right _ _ 257 _ _ (by rw [List.length_replicate]), e2, List.replicate_succ (n := 257 - (i + 1)), set_app_here _ _ i _ _ (by rw [List.length_replicate]), e3]
theorem mT_base {f : List Int} (h : f.length = 256) : (f ++ (List.replicate 771 (0 : Int)).drop f.length).set 256 1 = mT f 0 := by
  have e2 : (List.replicate 771 (0 : Int)).drop 256 = 0 :: (List.replicate 257 0 ++ (List.replicate 0 (-1) ++ List.replicate (257 - 0) 0)) := by
    rw [List.drop_replicate, show 771 - 256 = 514 + 1 from rfl, List.replicate_succ (n := 514)]
    have : List.replicate (257 + 257) (0 : Int) = List.replicate 257 0 ++ List.replicate 257 0 := List.replicate_append_replicate.symm
    rw [show (514 : Nat) = 257 + 257 from rfl, this]; rfl
  rw [h, e2, set_app_here _ _ 256 _ _ h]; rfl

theorem one_cell (v : Value) : putc (zrep #[.int .i64 0] 1) 0 #[v] = #[v] := by kernel_rfl
theorem one_cell8 (v : Value) : putc (zrep #[.int .u8 0] 1) 0 #[v] = #[v] := by kernel_rfl
theorem one_size : (zrep #[Value.int .i64 0] 1).size = 1 := by kernel_rfl
theorem one_size8 : (zrep #[Value.int .u8 0] 1).size = 1 := by kernel_rfl
theorem z48 : zcells Try.prog 48 = ints .i64 (List.replicate 257 0) := by kernel_rfl
theorem z3 : zcells Try.prog 3 = #[.int .i64 0] := by kernel_rfl
theorem z5 : zcells Try.prog 5 = #[.int .u8 0] := by kernel_rfl
theorem nT_le {L : Nat → Int} (hL : ∀ x, L x ≤ 256) (i : Nat) : ∀ k, g (nT L k) i ≤ k
  | 0 => by
    simp only [nT]
    rcases Nat.lt_or_ge i 257 with h | h
    · rw [g_rep _ _ _ h]; exact Int.le_refl _
    · rw [g_far (by simp only [List.length_replicate]; exact h)]; exact Int.le_refl _
  | k + 1 => by rw [nT_g hL]; have := nT_le hL i k; split <;> omega
theorem ord_min {L : Nat → Int} {k : Nat} (h : k < 256) : ordL L (min (k + 1) 256) = if 0 < L k then ordL L (min k 256) ++ [(k : Int)] else ordL L (min k 256) := by
  rw [Nat.min_eq_left (by omega), Nat.min_eq_left (by omega)]; rfl
theorem ord_max {L : Nat → Int} {k : Nat} (h : 256 ≤ k) : ordL L (min (k + 1) 256) = ordL L (min k 256) := by
  rw [Nat.min_eq_right (by omega), Nat.min_eq_right (by omega)]
theorem tree_at {f : List Int} {k : Nat} (h : k < 257) : g (((tree f).take 514).drop 257) k = bits f k := by
  rw [g_take _ _ _ _ (by omega)]; unfold bits len; rw [if_pos h]
def Sym (x : Int) : Prop := ∃ y : Nat, x = y ∧ y < 257
def lenLt (f : List Int) (x y : Int) : Bool := decide (bits f x.toNat < bits f y.toNat)
theorem key_tells (f : List Int) : Tells Sym (lenLt f) (key f) := by
  rintro x y ⟨a, rfl, ha⟩ ⟨b, rfl, hb⟩ h
  simp only [lenLt, key, decide_eq_true_eq, Int.toNat_natCast]
  omega
def TreeAt (f : List Int) (bt : Nat) (w : World) : Prop := Row w (bt + 1) #[Value.pointer (some ⟨bt, 0, none⟩)] ∧ Row w bt (ints .i64 (tree f))
theorem fn21 : FnOk Try.prog 21 := by unfold FnOk; kernel_rfl
theorem key_cmp {f : List Int} (htl : (tree f).length = 771) (bt : Nat) : Cmp (.func (.func 21) #[] #[.pointer (some ⟨bt + 1, 0, none⟩)]) (TreeAt f bt) Sym (lenLt f) := by
  refine ⟨21, _, rfl, fn21, ?_⟩
  rintro w _ _ ⟨h6, ht⟩ ⟨x, rfl, hx⟩ ⟨y, rfl, hy⟩
  refine calls_mono (byLen_any w (bt + 1) bt (tree f) htl h6 ht x y hx hy) ?_
  rintro e w' ⟨h1, h2⟩
  refine ⟨_, h1, ?_, h2⟩
  simp only [lenLt, decide_eq_true_eq, Int.toNat_natCast, bits, len, if_pos hx, if_pos hy]
  unfold cmpI
  split
  · constructor
    · intro; assumption
    · intro; omega
  · split <;> constructor <;> intro h <;> omega
theorem tree_keeps (f : List Int) (bt b : Nat) (h1 : b ≠ bt) (h2 : b ≠ bt + 1) : Keeps (TreeAt f bt) b := fun w w' h hf => ⟨h.1.fr hf (fun e => h2 e.symm), h.2.fr hf (fun e => h1 e.symm)⟩
/-- The counts while they are filled. -/
def cT (N : List Int) (i : Nat) : List Int := (List.range i).map (fun l => g N (l + 1)) ++ List.replicate (16 - i) 0
theorem tabN_len (f : List Int) : (tabN f).length = 257 := by unfold tabN shLast; rw [upd_len, shT_len, nT_len]
theorem cT_len (N : List Int) {i : Nat} (h : i ≤ 16) : (cT N i).length = 16 := by
  simp only [cT, List.length_append, List.length_map, List.length_range, List.length_replicate]; omega
theorem cT_set (N : List Int) {i : Nat} (h : i < 16) : (cT N i).set i (g N (i + 1)) = cT N (i + 1) := by
  unfold cT
  have e : 16 - i = (16 - (i + 1)) + 1 := by omega
  rw [e, List.replicate_succ, set_app_here _ _ i _ _ (by simp), List.range_succ, List.map_append, List.append_assoc]; rfl
theorem cT_all (f : List Int) : cT (tabN f) 16 = tabC f := by unfold cT tabC; exact List.append_nil _
theorem take_g {Z : List Int} {k : Nat} (h : k < Z.length) : Z.take (k + 1) = Z.take k ++ [g Z k] := by
  rw [List.take_add_one, List.getElem?_eq_getElem h, g, List.getD_eq_getElem?_getD, List.getElem?_eq_getElem h]; rfl
theorem u8s_of : ∀ (l : List Int), u8s (l.map (Value.int .u8)) = some (l.map fun x => UInt8.ofNat x.toNat)
  | [] => rfl
  | x :: l => by simp only [List.map_cons, u8s, u8s_of l, Option.map_some]
end Go.Proofs.Ytomckpllbihikaa
