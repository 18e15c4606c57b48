/-
  What the statements on buffers use. Conditions: none.
-/
import Derived.Test.YtdggcoaabohlmaaDoorC9
set_option autoImplicit false
set_option linter.unusedSimpArgs false
set_option linter.unusedVariables false
namespace Go.Proofs.YtdggcoaabohlmaaDoor
open X
set_option maxRecDepth 10000

theorem cutF_small (s : List UInt8) : ∀ f ∈ (cutF s).1, f.length ≤ 16781312 := by
  induction h : s.length using Nat.strongRecOn generalizing s with
  | _ n ih =>
    subst h
    rw [cutF]
    split
    · intro f hf; cases hf
    · split
      · intro f hf; cases hf
      · split
        · intro f hf; cases hf
        · rename_i h1 h2 h3
          intro f hf
          rcases List.mem_cons.1 hf with rfl | hf
          · rw [List.length_take, List.length_drop]; omega
          · exact ih _ (by simp only [List.length_drop]; omega) _ rfl f hf
/-- The two buffers, side by side. -/
structure Two (w : World) (p r : Nat) (ws : List (List UInt8)) (s : List UInt8) (br : Bool) : Prop where
  pb : PB w p (encs ws ++ s) (encs ws).length br
  rb : RB w r s ws br
  lt : p < r
  small : ∀ f ∈ ws, f.length ≤ 16781312
theorem Two.fr {w w' : World} {p r : Nat} {ws : List (List UInt8)} {s : List UInt8} {br : Bool} (h : Two w p r ws s br) (f : Fr X.no w w') : Two w' p r ws s br := by
  obtain ⟨h1, ⟨v, h2, h2'⟩, h3, h4⟩ := h
  exact ⟨h1.fr f (fun h => h), ⟨v, h2.fr f (fun h => h), h2'.fr f (fun _ _ _ h => h)⟩, h3, h4⟩
theorem RB.fr {S : Nat → Prop} {w w' : World} {b : Nat} {s : List UInt8} {ws : List (List UInt8)} {br : Bool} (h : RB w b s ws br) (f : Fr S w w') (hS : ∀ k, b ≤ k → ¬ S k) : RB w' b s ws br := by
  obtain ⟨v, h1, h2⟩ := h
  exact ⟨v, h1.fr f (hS b (Nat.le_refl _)), h2.fr f (fun k hk _ => hS k (by omega))⟩
theorem encs_len (ws : List (List UInt8)) : ws.length ≤ (encs ws).length := by
  induction ws with
  | nil => simp
  | cons w ws ih => rw [encs_cons, List.length_append, encF_len, List.length_cons]; omega
def strs (ls : List (List UInt8)) : List (Array Value) := ls.map fun s => #[fS s]
def u8v (ns : List Int) : List (Array Value) := ns.map fun n => #[.int .u8 n]
theorem strs_len (ls : List (List UInt8)) : (strs ls).length = ls.length := by simp [strs]
theorem u8v_len (ns : List Int) : (u8v ns).length = ns.length := by simp [u8v]

/-- What bytes that come make of a buffer. -/
def giv (ws : List (List UInt8)) (s : List UInt8) (br : Bool) (x : List UInt8) : Int × List (List UInt8) × List UInt8 × Bool :=
  if br = true then (20, ws, s, true) else (if (cutF (s ++ x)).2.2 = true then 11 else 0, ws ++ (cutF (s ++ x)).1, (cutF (s ++ x)).2.1, (cutF (s ++ x)).2.2)
theorem giv_len (ws : List (List UInt8)) (s : List UInt8) (br : Bool) (x : List UInt8) : (encs (giv ws s br x).2.1 ++ (giv ws s br x).2.2.1).length ≤ (encs ws ++ s).length + x.length := by
  unfold giv
  split
  · simp only; omega
  · simp only [encs_app, List.append_assoc]
    rw [← cutF_split]; simp only [List.length_append]; omega
theorem giv_small (ws : List (List UInt8)) (s : List UInt8) (br : Bool) (x : List UInt8) (h : ∀ f ∈ ws, f.length ≤ 16781312) : ∀ f ∈ (giv ws s br x).2.1, f.length ≤ 16781312 := by
  unfold giv
  split
  · exact h
  · intro f hf
    rcases List.mem_append.1 hf with hf | hf
    · exact h f hf
    · exact cutF_small _ f hf
theorem pGive (w : World) (p : Nat) (ws : List (List UInt8)) (s : List UInt8) (br : Bool) (x : List UInt8) (h : PB w p (encs ws ++ s) (encs ws).length br) (hl : (encs ws ++ s).length + x.length ≤ 1000000000) : Calls Tryd.prog 14 [.pointer (some ⟨p, 0, none⟩), .string (ba x)].toArray w fun e w' =>
    e = .returned (.int .i64 (giv ws s br x).1) ∧ Fr (· = p) w w' ∧ PB w' p (encs (giv ws s br x).2.1 ++ (giv ws s br x).2.2.1) (encs (giv ws s br x).2.1).length (giv ws s br x).2.2.2 := by
  cases br with
  | true =>
    refine calls_mono (Give_broken _ p _ _ h _) ?_
    rintro _ _ ⟨rfl, rfl⟩
    exact ⟨rfl, Fr.refl _ _, h⟩
  | false =>
    refine calls_mono (Give_any _ p _ x _ h (by rw [List.length_append]; omega) hl) ?_
    rintro _ w2 ⟨rfl, hf, h2⟩
    rw [List.drop_left] at *
    refine ⟨rfl, hf, ?_⟩
    show PB w2 p (encs (ws ++ (cutF (s ++ x)).1) ++ (cutF (s ++ x)).2.1) (encs (ws ++ (cutF (s ++ x)).1)).length (cutF (s ++ x)).2.2
    rw [encs_app, List.append_assoc, ← cutF_split, List.length_append, ← List.append_assoc]
    exact h2
theorem rGive (w : World) (r : Nat) (ws : List (List UInt8)) (s : List UInt8) (br : Bool) (x : List UInt8) (h : RB w r s ws br) (hl : (encs ws ++ s).length + x.length ≤ 1000000000) : Calls Tryd.prog 17 [.pointer (some ⟨r, 0, none⟩), .string (ba x)].toArray w fun e w' =>
    e = .returned (.int .i64 (giv ws s br x).1) ∧ Fr (fun k => r ≤ k) w w' ∧ RB w' r (giv ws s br x).2.2.1 (giv ws s br x).2.1 (giv ws s br x).2.2.2 := by
  cases br with
  | true =>
    refine calls_mono (rGive_broken _ r _ _ h _) ?_
    rintro _ _ ⟨rfl, rfl⟩
    exact ⟨rfl, Fr.refl _ _, h⟩
  | false =>
    refine calls_mono (rGive_any _ r s x ws h (by have := encs_len ws; rw [List.length_append] at hl; omega)) ?_
    rintro _ w2 ⟨rfl, hf, h2⟩
    exact ⟨rfl, hf, h2⟩
end Go.Proofs.YtdggcoaabohlmaaDoor
