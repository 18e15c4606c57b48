/-
  The code of the sort functions, read.
-/
import Derived.Test.YtomckpllbihikaaProg
import Derived.Test.YtomckpllbihikaaX6
set_option autoImplicit false
namespace Go.Proofs.Ytomckpllbihikaa
open X
/-- The code of slices.SortStableFunc[[]int,int]. -/
def r20_0 : List G := [.op (.mov 4 (.tmp 0)) none,
  .op (.mov 5 (.tmp 0)) none,
  .op (.lenL 6 (.tmp 5)) none,
  .op (.mov 7 (.tmp 1)) none,
  .op (.call (some 8) 28 [(.tmp 4), (.tmp 6), (.tmp 7)]) none,
  .keep []]
def c20 : C := (.region r20_0)
theorem x20 : (∀ (K : Env → World → Prop) (pan : List PanicEntry → World → Prop) (e : Env) (w : World), vcOps Try.prog r20_0 K pan e w = vcOps Try.prog [.op (.mov 4 (.tmp 0)) none, .op (.mov 5 (.tmp 0)) none, .op (.lenL 6 (.tmp 5)) none, .op (.mov 7 (.tmp 1)) none, .op (.call (some 8) 28 [(.tmp 4), (.tmp 6), (.tmp 7)]) none, .keep []] K pan e w) := fun _ _ _ _ => rfl
theorem low20 : Try.f20.body.bind (lowerC Try.prog 9 (fun _ => none)) = some c20.erase := by kernel_rfl
theorem enter20 {args : List Value} {w : World} {R : Ending → World → Prop} (ha : args.length ≤ 9) (h : vc Try.prog c20 (endPost [] R) (argEnv 0 args) w) : Calls Try.prog 20 args.toArray w R :=
  calls_of_vc Try.func20 rfl low20 rfl ha h
/-- The code of aquatint/best.Table$1. -/
def r21_0 : List G := [.op (.mov 5 (.const (.int .i64 0))) none,
  .keep [0, 1, 2]]
def r21_1 : List G := [.op (.load 6 (.tmp 2)) none,
  .op (.mov 7 (.tmp 0)) none,
  .op (.nilCheck 8 (.tmp 6)) none,
  .op (.faddr 9 257 (.tmp 8)) none,
  .op (.iaddrA 10 257 1 (.tmp 9) (.tmp 7)) none,
  .op (.load 11 (.tmp 10)) none,
  .op (.load 12 (.tmp 2)) none,
  .op (.mov 13 (.tmp 1)) none,
  .op (.nilCheck 14 (.tmp 12)) none,
  .op (.faddr 15 257 (.tmp 14)) none,
  .op (.iaddrA 16 257 1 (.tmp 15) (.tmp 13)) none,
  .op (.load 17 (.tmp 16)) none,
  .op (.call (some 18) 22 [(.tmp 11), (.tmp 17)]) none,
  .op (.mov 5 (.tmp 18)) none,
  .keep [5]]
def c21 : C := (.seq (.region r21_0) (.seq (.regionD r21_1) .ret))
theorem x21 : (∀ (K : Env → World → Prop) (pan : List PanicEntry → World → Prop) (e : Env) (w : World), vcOps Try.prog r21_0 K pan e w = vcOps Try.prog [.op (.mov 5 (.const (.int .i64 0))) none, .keep [0, 1, 2]] K pan e w) ∧
  (∀ (K : Env → World → Prop) (pan : List PanicEntry → World → Prop) (e : Env) (w : World), vcOps Try.prog r21_1 K pan e w = vcOps Try.prog [.op (.load 6 (.tmp 2)) none, .op (.mov 7 (.tmp 0)) none, .op (.nilCheck 8 (.tmp 6)) none, .op (.faddr 9 257 (.tmp 8)) none, .op (.iaddrA 10 257 1 (.tmp 9) (.tmp 7)) none, .op (.load 11 (.tmp 10)) none, .op (.load 12 (.tmp 2)) none, .op (.mov 13 (.tmp 1)) none, .op (.nilCheck 14 (.tmp 12)) none, .op (.faddr 15 257 (.tmp 14)) none, .op (.iaddrA 16 257 1 (.tmp 15) (.tmp 13)) none, .op (.load 17 (.tmp 16)) none, .op (.call (some 18) 22 [(.tmp 11), (.tmp 17)]) none, .op (.mov 5 (.tmp 18)) none, .keep [5]] K pan e w) := ⟨fun _ _ _ _ => rfl, fun _ _ _ _ => rfl⟩
theorem low21 : Try.f21.body.bind (lowerC Try.prog 19 (fun i => List.lookup i [(1, [(0, 0), (1, 0), (2, 0), (3, 0), (4, 0), (5, 0), (6, 0), (7, 0), (8, 0), (9, 0), (10, 0), (11, 0), (12, 0), (13, 0)])])) = some c21.erase := by kernel_rfl
theorem enter21 {args : List Value} {w : World} {R : Ending → World → Prop} (ha : args.length ≤ 19) (h : vc Try.prog c21 (endPost [.t 5] R) (argEnv 0 args) w) : Calls Try.prog 21 args.toArray w R :=
  calls_of_vc Try.func21 rfl low21 rfl ha h
/-- The code of cmp.Compare[int]. -/
def r22_0 : List G := [.op (.mov 4 (.const (.int .i64 0))) none,
  .keep [0, 1]]
def r22_1 : List G := [.op (.mov 7 (.tmp 0)) none,
  .op (.call (some 8) 29 [(.tmp 7)]) none,
  .op (.mov 5 (.tmp 8)) none,
  .keep [0, 1, 5]]
def r22_2 : List G := [.op (.mov 9 (.tmp 1)) none,
  .op (.call (some 10) 29 [(.tmp 9)]) none,
  .op (.mov 6 (.tmp 10)) none,
  .keep [0, 1, 5, 6]]
def r22_3 : List G := [.op (.mov 11 (.tmp 5)) none,
  .keep [0, 1, 6, 11]]
def r22_4 : List G := [.op (.mov 12 (.tmp 6)) none,
  .keep [12]]
def r22_5 : List G := [.op (.mov 4 (.const (.int .i64 0))) none,
  .keep [4]]
def r22_6 : List G := [.op (.mov 4 (.const (.int .i64 (-1)))) none,
  .keep [4]]
def r22_7 : List G := [.op (.mov 13 (.tmp 6)) none,
  .keep [0, 1, 13]]
def r22_8 : List G := [.op (.mov 4 (.const (.int .i64 1))) none,
  .keep [4]]
def r22_9 : List G := [.op (.mov 14 (.tmp 0)) none,
  .op (.mov 15 (.tmp 1)) none,
  .op (.ari 16 .lss .i64 (.tmp 14) (.tmp 15)) none,
  .keep [0, 1, 16]]
def r22_10 : List G := [.op (.mov 4 (.const (.int .i64 (-1)))) none,
  .keep [4]]
def r22_11 : List G := [.op (.mov 17 (.tmp 0)) none,
  .op (.mov 18 (.tmp 1)) none,
  .op (.ari 19 .gtr .i64 (.tmp 17) (.tmp 18)) none,
  .keep [19]]
def r22_12 : List G := [.op (.mov 4 (.const (.int .i64 1))) none,
  .keep [4]]
def r22_13 : List G := [.op (.mov 4 (.const (.int .i64 0))) none,
  .keep [4]]
def c22 : C := (.seq (.region r22_0) (.seq (.region r22_1) (.seq (.region r22_2) (.seq (.seq (.region r22_3) (.cond (.tmp 11) (.seq (.seq (.region r22_4) (.cond (.tmp 12) (.seq (.region r22_5) .ret) .skip)) (.seq (.region r22_6) .ret)) .skip)) (.seq (.seq (.region r22_7) (.cond (.tmp 13) (.seq (.region r22_8) .ret) .skip)) (.seq (.seq (.region r22_9) (.cond (.tmp 16) (.seq (.region r22_10) .ret) .skip)) (.seq (.seq (.region r22_11) (.cond (.tmp 19) (.seq (.region r22_12) .ret) .skip)) (.seq (.region r22_13) .ret))))))))
theorem x22 : (∀ (K : Env → World → Prop) (pan : List PanicEntry → World → Prop) (e : Env) (w : World), vcOps Try.prog r22_0 K pan e w = vcOps Try.prog [.op (.mov 4 (.const (.int .i64 0))) none, .keep [0, 1]] K pan e w) ∧
  (∀ (K : Env → World → Prop) (pan : List PanicEntry → World → Prop) (e : Env) (w : World), vcOps Try.prog r22_1 K pan e w = vcOps Try.prog [.op (.mov 7 (.tmp 0)) none, .op (.call (some 8) 29 [(.tmp 7)]) none, .op (.mov 5 (.tmp 8)) none, .keep [0, 1, 5]] K pan e w) ∧
  (∀ (K : Env → World → Prop) (pan : List PanicEntry → World → Prop) (e : Env) (w : World), vcOps Try.prog r22_2 K pan e w = vcOps Try.prog [.op (.mov 9 (.tmp 1)) none, .op (.call (some 10) 29 [(.tmp 9)]) none, .op (.mov 6 (.tmp 10)) none, .keep [0, 1, 5, 6]] K pan e w) ∧
  (∀ (K : Env → World → Prop) (pan : List PanicEntry → World → Prop) (e : Env) (w : World), vcOps Try.prog r22_3 K pan e w = vcOps Try.prog [.op (.mov 11 (.tmp 5)) none, .keep [0, 1, 6, 11]] K pan e w) ∧
  (∀ (K : Env → World → Prop) (pan : List PanicEntry → World → Prop) (e : Env) (w : World), vcOps Try.prog r22_4 K pan e w = vcOps Try.prog [.op (.mov 12 (.tmp 6)) none, .keep [12]] K pan e w) ∧
  (∀ (K : Env → World → Prop) (pan : List PanicEntry → World → Prop) (e : Env) (w : World), vcOps Try.prog r22_5 K pan e w = vcOps Try.prog [.op (.mov 4 (.const (.int .i64 0))) none, .keep [4]] K pan e w) ∧
  (∀ (K : Env → World → Prop) (pan : List PanicEntry → World → Prop) (e : Env) (w : World), vcOps Try.prog r22_6 K pan e w = vcOps Try.prog [.op (.mov 4 (.const (.int .i64 (-1)))) none, .keep [4]] K pan e w) ∧
  (∀ (K : Env → World → Prop) (pan : List PanicEntry → World → Prop) (e : Env) (w : World), vcOps Try.prog r22_7 K pan e w = vcOps Try.prog [.op (.mov 13 (.tmp 6)) none, .keep [0, 1, 13]] K pan e w) ∧
  (∀ (K : Env → World → Prop) (pan : List PanicEntry → World → Prop) (e : Env) (w : World), vcOps Try.prog r22_8 K pan e w = vcOps Try.prog [.op (.mov 4 (.const (.int .i64 1))) none, .keep [4]] K pan e w) ∧
  (∀ (K : Env → World → Prop) (pan : List PanicEntry → World → Prop) (e : Env) (w : World), vcOps Try.prog r22_9 K pan e w = vcOps Try.prog [.op (.mov 14 (.tmp 0)) none, .op (.mov 15 (.tmp 1)) none, .op (.ari 16 .lss .i64 (.tmp 14) (.tmp 15)) none, .keep [0, 1, 16]] K pan e w) ∧
  (∀ (K : Env → World → Prop) (pan : List PanicEntry → World → Prop) (e : Env) (w : World), vcOps Try.prog r22_10 K pan e w = vcOps Try.prog [.op (.mov 4 (.const (.int .i64 (-1)))) none, .keep [4]] K pan e w) ∧
  (∀ (K : Env → World → Prop) (pan : List PanicEntry → World → Prop) (e : Env) (w : World), vcOps Try.prog r22_11 K pan e w = vcOps Try.prog [.op (.mov 17 (.tmp 0)) none, .op (.mov 18 (.tmp 1)) none, .op (.ari 19 .gtr .i64 (.tmp 17) (.tmp 18)) none, .keep [19]] K pan e w) ∧
  (∀ (K : Env → World → Prop) (pan : List PanicEntry → World → Prop) (e : Env) (w : World), vcOps Try.prog r22_12 K pan e w = vcOps Try.prog [.op (.mov 4 (.const (.int .i64 1))) none, .keep [4]] K pan e w) ∧
  (∀ (K : Env → World → Prop) (pan : List PanicEntry → World → Prop) (e : Env) (w : World), vcOps Try.prog r22_13 K pan e w = vcOps Try.prog [.op (.mov 4 (.const (.int .i64 0))) none, .keep [4]] K pan e w) := ⟨fun _ _ _ _ => rfl, fun _ _ _ _ => rfl, fun _ _ _ _ => rfl, fun _ _ _ _ => rfl, fun _ _ _ _ => rfl, fun _ _ _ _ => rfl, fun _ _ _ _ => rfl, fun _ _ _ _ => rfl, fun _ _ _ _ => rfl, fun _ _ _ _ => rfl, fun _ _ _ _ => rfl, fun _ _ _ _ => rfl, fun _ _ _ _ => rfl, fun _ _ _ _ => rfl⟩
theorem low22 : Try.f22.body.bind (lowerC Try.prog 20 (fun _ => none)) = some c22.erase := by kernel_rfl
theorem enter22 {args : List Value} {w : World} {R : Ending → World → Prop} (ha : args.length ≤ 20) (h : vc Try.prog c22 (endPost [.t 4] R) (argEnv 0 args) w) : Calls Try.prog 22 args.toArray w R :=
  calls_of_vc Try.func22 rfl low22 rfl ha h
/-- The code of slices.ContainsFunc[[]int,int]. -/
def r24_0 : List G := [.op (.mov 4 (.const (.bool false))) none,
  .keep [0, 1]]
def r24_1 : List G := [.op (.mov 5 (.tmp 0)) none,
  .op (.mov 6 (.tmp 1)) none,
  .op (.call (some 7) 31 [(.tmp 5), (.tmp 6)]) none,
  .op (.ari 8 .geq .i64 (.tmp 7) (.const (.int .i64 0))) none,
  .op (.mov 4 (.tmp 8)) none,
  .keep [4]]
def c24 : C := (.seq (.region r24_0) (.seq (.region r24_1) .ret))
theorem x24 : (∀ (K : Env → World → Prop) (pan : List PanicEntry → World → Prop) (e : Env) (w : World), vcOps Try.prog r24_0 K pan e w = vcOps Try.prog [.op (.mov 4 (.const (.bool false))) none, .keep [0, 1]] K pan e w) ∧
  (∀ (K : Env → World → Prop) (pan : List PanicEntry → World → Prop) (e : Env) (w : World), vcOps Try.prog r24_1 K pan e w = vcOps Try.prog [.op (.mov 5 (.tmp 0)) none, .op (.mov 6 (.tmp 1)) none, .op (.call (some 7) 31 [(.tmp 5), (.tmp 6)]) none, .op (.ari 8 .geq .i64 (.tmp 7) (.const (.int .i64 0))) none, .op (.mov 4 (.tmp 8)) none, .keep [4]] K pan e w) := ⟨fun _ _ _ _ => rfl, fun _ _ _ _ => rfl⟩
theorem low24 : Try.f24.body.bind (lowerC Try.prog 9 (fun _ => none)) = some c24.erase := by kernel_rfl
theorem enter24 {args : List Value} {w : World} {R : Ending → World → Prop} (ha : args.length ≤ 9) (h : vc Try.prog c24 (endPost [.t 4] R) (argEnv 0 args) w) : Calls Try.prog 24 args.toArray w R :=
  calls_of_vc Try.func24 rfl low24 rfl ha h
/-- The code of aquatint/best.right$1. -/
def r25_0 : List G := [.op (.mov 2 (.const (.bool false))) none,
  .keep [0]]
def r25_1 : List G := [.op (.mov 3 (.tmp 0)) none,
  .op (.ari 4 .lss .i64 (.tmp 3) (.const (.int .i64 0))) none,
  .op (.mov 5 (.tmp 4)) none,
  .op (.mov 6 (.tmp 0)) (some (5, false)),
  .op (.ari 7 .gtr .i64 (.tmp 6) (.const (.int .i64 1099511627776))) (some (5, false)),
  .op (.pick 8 (.tmp 5) (.const (.bool true)) (.tmp 7)) none,
  .op (.mov 2 (.tmp 8)) none,
  .keep [2]]
def c25 : C := (.seq (.region r25_0) (.seq (.region r25_1) .ret))
theorem x25 : (∀ (K : Env → World → Prop) (pan : List PanicEntry → World → Prop) (e : Env) (w : World), vcOps Try.prog r25_0 K pan e w = vcOps Try.prog [.op (.mov 2 (.const (.bool false))) none, .keep [0]] K pan e w) ∧
  (∀ (K : Env → World → Prop) (pan : List PanicEntry → World → Prop) (e : Env) (w : World), vcOps Try.prog r25_1 K pan e w = vcOps Try.prog [.op (.mov 3 (.tmp 0)) none, .op (.ari 4 .lss .i64 (.tmp 3) (.const (.int .i64 0))) none, .op (.mov 5 (.tmp 4)) none, .op (.mov 6 (.tmp 0)) (some (5, false)), .op (.ari 7 .gtr .i64 (.tmp 6) (.const (.int .i64 1099511627776))) (some (5, false)), .op (.pick 8 (.tmp 5) (.const (.bool true)) (.tmp 7)) none, .op (.mov 2 (.tmp 8)) none, .keep [2]] K pan e w) := ⟨fun _ _ _ _ => rfl, fun _ _ _ _ => rfl⟩
theorem low25 : Try.f25.body.bind (lowerC Try.prog 9 (fun _ => none)) = some c25.erase := by kernel_rfl
theorem enter25 {args : List Value} {w : World} {R : Ending → World → Prop} (ha : args.length ≤ 9) (h : vc Try.prog c25 (endPost [.t 2] R) (argEnv 0 args) w) : Calls Try.prog 25 args.toArray w R :=
  calls_of_vc Try.func25 rfl low25 rfl ha h
/-- The code of slices.stableCmpFunc[int]. -/
def r28_0 : List G := [.op (.mov 6 (.const (.int .i64 20))) none,
  .keep [0, 1, 2, 6]]
def r28_1 : List G := [.op (.mov 10 (.tmp 6)) none,
  .op (.mov 7 (.const (.int .i64 0))) none,
  .op (.mov 8 (.tmp 10)) none,
  .keep [0, 1, 2, 6, 7, 8]]
def r28_2 : List G := [.op (.mov 11 (.tmp 8)) none,
  .op (.mov 12 (.tmp 1)) none,
  .op (.ari 13 .leq .i64 (.tmp 11) (.tmp 12)) none,
  .keep [0, 1, 2, 6, 7, 8, 13]]
def r28_3 : List G := [.op (.mov 14 (.tmp 0)) none,
  .op (.mov 15 (.tmp 7)) none,
  .op (.mov 16 (.tmp 8)) none,
  .op (.mov 17 (.tmp 2)) none,
  .op (.call (some 18) 32 [(.tmp 14), (.tmp 15), (.tmp 16), (.tmp 17)]) none,
  .keep [0, 1, 2, 6, 8]]
def r28_4 : List G := [.op (.mov 19 (.tmp 8)) none,
  .op (.mov 7 (.tmp 19)) none,
  .keep [0, 1, 2, 6, 7, 8]]
def r28_5 : List G := [.op (.mov 20 (.tmp 8)) none,
  .op (.mov 21 (.tmp 6)) none,
  .op (.ari 22 .add .i64 (.tmp 20) (.tmp 21)) none,
  .op (.mov 8 (.tmp 22)) none,
  .keep [0, 1, 2, 6, 7, 8]]
def r28_6 : List G := [.op (.mov 23 (.tmp 0)) none,
  .op (.mov 24 (.tmp 7)) none,
  .op (.mov 25 (.tmp 1)) none,
  .op (.mov 26 (.tmp 2)) none,
  .op (.call (some 27) 32 [(.tmp 23), (.tmp 24), (.tmp 25), (.tmp 26)]) none,
  .keep [0, 1, 2, 6]]
def r28_7 : List G := [.op (.mov 28 (.tmp 6)) none,
  .op (.mov 29 (.tmp 1)) none,
  .op (.ari 30 .lss .i64 (.tmp 28) (.tmp 29)) none,
  .keep [0, 1, 2, 6, 30]]
def r28_8 : List G := [.op (.mov 31 (.tmp 6)) none,
  .op (.ari 32 .mul .i64 (.const (.int .i64 2)) (.tmp 31)) none,
  .op (.mov 7 (.const (.int .i64 0))) none,
  .op (.mov 8 (.tmp 32)) none,
  .keep [0, 1, 2, 6, 7, 8]]
def r28_9 : List G := [.op (.mov 33 (.tmp 8)) none,
  .op (.mov 34 (.tmp 1)) none,
  .op (.ari 35 .leq .i64 (.tmp 33) (.tmp 34)) none,
  .keep [0, 1, 2, 6, 7, 8, 35]]
def r28_10 : List G := [.op (.mov 36 (.tmp 0)) none,
  .op (.mov 37 (.tmp 7)) none,
  .op (.mov 38 (.tmp 7)) none,
  .op (.mov 39 (.tmp 6)) none,
  .op (.ari 40 .add .i64 (.tmp 38) (.tmp 39)) none,
  .op (.mov 41 (.tmp 8)) none,
  .op (.mov 42 (.tmp 2)) none,
  .op (.call (some 43) 33 [(.tmp 36), (.tmp 37), (.tmp 40), (.tmp 41), (.tmp 42)]) none,
  .keep [0, 1, 2, 6, 8]]
def r28_11 : List G := [.op (.mov 44 (.tmp 8)) none,
  .op (.mov 7 (.tmp 44)) none,
  .keep [0, 1, 2, 6, 7, 8]]
def r28_12 : List G := [.op (.mov 45 (.tmp 8)) none,
  .op (.mov 46 (.tmp 6)) none,
  .op (.ari 47 .mul .i64 (.const (.int .i64 2)) (.tmp 46)) none,
  .op (.ari 48 .add .i64 (.tmp 45) (.tmp 47)) none,
  .op (.mov 8 (.tmp 48)) none,
  .keep [0, 1, 2, 6, 7, 8]]
def r28_13 : List G := [.op (.mov 49 (.tmp 7)) none,
  .op (.mov 50 (.tmp 6)) none,
  .op (.ari 51 .add .i64 (.tmp 49) (.tmp 50)) none,
  .op (.mov 9 (.tmp 51)) none,
  .keep [0, 1, 2, 6, 7, 9]]
def r28_14 : List G := [.op (.mov 52 (.tmp 9)) none,
  .op (.mov 53 (.tmp 1)) none,
  .op (.ari 54 .lss .i64 (.tmp 52) (.tmp 53)) none,
  .keep [0, 1, 2, 6, 7, 9, 54]]
def r28_15 : List G := [.op (.mov 55 (.tmp 0)) none,
  .op (.mov 56 (.tmp 7)) none,
  .op (.mov 57 (.tmp 9)) none,
  .op (.mov 58 (.tmp 1)) none,
  .op (.mov 59 (.tmp 2)) none,
  .op (.call (some 60) 33 [(.tmp 55), (.tmp 56), (.tmp 57), (.tmp 58), (.tmp 59)]) none,
  .keep [0, 1, 2, 6]]
def r28_16 : List G := [.op (.mov 61 (.tmp 6)) none,
  .op (.ari 62 .mul .i64 (.tmp 61) (.const (.int .i64 2))) none,
  .op (.mov 6 (.tmp 62)) none,
  .keep [0, 1, 2, 6]]
def c28 : C := (.seq (.region r28_0) (.seq (.region r28_1) (.seq (.block 0 (.loop (.seq (.seq (.region r28_2) (.cond (.tmp 13) .skip (.exit 0))) (.block 1 (.seq (.region r28_3) (.seq (.region r28_4) (.region r28_5))))))) (.seq (.region r28_6) (.block 2 (.loop (.seq (.seq (.region r28_7) (.cond (.tmp 30) .skip (.exit 2))) (.block 3 (.seq (.region r28_8) (.seq (.block 4 (.loop (.seq (.seq (.region r28_9) (.cond (.tmp 35) .skip (.exit 4))) (.block 5 (.seq (.region r28_10) (.seq (.region r28_11) (.region r28_12))))))) (.seq (.seq (.region r28_13) (.seq (.region r28_14) (.cond (.tmp 54) (.region r28_15) .skip))) (.region r28_16))))))))))))
theorem x28 : (∀ (K : Env → World → Prop) (pan : List PanicEntry → World → Prop) (e : Env) (w : World), vcOps Try.prog r28_0 K pan e w = vcOps Try.prog [.op (.mov 6 (.const (.int .i64 20))) none, .keep [0, 1, 2, 6]] K pan e w) ∧
  (∀ (K : Env → World → Prop) (pan : List PanicEntry → World → Prop) (e : Env) (w : World), vcOps Try.prog r28_1 K pan e w = vcOps Try.prog [.op (.mov 10 (.tmp 6)) none, .op (.mov 7 (.const (.int .i64 0))) none, .op (.mov 8 (.tmp 10)) none, .keep [0, 1, 2, 6, 7, 8]] K pan e w) ∧
  (∀ (K : Env → World → Prop) (pan : List PanicEntry → World → Prop) (e : Env) (w : World), vcOps Try.prog r28_2 K pan e w = vcOps Try.prog [.op (.mov 11 (.tmp 8)) none, .op (.mov 12 (.tmp 1)) none, .op (.ari 13 .leq .i64 (.tmp 11) (.tmp 12)) none, .keep [0, 1, 2, 6, 7, 8, 13]] K pan e w) ∧
  (∀ (K : Env → World → Prop) (pan : List PanicEntry → World → Prop) (e : Env) (w : World), vcOps Try.prog r28_3 K pan e w = vcOps Try.prog [.op (.mov 14 (.tmp 0)) none, .op (.mov 15 (.tmp 7)) none, .op (.mov 16 (.tmp 8)) none, .op (.mov 17 (.tmp 2)) none, .op (.call (some 18) 32 [(.tmp 14), (.tmp 15), (.tmp 16), (.tmp 17)]) none, .keep [0, 1, 2, 6, 8]] K pan e w) ∧
  (∀ (K : Env → World → Prop) (pan : List PanicEntry → World → Prop) (e : Env) (w : World), vcOps Try.prog r28_4 K pan e w = vcOps Try.prog [.op (.mov 19 (.tmp 8)) none, .op (.mov 7 (.tmp 19)) none, .keep [0, 1, 2, 6, 7, 8]] K pan e w) ∧
  (∀ (K : Env → World → Prop) (pan : List PanicEntry → World → Prop) (e : Env) (w : World), vcOps Try.prog r28_5 K pan e w = vcOps Try.prog [.op (.mov 20 (.tmp 8)) none, .op (.mov 21 (.tmp 6)) none, .op (.ari 22 .add .i64 (.tmp 20) (.tmp 21)) none, .op (.mov 8 (.tmp 22)) none, .keep [0, 1, 2, 6, 7, 8]] K pan e w) ∧
  (∀ (K : Env → World → Prop) (pan : List PanicEntry → World → Prop) (e : Env) (w : World), vcOps Try.prog r28_6 K pan e w = vcOps Try.prog [.op (.mov 23 (.tmp 0)) none, .op (.mov 24 (.tmp 7)) none, .op (.mov 25 (.tmp 1)) none, .op (.mov 26 (.tmp 2)) none, .op (.call (some 27) 32 [(.tmp 23), (.tmp 24), (.tmp 25), (.tmp 26)]) none, .keep [0, 1, 2, 6]] K pan e w) ∧
  (∀ (K : Env → World → Prop) (pan : List PanicEntry → World → Prop) (e : Env) (w : World), vcOps Try.prog r28_7 K pan e w = vcOps Try.prog [.op (.mov 28 (.tmp 6)) none, .op (.mov 29 (.tmp 1)) none, .op (.ari 30 .lss .i64 (.tmp 28) (.tmp 29)) none, .keep [0, 1, 2, 6, 30]] K pan e w) ∧
  (∀ (K : Env → World → Prop) (pan : List PanicEntry → World → Prop) (e : Env) (w : World), vcOps Try.prog r28_8 K pan e w = vcOps Try.prog [.op (.mov 31 (.tmp 6)) none, .op (.ari 32 .mul .i64 (.const (.int .i64 2)) (.tmp 31)) none, .op (.mov 7 (.const (.int .i64 0))) none, .op (.mov 8 (.tmp 32)) none, .keep [0, 1, 2, 6, 7, 8]] K pan e w) ∧
  (∀ (K : Env → World → Prop) (pan : List PanicEntry → World → Prop) (e : Env) (w : World), vcOps Try.prog r28_9 K pan e w = vcOps Try.prog [.op (.mov 33 (.tmp 8)) none, .op (.mov 34 (.tmp 1)) none, .op (.ari 35 .leq .i64 (.tmp 33) (.tmp 34)) none, .keep [0, 1, 2, 6, 7, 8, 35]] K pan e w) ∧
  (∀ (K : Env → World → Prop) (pan : List PanicEntry → World → Prop) (e : Env) (w : World), vcOps Try.prog r28_10 K pan e w = vcOps Try.prog [.op (.mov 36 (.tmp 0)) none, .op (.mov 37 (.tmp 7)) none, .op (.mov 38 (.tmp 7)) none, .op (.mov 39 (.tmp 6)) none, .op (.ari 40 .add .i64 (.tmp 38) (.tmp 39)) none, .op (.mov 41 (.tmp 8)) none, .op (.mov 42 (.tmp 2)) none, .op (.call (some 43) 33 [(.tmp 36), (.tmp 37), (.tmp 40), (.tmp 41), (.tmp 42)]) none, .keep [0, 1, 2, 6, 8]] K pan e w) ∧
  (∀ (K : Env → World → Prop) (pan : List PanicEntry → World → Prop) (e : Env) (w : World), vcOps Try.prog r28_11 K pan e w = vcOps Try.prog [.op (.mov 44 (.tmp 8)) none, .op (.mov 7 (.tmp 44)) none, .keep [0, 1, 2, 6, 7, 8]] K pan e w) ∧
  (∀ (K : Env → World → Prop) (pan : List PanicEntry → World → Prop) (e : Env) (w : World), vcOps Try.prog r28_12 K pan e w = vcOps Try.prog [.op (.mov 45 (.tmp 8)) none, .op (.mov 46 (.tmp 6)) none, .op (.ari 47 .mul .i64 (.const (.int .i64 2)) (.tmp 46)) none, .op (.ari 48 .add .i64 (.tmp 45) (.tmp 47)) none, .op (.mov 8 (.tmp 48)) none, .keep [0, 1, 2, 6, 7, 8]] K pan e w) ∧
  (∀ (K : Env → World → Prop) (pan : List PanicEntry → World → Prop) (e : Env) (w : World), vcOps Try.prog r28_13 K pan e w = vcOps Try.prog [.op (.mov 49 (.tmp 7)) none, .op (.mov 50 (.tmp 6)) none, .op (.ari 51 .add .i64 (.tmp 49) (.tmp 50)) none, .op (.mov 9 (.tmp 51)) none, .keep [0, 1, 2, 6, 7, 9]] K pan e w) ∧
  (∀ (K : Env → World → Prop) (pan : List PanicEntry → World → Prop) (e : Env) (w : World), vcOps Try.prog r28_14 K pan e w = vcOps Try.prog [.op (.mov 52 (.tmp 9)) none, .op (.mov 53 (.tmp 1)) none, .op (.ari 54 .lss .i64 (.tmp 52) (.tmp 53)) none, .keep [0, 1, 2, 6, 7, 9, 54]] K pan e w) ∧
  (∀ (K : Env → World → Prop) (pan : List PanicEntry → World → Prop) (e : Env) (w : World), vcOps Try.prog r28_15 K pan e w = vcOps Try.prog [.op (.mov 55 (.tmp 0)) none, .op (.mov 56 (.tmp 7)) none, .op (.mov 57 (.tmp 9)) none, .op (.mov 58 (.tmp 1)) none, .op (.mov 59 (.tmp 2)) none, .op (.call (some 60) 33 [(.tmp 55), (.tmp 56), (.tmp 57), (.tmp 58), (.tmp 59)]) none, .keep [0, 1, 2, 6]] K pan e w) ∧
  (∀ (K : Env → World → Prop) (pan : List PanicEntry → World → Prop) (e : Env) (w : World), vcOps Try.prog r28_16 K pan e w = vcOps Try.prog [.op (.mov 61 (.tmp 6)) none, .op (.ari 62 .mul .i64 (.tmp 61) (.const (.int .i64 2))) none, .op (.mov 6 (.tmp 62)) none, .keep [0, 1, 2, 6]] K pan e w) := ⟨fun _ _ _ _ => rfl, fun _ _ _ _ => rfl, fun _ _ _ _ => rfl, fun _ _ _ _ => rfl, fun _ _ _ _ => rfl, fun _ _ _ _ => rfl, fun _ _ _ _ => rfl, fun _ _ _ _ => rfl, fun _ _ _ _ => rfl, fun _ _ _ _ => rfl, fun _ _ _ _ => rfl, fun _ _ _ _ => rfl, fun _ _ _ _ => rfl, fun _ _ _ _ => rfl, fun _ _ _ _ => rfl, fun _ _ _ _ => rfl, fun _ _ _ _ => rfl⟩
theorem low28 : Try.f28.body.bind (lowerC Try.prog 63 (fun _ => none)) = some c28.erase := by kernel_rfl
theorem enter28 {args : List Value} {w : World} {R : Ending → World → Prop} (ha : args.length ≤ 63) (h : vc Try.prog c28 (endPost [] R) (argEnv 0 args) w) : Calls Try.prog 28 args.toArray w R :=
  calls_of_vc Try.func28 rfl low28 rfl ha h
/-- The code of cmp.isNaN[int]. -/
def r29_0 : List G := [.op (.mov 2 (.const (.bool false))) none,
  .keep [0]]
def r29_1 : List G := [.op (.mov 3 (.tmp 0)) none,
  .op (.mov 4 (.tmp 0)) none,
  .op (.ari 5 .neq .i64 (.tmp 3) (.tmp 4)) none,
  .op (.mov 2 (.tmp 5)) none,
  .keep [2]]
def c29 : C := (.seq (.region r29_0) (.seq (.region r29_1) .ret))
theorem x29 : (∀ (K : Env → World → Prop) (pan : List PanicEntry → World → Prop) (e : Env) (w : World), vcOps Try.prog r29_0 K pan e w = vcOps Try.prog [.op (.mov 2 (.const (.bool false))) none, .keep [0]] K pan e w) ∧
  (∀ (K : Env → World → Prop) (pan : List PanicEntry → World → Prop) (e : Env) (w : World), vcOps Try.prog r29_1 K pan e w = vcOps Try.prog [.op (.mov 3 (.tmp 0)) none, .op (.mov 4 (.tmp 0)) none, .op (.ari 5 .neq .i64 (.tmp 3) (.tmp 4)) none, .op (.mov 2 (.tmp 5)) none, .keep [2]] K pan e w) := ⟨fun _ _ _ _ => rfl, fun _ _ _ _ => rfl⟩
theorem low29 : Try.f29.body.bind (lowerC Try.prog 6 (fun _ => none)) = some c29.erase := by kernel_rfl
theorem enter29 {args : List Value} {w : World} {R : Ending → World → Prop} (ha : args.length ≤ 6) (h : vc Try.prog c29 (endPost [.t 2] R) (argEnv 0 args) w) : Calls Try.prog 29 args.toArray w R :=
  calls_of_vc Try.func29 rfl low29 rfl ha h
/-- The code of slices.IndexFunc[[]int,int]. -/
def r31_0 : List G := [.op (.mov 4 (.const (.int .i64 0))) none,
  .keep [0, 1]]
def r31_1 : List G := [.op (.mov 6 (.tmp 0)) none,
  .op (.lenL 7 (.tmp 6)) none,
  .op (.mov 8 (.const (.int .i64 0))) none,
  .keep [0, 1, 7, 8]]
def r31_2 : List G := [.op (.ari 9 .lss .i64 (.tmp 8) (.tmp 7)) none,
  .keep [0, 1, 7, 8, 9]]
def r31_3 : List G := [.op (.mov 10 (.tmp 8)) none,
  .op (.mov 5 (.tmp 10)) none,
  .keep [0, 1, 5, 7, 8]]
def r31_4 : List G := [.op (.mov 11 (.tmp 1)) none,
  .op (.mov 12 (.tmp 0)) none,
  .op (.mov 13 (.tmp 5)) none,
  .op (.iaddrL 14 1 (.tmp 12) (.tmp 13)) none,
  .op (.load 15 (.tmp 14)) none,
  .op (.callV (some 16) (.tmp 11) [(.tmp 15)]) none,
  .keep [0, 1, 5, 7, 8, 16]]
def r31_5 : List G := [.op (.mov 17 (.tmp 5)) none,
  .op (.mov 4 (.tmp 17)) none,
  .keep [4]]
def r31_6 : List G := [.op (.ari 18 .add .i64 (.tmp 8) (.const (.int .i64 1))) none,
  .op (.mov 8 (.tmp 18)) none,
  .keep [0, 1, 7, 8]]
def r31_7 : List G := [.op (.mov 4 (.const (.int .i64 (-1)))) none,
  .keep [4]]
def c31 : C := (.seq (.region r31_0) (.seq (.seq (.region r31_1) (.block 0 (.loop (.seq (.region r31_2) (.seq (.cond (.tmp 9) .skip (.exit 0)) (.seq (.block 1 (.seq (.region r31_3) (.seq (.region r31_4) (.cond (.tmp 16) (.seq (.region r31_5) .ret) .skip)))) (.region r31_6))))))) (.seq (.region r31_7) .ret)))
theorem x31 : (∀ (K : Env → World → Prop) (pan : List PanicEntry → World → Prop) (e : Env) (w : World), vcOps Try.prog r31_0 K pan e w = vcOps Try.prog [.op (.mov 4 (.const (.int .i64 0))) none, .keep [0, 1]] K pan e w) ∧
  (∀ (K : Env → World → Prop) (pan : List PanicEntry → World → Prop) (e : Env) (w : World), vcOps Try.prog r31_1 K pan e w = vcOps Try.prog [.op (.mov 6 (.tmp 0)) none, .op (.lenL 7 (.tmp 6)) none, .op (.mov 8 (.const (.int .i64 0))) none, .keep [0, 1, 7, 8]] K pan e w) ∧
  (∀ (K : Env → World → Prop) (pan : List PanicEntry → World → Prop) (e : Env) (w : World), vcOps Try.prog r31_2 K pan e w = vcOps Try.prog [.op (.ari 9 .lss .i64 (.tmp 8) (.tmp 7)) none, .keep [0, 1, 7, 8, 9]] K pan e w) ∧
  (∀ (K : Env → World → Prop) (pan : List PanicEntry → World → Prop) (e : Env) (w : World), vcOps Try.prog r31_3 K pan e w = vcOps Try.prog [.op (.mov 10 (.tmp 8)) none, .op (.mov 5 (.tmp 10)) none, .keep [0, 1, 5, 7, 8]] K pan e w) ∧
  (∀ (K : Env → World → Prop) (pan : List PanicEntry → World → Prop) (e : Env) (w : World), vcOps Try.prog r31_4 K pan e w = vcOps Try.prog [.op (.mov 11 (.tmp 1)) none, .op (.mov 12 (.tmp 0)) none, .op (.mov 13 (.tmp 5)) none, .op (.iaddrL 14 1 (.tmp 12) (.tmp 13)) none, .op (.load 15 (.tmp 14)) none, .op (.callV (some 16) (.tmp 11) [(.tmp 15)]) none, .keep [0, 1, 5, 7, 8, 16]] K pan e w) ∧
  (∀ (K : Env → World → Prop) (pan : List PanicEntry → World → Prop) (e : Env) (w : World), vcOps Try.prog r31_5 K pan e w = vcOps Try.prog [.op (.mov 17 (.tmp 5)) none, .op (.mov 4 (.tmp 17)) none, .keep [4]] K pan e w) ∧
  (∀ (K : Env → World → Prop) (pan : List PanicEntry → World → Prop) (e : Env) (w : World), vcOps Try.prog r31_6 K pan e w = vcOps Try.prog [.op (.ari 18 .add .i64 (.tmp 8) (.const (.int .i64 1))) none, .op (.mov 8 (.tmp 18)) none, .keep [0, 1, 7, 8]] K pan e w) ∧
  (∀ (K : Env → World → Prop) (pan : List PanicEntry → World → Prop) (e : Env) (w : World), vcOps Try.prog r31_7 K pan e w = vcOps Try.prog [.op (.mov 4 (.const (.int .i64 (-1)))) none, .keep [4]] K pan e w) := ⟨fun _ _ _ _ => rfl, fun _ _ _ _ => rfl, fun _ _ _ _ => rfl, fun _ _ _ _ => rfl, fun _ _ _ _ => rfl, fun _ _ _ _ => rfl, fun _ _ _ _ => rfl, fun _ _ _ _ => rfl⟩
theorem low31 : Try.f31.body.bind (lowerC Try.prog 19 (fun _ => none)) = some c31.erase := by kernel_rfl
theorem enter31 {args : List Value} {w : World} {R : Ending → World → Prop} (ha : args.length ≤ 19) (h : vc Try.prog c31 (endPost [.t 4] R) (argEnv 0 args) w) : Calls Try.prog 31 args.toArray w R :=
  calls_of_vc Try.func31 rfl low31 rfl ha h
/-- The code of slices.insertionSortCmpFunc[int]. -/
def r32_0 : List G := [.op (.mov 10 (.tmp 1)) none,
  .op (.ari 11 .add .i64 (.tmp 10) (.const (.int .i64 1))) none,
  .op (.mov 8 (.tmp 11)) none,
  .keep [0, 1, 2, 3, 8]]
def r32_1 : List G := [.op (.mov 12 (.tmp 8)) none,
  .op (.mov 13 (.tmp 2)) none,
  .op (.ari 14 .lss .i64 (.tmp 12) (.tmp 13)) none,
  .keep [0, 1, 2, 3, 8, 14]]
def r32_3 : List G := [.op (.mov 17 (.tmp 8)) none,
  .op (.mov 9 (.tmp 17)) none,
  .keep [0, 1, 2, 3, 8, 9]]
def r32_4 : List G := [.op (.mov 18 (.tmp 9)) none,
  .op (.mov 19 (.tmp 1)) none,
  .op (.ari 20 .gtr .i64 (.tmp 18) (.tmp 19)) none,
  .op (.mov 21 (.tmp 20)) none,
  .op (.mov 22 (.tmp 3)) (some (21, true)),
  .op (.mov 23 (.tmp 0)) (some (21, true)),
  .op (.mov 24 (.tmp 9)) (some (21, true)),
  .op (.iaddrL 25 1 (.tmp 23) (.tmp 24)) (some (21, true)),
  .op (.load 26 (.tmp 25)) (some (21, true)),
  .op (.mov 27 (.tmp 0)) (some (21, true)),
  .op (.mov 28 (.tmp 9)) (some (21, true)),
  .op (.ari 29 .sub .i64 (.tmp 28) (.const (.int .i64 1))) (some (21, true)),
  .op (.iaddrL 30 1 (.tmp 27) (.tmp 29)) (some (21, true)),
  .op (.load 31 (.tmp 30)) (some (21, true)),
  .op (.callV (some 32) (.tmp 22) [(.tmp 26), (.tmp 31)]) (some (21, true)),
  .op (.ari 33 .lss .i64 (.tmp 32) (.const (.int .i64 0))) (some (21, true)),
  .op (.pick 34 (.tmp 21) (.tmp 33) (.const (.bool false))) none,
  .keep [0, 1, 2, 3, 8, 9, 34]]
def r32_6 : List G := [.op (.mov 37 (.tmp 0)) none,
  .op (.mov 38 (.tmp 9)) none,
  .op (.mov 39 (.tmp 0)) none,
  .op (.mov 40 (.tmp 9)) none,
  .op (.ari 41 .sub .i64 (.tmp 40) (.const (.int .i64 1))) none,
  .op (.mov 42 (.tmp 0)) none,
  .op (.mov 43 (.tmp 9)) none,
  .op (.ari 44 .sub .i64 (.tmp 43) (.const (.int .i64 1))) none,
  .op (.iaddrL 45 1 (.tmp 42) (.tmp 44)) none,
  .op (.load 46 (.tmp 45)) none,
  .op (.mov 47 (.tmp 0)) none,
  .op (.mov 48 (.tmp 9)) none,
  .op (.iaddrL 49 1 (.tmp 47) (.tmp 48)) none,
  .op (.load 50 (.tmp 49)) none,
  .op (.iaddrL 51 1 (.tmp 37) (.tmp 38)) none,
  .op (.store (.tmp 51) (.tmp 46)) none,
  .op (.iaddrL 52 1 (.tmp 39) (.tmp 41)) none,
  .op (.store (.tmp 52) (.tmp 50)) none,
  .keep [0, 1, 2, 3, 8, 9]]
def r32_5 : List G := [.op (.mov 35 (.tmp 9)) none,
  .op (.ari 36 .sub .i64 (.tmp 35) (.const (.int .i64 1))) none,
  .op (.mov 9 (.tmp 36)) none,
  .keep [0, 1, 2, 3, 8, 9]]
def r32_2 : List G := [.op (.mov 15 (.tmp 8)) none,
  .op (.ari 16 .add .i64 (.tmp 15) (.const (.int .i64 1))) none,
  .op (.mov 8 (.tmp 16)) none,
  .keep [0, 1, 2, 3, 8]]
def c32 : C := (.seq (.region r32_0) (.block 0 (.loop (.seq (.seq (.region r32_1) (.cond (.tmp 14) .skip (.exit 0))) (.seq (.block 1 (.seq (.region r32_3) (.block 2 (.loop (.seq (.seq (.regionD r32_4) (.cond (.tmp 34) .skip (.exit 2))) (.seq (.block 3 (.regionD r32_6)) (.region r32_5))))))) (.region r32_2))))))
theorem x32 : (∀ (K : Env → World → Prop) (pan : List PanicEntry → World → Prop) (e : Env) (w : World), vcOps Try.prog r32_0 K pan e w = vcOps Try.prog [.op (.mov 10 (.tmp 1)) none, .op (.ari 11 .add .i64 (.tmp 10) (.const (.int .i64 1))) none, .op (.mov 8 (.tmp 11)) none, .keep [0, 1, 2, 3, 8]] K pan e w) ∧
  (∀ (K : Env → World → Prop) (pan : List PanicEntry → World → Prop) (e : Env) (w : World), vcOps Try.prog r32_1 K pan e w = vcOps Try.prog [.op (.mov 12 (.tmp 8)) none, .op (.mov 13 (.tmp 2)) none, .op (.ari 14 .lss .i64 (.tmp 12) (.tmp 13)) none, .keep [0, 1, 2, 3, 8, 14]] K pan e w) ∧
  (∀ (K : Env → World → Prop) (pan : List PanicEntry → World → Prop) (e : Env) (w : World), vcOps Try.prog r32_3 K pan e w = vcOps Try.prog [.op (.mov 17 (.tmp 8)) none, .op (.mov 9 (.tmp 17)) none, .keep [0, 1, 2, 3, 8, 9]] K pan e w) ∧
  (∀ (K : Env → World → Prop) (pan : List PanicEntry → World → Prop) (e : Env) (w : World), vcOps Try.prog r32_4 K pan e w = vcOps Try.prog [.op (.mov 18 (.tmp 9)) none, .op (.mov 19 (.tmp 1)) none, .op (.ari 20 .gtr .i64 (.tmp 18) (.tmp 19)) none, .op (.mov 21 (.tmp 20)) none, .op (.mov 22 (.tmp 3)) (some (21, true)), .op (.mov 23 (.tmp 0)) (some (21, true)), .op (.mov 24 (.tmp 9)) (some (21, true)), .op (.iaddrL 25 1 (.tmp 23) (.tmp 24)) (some (21, true)), .op (.load 26 (.tmp 25)) (some (21, true)), .op (.mov 27 (.tmp 0)) (some (21, true)), .op (.mov 28 (.tmp 9)) (some (21, true)), .op (.ari 29 .sub .i64 (.tmp 28) (.const (.int .i64 1))) (some (21, true)), .op (.iaddrL 30 1 (.tmp 27) (.tmp 29)) (some (21, true)), .op (.load 31 (.tmp 30)) (some (21, true)), .op (.callV (some 32) (.tmp 22) [(.tmp 26), (.tmp 31)]) (some (21, true)), .op (.ari 33 .lss .i64 (.tmp 32) (.const (.int .i64 0))) (some (21, true)), .op (.pick 34 (.tmp 21) (.tmp 33) (.const (.bool false))) none, .keep [0, 1, 2, 3, 8, 9, 34]] K pan e w) ∧
  (∀ (K : Env → World → Prop) (pan : List PanicEntry → World → Prop) (e : Env) (w : World), vcOps Try.prog r32_6 K pan e w = vcOps Try.prog [.op (.mov 37 (.tmp 0)) none, .op (.mov 38 (.tmp 9)) none, .op (.mov 39 (.tmp 0)) none, .op (.mov 40 (.tmp 9)) none, .op (.ari 41 .sub .i64 (.tmp 40) (.const (.int .i64 1))) none, .op (.mov 42 (.tmp 0)) none, .op (.mov 43 (.tmp 9)) none, .op (.ari 44 .sub .i64 (.tmp 43) (.const (.int .i64 1))) none, .op (.iaddrL 45 1 (.tmp 42) (.tmp 44)) none, .op (.load 46 (.tmp 45)) none, .op (.mov 47 (.tmp 0)) none, .op (.mov 48 (.tmp 9)) none, .op (.iaddrL 49 1 (.tmp 47) (.tmp 48)) none, .op (.load 50 (.tmp 49)) none, .op (.iaddrL 51 1 (.tmp 37) (.tmp 38)) none, .op (.store (.tmp 51) (.tmp 46)) none, .op (.iaddrL 52 1 (.tmp 39) (.tmp 41)) none, .op (.store (.tmp 52) (.tmp 50)) none, .keep [0, 1, 2, 3, 8, 9]] K pan e w) ∧
  (∀ (K : Env → World → Prop) (pan : List PanicEntry → World → Prop) (e : Env) (w : World), vcOps Try.prog r32_5 K pan e w = vcOps Try.prog [.op (.mov 35 (.tmp 9)) none, .op (.ari 36 .sub .i64 (.tmp 35) (.const (.int .i64 1))) none, .op (.mov 9 (.tmp 36)) none, .keep [0, 1, 2, 3, 8, 9]] K pan e w) ∧
  (∀ (K : Env → World → Prop) (pan : List PanicEntry → World → Prop) (e : Env) (w : World), vcOps Try.prog r32_2 K pan e w = vcOps Try.prog [.op (.mov 15 (.tmp 8)) none, .op (.ari 16 .add .i64 (.tmp 15) (.const (.int .i64 1))) none, .op (.mov 8 (.tmp 16)) none, .keep [0, 1, 2, 3, 8]] K pan e w) := ⟨fun _ _ _ _ => rfl, fun _ _ _ _ => rfl, fun _ _ _ _ => rfl, fun _ _ _ _ => rfl, fun _ _ _ _ => rfl, fun _ _ _ _ => rfl, fun _ _ _ _ => rfl⟩
theorem low32 : Try.f32.body.bind (lowerC Try.prog 53 (fun i => List.lookup i [(4, [(0, 0), (1, 0), (2, 0), (3, 0), (4, 0), (5, 0), (6, 0), (7, 0), (8, 0), (9, 0), (10, 0), (11, 0), (12, 0), (13, 0), (14, 0), (15, 0), (16, 0)]), (6, [(0, 0), (1, 0), (2, 0), (3, 0), (4, 0), (5, 0), (6, 0), (7, 0), (8, 0), (9, 0), (10, 0), (11, 0), (12, 0), (13, 0), (14, 0), (15, 0), (16, 0), (17, 0)])])) = some c32.erase := by kernel_rfl
theorem enter32 {args : List Value} {w : World} {R : Ending → World → Prop} (ha : args.length ≤ 53) (h : vc Try.prog c32 (endPost [] R) (argEnv 0 args) w) : Calls Try.prog 32 args.toArray w R :=
  calls_of_vc Try.func32 rfl low32 rfl ha h
/-- The code of slices.symMergeCmpFunc[int]. -/
def r33_0 : List G := [.op (.mov 25 (.tmp 2)) none,
  .op (.mov 26 (.tmp 1)) none,
  .op (.ari 27 .sub .i64 (.tmp 25) (.tmp 26)) none,
  .op (.ari 28 .eql .i64 (.tmp 27) (.const (.int .i64 1))) none,
  .keep [0, 1, 2, 3, 4, 28]]
def r33_1 : List G := [.op (.mov 29 (.tmp 2)) none,
  .op (.mov 10 (.tmp 29)) none,
  .keep [0, 1, 3, 4, 10]]
def r33_2 : List G := [.op (.mov 30 (.tmp 3)) none,
  .op (.mov 11 (.tmp 30)) none,
  .keep [0, 1, 4, 10, 11]]
def r33_3 : List G := [.op (.mov 31 (.tmp 10)) none,
  .op (.mov 32 (.tmp 11)) none,
  .op (.ari 33 .lss .i64 (.tmp 31) (.tmp 32)) none,
  .keep [0, 1, 4, 10, 11, 33]]
def r33_4 : List G := [.op (.mov 34 (.tmp 10)) none,
  .op (.mov 35 (.tmp 11)) none,
  .op (.ari 36 .add .i64 (.tmp 34) (.tmp 35)) none,
  .op (.conv 37 .u64 (.tmp 36)) none,
  .op (.shf 38 .shr .u64 (.tmp 37) (.const (.int .u64 1))) none,
  .op (.conv 39 .i64 (.tmp 38)) none,
  .op (.mov 12 (.tmp 39)) none,
  .keep [0, 1, 4, 10, 11, 12]]
def r33_5 : List G := [.op (.mov 40 (.tmp 4)) none,
  .op (.mov 41 (.tmp 0)) none,
  .op (.mov 42 (.tmp 12)) none,
  .op (.iaddrL 43 1 (.tmp 41) (.tmp 42)) none,
  .op (.load 44 (.tmp 43)) none,
  .op (.mov 45 (.tmp 0)) none,
  .op (.mov 46 (.tmp 1)) none,
  .op (.iaddrL 47 1 (.tmp 45) (.tmp 46)) none,
  .op (.load 48 (.tmp 47)) none,
  .op (.callV (some 49) (.tmp 40) [(.tmp 44), (.tmp 48)]) none,
  .op (.ari 50 .lss .i64 (.tmp 49) (.const (.int .i64 0))) none,
  .keep [0, 1, 4, 10, 11, 12, 50]]
def r33_6 : List G := [.op (.mov 51 (.tmp 12)) none,
  .op (.ari 52 .add .i64 (.tmp 51) (.const (.int .i64 1))) none,
  .op (.mov 10 (.tmp 52)) none,
  .keep [0, 1, 4, 10, 11]]
def r33_7 : List G := [.op (.mov 53 (.tmp 12)) none,
  .op (.mov 11 (.tmp 53)) none,
  .keep [0, 1, 4, 10, 11]]
def r33_8 : List G := [.op (.mov 54 (.tmp 1)) none,
  .op (.mov 13 (.tmp 54)) none,
  .keep [0, 10, 13]]
def r33_9 : List G := [.op (.mov 55 (.tmp 13)) none,
  .op (.mov 56 (.tmp 10)) none,
  .op (.ari 57 .sub .i64 (.tmp 56) (.const (.int .i64 1))) none,
  .op (.ari 58 .lss .i64 (.tmp 55) (.tmp 57)) none,
  .keep [0, 10, 13, 58]]
def r33_11 : List G := [.op (.mov 61 (.tmp 0)) none,
  .op (.mov 62 (.tmp 13)) none,
  .op (.mov 63 (.tmp 0)) none,
  .op (.mov 64 (.tmp 13)) none,
  .op (.ari 65 .add .i64 (.tmp 64) (.const (.int .i64 1))) none,
  .op (.mov 66 (.tmp 0)) none,
  .op (.mov 67 (.tmp 13)) none,
  .op (.ari 68 .add .i64 (.tmp 67) (.const (.int .i64 1))) none,
  .op (.iaddrL 69 1 (.tmp 66) (.tmp 68)) none,
  .op (.load 70 (.tmp 69)) none,
  .op (.mov 71 (.tmp 0)) none,
  .op (.mov 72 (.tmp 13)) none,
  .op (.iaddrL 73 1 (.tmp 71) (.tmp 72)) none,
  .op (.load 74 (.tmp 73)) none,
  .op (.iaddrL 75 1 (.tmp 61) (.tmp 62)) none,
  .op (.store (.tmp 75) (.tmp 70)) none,
  .op (.iaddrL 76 1 (.tmp 63) (.tmp 65)) none,
  .op (.store (.tmp 76) (.tmp 74)) none,
  .keep [0, 10, 13]]
def r33_10 : List G := [.op (.mov 59 (.tmp 13)) none,
  .op (.ari 60 .add .i64 (.tmp 59) (.const (.int .i64 1))) none,
  .op (.mov 13 (.tmp 60)) none,
  .keep [0, 10, 13]]
def r33_12 : List G := [.op (.mov 77 (.tmp 3)) none,
  .op (.mov 78 (.tmp 2)) none,
  .op (.ari 79 .sub .i64 (.tmp 77) (.tmp 78)) none,
  .op (.ari 80 .eql .i64 (.tmp 79) (.const (.int .i64 1))) none,
  .keep [0, 1, 2, 3, 4, 80]]
def r33_13 : List G := [.op (.mov 81 (.tmp 1)) none,
  .op (.mov 14 (.tmp 81)) none,
  .keep [0, 2, 4, 14]]
def r33_14 : List G := [.op (.mov 82 (.tmp 2)) none,
  .op (.mov 15 (.tmp 82)) none,
  .keep [0, 2, 4, 14, 15]]
def r33_15 : List G := [.op (.mov 83 (.tmp 14)) none,
  .op (.mov 84 (.tmp 15)) none,
  .op (.ari 85 .lss .i64 (.tmp 83) (.tmp 84)) none,
  .keep [0, 2, 4, 14, 15, 85]]
def r33_16 : List G := [.op (.mov 86 (.tmp 14)) none,
  .op (.mov 87 (.tmp 15)) none,
  .op (.ari 88 .add .i64 (.tmp 86) (.tmp 87)) none,
  .op (.conv 89 .u64 (.tmp 88)) none,
  .op (.shf 90 .shr .u64 (.tmp 89) (.const (.int .u64 1))) none,
  .op (.conv 91 .i64 (.tmp 90)) none,
  .op (.mov 16 (.tmp 91)) none,
  .keep [0, 2, 4, 14, 15, 16]]
def r33_17 : List G := [.op (.mov 92 (.tmp 4)) none,
  .op (.mov 93 (.tmp 0)) none,
  .op (.mov 94 (.tmp 2)) none,
  .op (.iaddrL 95 1 (.tmp 93) (.tmp 94)) none,
  .op (.load 96 (.tmp 95)) none,
  .op (.mov 97 (.tmp 0)) none,
  .op (.mov 98 (.tmp 16)) none,
  .op (.iaddrL 99 1 (.tmp 97) (.tmp 98)) none,
  .op (.load 100 (.tmp 99)) none,
  .op (.callV (some 101) (.tmp 92) [(.tmp 96), (.tmp 100)]) none,
  .op (.ari 102 .lss .i64 (.tmp 101) (.const (.int .i64 0))) none,
  .op (.not 103 (.tmp 102)) none,
  .keep [0, 2, 4, 14, 15, 16, 103]]
def r33_18 : List G := [.op (.mov 104 (.tmp 16)) none,
  .op (.ari 105 .add .i64 (.tmp 104) (.const (.int .i64 1))) none,
  .op (.mov 14 (.tmp 105)) none,
  .keep [0, 2, 4, 14, 15]]
def r33_19 : List G := [.op (.mov 106 (.tmp 16)) none,
  .op (.mov 15 (.tmp 106)) none,
  .keep [0, 2, 4, 14, 15]]
def r33_20 : List G := [.op (.mov 107 (.tmp 2)) none,
  .op (.mov 17 (.tmp 107)) none,
  .keep [0, 14, 17]]
def r33_21 : List G := [.op (.mov 108 (.tmp 17)) none,
  .op (.mov 109 (.tmp 14)) none,
  .op (.ari 110 .gtr .i64 (.tmp 108) (.tmp 109)) none,
  .keep [0, 14, 17, 110]]
def r33_23 : List G := [.op (.mov 113 (.tmp 0)) none,
  .op (.mov 114 (.tmp 17)) none,
  .op (.mov 115 (.tmp 0)) none,
  .op (.mov 116 (.tmp 17)) none,
  .op (.ari 117 .sub .i64 (.tmp 116) (.const (.int .i64 1))) none,
  .op (.mov 118 (.tmp 0)) none,
  .op (.mov 119 (.tmp 17)) none,
  .op (.ari 120 .sub .i64 (.tmp 119) (.const (.int .i64 1))) none,
  .op (.iaddrL 121 1 (.tmp 118) (.tmp 120)) none,
  .op (.load 122 (.tmp 121)) none,
  .op (.mov 123 (.tmp 0)) none,
  .op (.mov 124 (.tmp 17)) none,
  .op (.iaddrL 125 1 (.tmp 123) (.tmp 124)) none,
  .op (.load 126 (.tmp 125)) none,
  .op (.iaddrL 127 1 (.tmp 113) (.tmp 114)) none,
  .op (.store (.tmp 127) (.tmp 122)) none,
  .op (.iaddrL 128 1 (.tmp 115) (.tmp 117)) none,
  .op (.store (.tmp 128) (.tmp 126)) none,
  .keep [0, 14, 17]]
def r33_22 : List G := [.op (.mov 111 (.tmp 17)) none,
  .op (.ari 112 .sub .i64 (.tmp 111) (.const (.int .i64 1))) none,
  .op (.mov 17 (.tmp 112)) none,
  .keep [0, 14, 17]]
def r33_24 : List G := [.op (.mov 129 (.tmp 1)) none,
  .op (.mov 130 (.tmp 3)) none,
  .op (.ari 131 .add .i64 (.tmp 129) (.tmp 130)) none,
  .op (.conv 132 .u64 (.tmp 131)) none,
  .op (.shf 133 .shr .u64 (.tmp 132) (.const (.int .u64 1))) none,
  .op (.conv 134 .i64 (.tmp 133)) none,
  .op (.mov 18 (.tmp 134)) none,
  .keep [0, 1, 2, 3, 4, 18]]
def r33_25 : List G := [.op (.mov 135 (.tmp 18)) none,
  .op (.mov 136 (.tmp 2)) none,
  .op (.ari 137 .add .i64 (.tmp 135) (.tmp 136)) none,
  .op (.mov 19 (.tmp 137)) none,
  .keep [0, 1, 2, 3, 4, 18, 19]]
def r33_26 : List G := [.op (.mov 20 (.const (.int .i64 0))) none,
  .op (.mov 21 (.const (.int .i64 0))) none,
  .keep [0, 1, 2, 3, 4, 18, 19]]
def r33_27 : List G := [.op (.mov 138 (.tmp 2)) none,
  .op (.mov 139 (.tmp 18)) none,
  .op (.ari 140 .gtr .i64 (.tmp 138) (.tmp 139)) none,
  .keep [0, 1, 2, 3, 4, 18, 19, 140]]
def r33_28 : List G := [.op (.mov 141 (.tmp 19)) none,
  .op (.mov 142 (.tmp 3)) none,
  .op (.ari 143 .sub .i64 (.tmp 141) (.tmp 142)) none,
  .op (.mov 20 (.tmp 143)) none,
  .keep [0, 1, 2, 3, 4, 18, 19, 20]]
def r33_29 : List G := [.op (.mov 144 (.tmp 18)) none,
  .op (.mov 21 (.tmp 144)) none,
  .keep [0, 1, 2, 3, 4, 18, 19, 20, 21]]
def r33_30 : List G := [.op (.mov 145 (.tmp 1)) none,
  .op (.mov 20 (.tmp 145)) none,
  .keep [0, 1, 2, 3, 4, 18, 19, 20]]
def r33_31 : List G := [.op (.mov 146 (.tmp 2)) none,
  .op (.mov 21 (.tmp 146)) none,
  .keep [0, 1, 2, 3, 4, 18, 19, 20, 21]]
def r33_32 : List G := [.op (.mov 147 (.tmp 19)) none,
  .op (.ari 148 .sub .i64 (.tmp 147) (.const (.int .i64 1))) none,
  .op (.mov 22 (.tmp 148)) none,
  .keep [0, 1, 2, 3, 4, 18, 19, 20, 21, 22]]
def r33_33 : List G := [.op (.mov 149 (.tmp 20)) none,
  .op (.mov 150 (.tmp 21)) none,
  .op (.ari 151 .lss .i64 (.tmp 149) (.tmp 150)) none,
  .keep [0, 1, 2, 3, 4, 18, 19, 20, 21, 22, 151]]
def r33_34 : List G := [.op (.mov 152 (.tmp 20)) none,
  .op (.mov 153 (.tmp 21)) none,
  .op (.ari 154 .add .i64 (.tmp 152) (.tmp 153)) none,
  .op (.conv 155 .u64 (.tmp 154)) none,
  .op (.shf 156 .shr .u64 (.tmp 155) (.const (.int .u64 1))) none,
  .op (.conv 157 .i64 (.tmp 156)) none,
  .op (.mov 23 (.tmp 157)) none,
  .keep [0, 1, 2, 3, 4, 18, 19, 20, 21, 22, 23]]
def r33_35 : List G := [.op (.mov 158 (.tmp 4)) none,
  .op (.mov 159 (.tmp 0)) none,
  .op (.mov 160 (.tmp 22)) none,
  .op (.mov 161 (.tmp 23)) none,
  .op (.ari 162 .sub .i64 (.tmp 160) (.tmp 161)) none,
  .op (.iaddrL 163 1 (.tmp 159) (.tmp 162)) none,
  .op (.load 164 (.tmp 163)) none,
  .op (.mov 165 (.tmp 0)) none,
  .op (.mov 166 (.tmp 23)) none,
  .op (.iaddrL 167 1 (.tmp 165) (.tmp 166)) none,
  .op (.load 168 (.tmp 167)) none,
  .op (.callV (some 169) (.tmp 158) [(.tmp 164), (.tmp 168)]) none,
  .op (.ari 170 .lss .i64 (.tmp 169) (.const (.int .i64 0))) none,
  .op (.not 171 (.tmp 170)) none,
  .keep [0, 1, 2, 3, 4, 18, 19, 20, 21, 22, 23, 171]]
def r33_36 : List G := [.op (.mov 172 (.tmp 23)) none,
  .op (.ari 173 .add .i64 (.tmp 172) (.const (.int .i64 1))) none,
  .op (.mov 20 (.tmp 173)) none,
  .keep [0, 1, 2, 3, 4, 18, 19, 20, 21, 22]]
def r33_37 : List G := [.op (.mov 174 (.tmp 23)) none,
  .op (.mov 21 (.tmp 174)) none,
  .keep [0, 1, 2, 3, 4, 18, 19, 20, 21, 22]]
def r33_38 : List G := [.op (.mov 175 (.tmp 19)) none,
  .op (.mov 176 (.tmp 20)) none,
  .op (.ari 177 .sub .i64 (.tmp 175) (.tmp 176)) none,
  .op (.mov 24 (.tmp 177)) none,
  .keep [0, 1, 2, 3, 4, 18, 20, 24]]
def r33_39 : List G := [.op (.mov 178 (.tmp 20)) none,
  .op (.mov 179 (.tmp 2)) none,
  .op (.ari 180 .lss .i64 (.tmp 178) (.tmp 179)) none,
  .op (.mov 181 (.tmp 180)) none,
  .op (.mov 182 (.tmp 2)) (some (181, true)),
  .op (.mov 183 (.tmp 24)) (some (181, true)),
  .op (.ari 184 .lss .i64 (.tmp 182) (.tmp 183)) (some (181, true)),
  .op (.pick 185 (.tmp 181) (.tmp 184) (.const (.bool false))) none,
  .keep [0, 1, 2, 3, 4, 18, 20, 24, 185]]
def r33_40 : List G := [.op (.mov 186 (.tmp 0)) none,
  .op (.mov 187 (.tmp 20)) none,
  .op (.mov 188 (.tmp 2)) none,
  .op (.mov 189 (.tmp 24)) none,
  .op (.mov 190 (.tmp 4)) none,
  .op (.call (some 191) 34 [(.tmp 186), (.tmp 187), (.tmp 188), (.tmp 189), (.tmp 190)]) none,
  .keep [0, 1, 3, 4, 18, 20, 24]]
def r33_41 : List G := [.op (.mov 192 (.tmp 1)) none,
  .op (.mov 193 (.tmp 20)) none,
  .op (.ari 194 .lss .i64 (.tmp 192) (.tmp 193)) none,
  .op (.mov 195 (.tmp 194)) none,
  .op (.mov 196 (.tmp 20)) (some (195, true)),
  .op (.mov 197 (.tmp 18)) (some (195, true)),
  .op (.ari 198 .lss .i64 (.tmp 196) (.tmp 197)) (some (195, true)),
  .op (.pick 199 (.tmp 195) (.tmp 198) (.const (.bool false))) none,
  .keep [0, 1, 3, 4, 18, 20, 24, 199]]
def r33_42 : List G := [.op (.mov 200 (.tmp 0)) none,
  .op (.mov 201 (.tmp 1)) none,
  .op (.mov 202 (.tmp 20)) none,
  .op (.mov 203 (.tmp 18)) none,
  .op (.mov 204 (.tmp 4)) none,
  .op (.call (some 205) 33 [(.tmp 200), (.tmp 201), (.tmp 202), (.tmp 203), (.tmp 204)]) none,
  .keep [0, 3, 4, 18, 24]]
def r33_43 : List G := [.op (.mov 206 (.tmp 18)) none,
  .op (.mov 207 (.tmp 24)) none,
  .op (.ari 208 .lss .i64 (.tmp 206) (.tmp 207)) none,
  .op (.mov 209 (.tmp 208)) none,
  .op (.mov 210 (.tmp 24)) (some (209, true)),
  .op (.mov 211 (.tmp 3)) (some (209, true)),
  .op (.ari 212 .lss .i64 (.tmp 210) (.tmp 211)) (some (209, true)),
  .op (.pick 213 (.tmp 209) (.tmp 212) (.const (.bool false))) none,
  .keep [0, 3, 4, 18, 24, 213]]
def r33_44 : List G := [.op (.mov 214 (.tmp 0)) none,
  .op (.mov 215 (.tmp 18)) none,
  .op (.mov 216 (.tmp 24)) none,
  .op (.mov 217 (.tmp 3)) none,
  .op (.mov 218 (.tmp 4)) none,
  .op (.call (some 219) 33 [(.tmp 214), (.tmp 215), (.tmp 216), (.tmp 217), (.tmp 218)]) none,
  .keep []]
def c33 : C := (.seq (.seq (.region r33_0) (.cond (.tmp 28) (.seq (.region r33_1) (.seq (.region r33_2) (.seq (.block 0 (.loop (.seq (.seq (.region r33_3) (.cond (.tmp 33) .skip (.exit 0))) (.block 1 (.seq (.region r33_4) (.seq (.regionD r33_5) (.cond (.tmp 50) (.region r33_6) (.region r33_7)))))))) (.seq (.seq (.region r33_8) (.block 2 (.loop (.seq (.seq (.region r33_9) (.cond (.tmp 58) .skip (.exit 2))) (.seq (.block 3 (.regionD r33_11)) (.region r33_10)))))) .ret)))) .skip)) (.seq (.seq (.region r33_12) (.cond (.tmp 80) (.seq (.region r33_13) (.seq (.region r33_14) (.seq (.block 4 (.loop (.seq (.seq (.region r33_15) (.cond (.tmp 85) .skip (.exit 4))) (.block 5 (.seq (.region r33_16) (.seq (.regionD r33_17) (.cond (.tmp 103) (.region r33_18) (.region r33_19)))))))) (.seq (.seq (.region r33_20) (.block 6 (.loop (.seq (.seq (.region r33_21) (.cond (.tmp 110) .skip (.exit 6))) (.seq (.block 7 (.regionD r33_23)) (.region r33_22)))))) .ret)))) .skip)) (.seq (.region r33_24) (.seq (.region r33_25) (.seq (.region r33_26) (.seq (.seq (.region r33_27) (.cond (.tmp 140) (.seq (.region r33_28) (.region r33_29)) (.seq (.region r33_30) (.region r33_31)))) (.seq (.region r33_32) (.seq (.block 8 (.loop (.seq (.seq (.region r33_33) (.cond (.tmp 151) .skip (.exit 8))) (.block 9 (.seq (.region r33_34) (.seq (.regionD r33_35) (.cond (.tmp 171) (.region r33_36) (.region r33_37)))))))) (.seq (.region r33_38) (.seq (.seq (.region r33_39) (.cond (.tmp 185) (.region r33_40) .skip)) (.seq (.seq (.region r33_41) (.cond (.tmp 199) (.region r33_42) .skip)) (.seq (.region r33_43) (.cond (.tmp 213) (.region r33_44) .skip)))))))))))))
theorem x33 : (∀ (K : Env → World → Prop) (pan : List PanicEntry → World → Prop) (e : Env) (w : World), vcOps Try.prog r33_0 K pan e w = vcOps Try.prog [.op (.mov 25 (.tmp 2)) none, .op (.mov 26 (.tmp 1)) none, .op (.ari 27 .sub .i64 (.tmp 25) (.tmp 26)) none, .op (.ari 28 .eql .i64 (.tmp 27) (.const (.int .i64 1))) none, .keep [0, 1, 2, 3, 4, 28]] K pan e w) ∧
  (∀ (K : Env → World → Prop) (pan : List PanicEntry → World → Prop) (e : Env) (w : World), vcOps Try.prog r33_1 K pan e w = vcOps Try.prog [.op (.mov 29 (.tmp 2)) none, .op (.mov 10 (.tmp 29)) none, .keep [0, 1, 3, 4, 10]] K pan e w) ∧
  (∀ (K : Env → World → Prop) (pan : List PanicEntry → World → Prop) (e : Env) (w : World), vcOps Try.prog r33_2 K pan e w = vcOps Try.prog [.op (.mov 30 (.tmp 3)) none, .op (.mov 11 (.tmp 30)) none, .keep [0, 1, 4, 10, 11]] K pan e w) ∧
  (∀ (K : Env → World → Prop) (pan : List PanicEntry → World → Prop) (e : Env) (w : World), vcOps Try.prog r33_3 K pan e w = vcOps Try.prog [.op (.mov 31 (.tmp 10)) none, .op (.mov 32 (.tmp 11)) none, .op (.ari 33 .lss .i64 (.tmp 31) (.tmp 32)) none, .keep [0, 1, 4, 10, 11, 33]] K pan e w) ∧
  (∀ (K : Env → World → Prop) (pan : List PanicEntry → World → Prop) (e : Env) (w : World), vcOps Try.prog r33_4 K pan e w = vcOps Try.prog [.op (.mov 34 (.tmp 10)) none, .op (.mov 35 (.tmp 11)) none, .op (.ari 36 .add .i64 (.tmp 34) (.tmp 35)) none, .op (.conv 37 .u64 (.tmp 36)) none, .op (.shf 38 .shr .u64 (.tmp 37) (.const (.int .u64 1))) none, .op (.conv 39 .i64 (.tmp 38)) none, .op (.mov 12 (.tmp 39)) none, .keep [0, 1, 4, 10, 11, 12]] K pan e w) ∧
  (∀ (K : Env → World → Prop) (pan : List PanicEntry → World → Prop) (e : Env) (w : World), vcOps Try.prog r33_5 K pan e w = vcOps Try.prog [.op (.mov 40 (.tmp 4)) none, .op (.mov 41 (.tmp 0)) none, .op (.mov 42 (.tmp 12)) none, .op (.iaddrL 43 1 (.tmp 41) (.tmp 42)) none, .op (.load 44 (.tmp 43)) none, .op (.mov 45 (.tmp 0)) none, .op (.mov 46 (.tmp 1)) none, .op (.iaddrL 47 1 (.tmp 45) (.tmp 46)) none, .op (.load 48 (.tmp 47)) none, .op (.callV (some 49) (.tmp 40) [(.tmp 44), (.tmp 48)]) none, .op (.ari 50 .lss .i64 (.tmp 49) (.const (.int .i64 0))) none, .keep [0, 1, 4, 10, 11, 12, 50]] K pan e w) ∧
  (∀ (K : Env → World → Prop) (pan : List PanicEntry → World → Prop) (e : Env) (w : World), vcOps Try.prog r33_6 K pan e w = vcOps Try.prog [.op (.mov 51 (.tmp 12)) none, .op (.ari 52 .add .i64 (.tmp 51) (.const (.int .i64 1))) none, .op (.mov 10 (.tmp 52)) none, .keep [0, 1, 4, 10, 11]] K pan e w) ∧
  (∀ (K : Env → World → Prop) (pan : List PanicEntry → World → Prop) (e : Env) (w : World), vcOps Try.prog r33_7 K pan e w = vcOps Try.prog [.op (.mov 53 (.tmp 12)) none, .op (.mov 11 (.tmp 53)) none, .keep [0, 1, 4, 10, 11]] K pan e w) ∧
  (∀ (K : Env → World → Prop) (pan : List PanicEntry → World → Prop) (e : Env) (w : World), vcOps Try.prog r33_8 K pan e w = vcOps Try.prog [.op (.mov 54 (.tmp 1)) none, .op (.mov 13 (.tmp 54)) none, .keep [0, 10, 13]] K pan e w) ∧
  (∀ (K : Env → World → Prop) (pan : List PanicEntry → World → Prop) (e : Env) (w : World), vcOps Try.prog r33_9 K pan e w = vcOps Try.prog [.op (.mov 55 (.tmp 13)) none, .op (.mov 56 (.tmp 10)) none, .op (.ari 57 .sub .i64 (.tmp 56) (.const (.int .i64 1))) none, .op (.ari 58 .lss .i64 (.tmp 55) (.tmp 57)) none, .keep [0, 10, 13, 58]] K pan e w) ∧
  (∀ (K : Env → World → Prop) (pan : List PanicEntry → World → Prop) (e : Env) (w : World), vcOps Try.prog r33_11 K pan e w = vcOps Try.prog [.op (.mov 61 (.tmp 0)) none, .op (.mov 62 (.tmp 13)) none, .op (.mov 63 (.tmp 0)) none, .op (.mov 64 (.tmp 13)) none, .op (.ari 65 .add .i64 (.tmp 64) (.const (.int .i64 1))) none, .op (.mov 66 (.tmp 0)) none, .op (.mov 67 (.tmp 13)) none, .op (.ari 68 .add .i64 (.tmp 67) (.const (.int .i64 1))) none, .op (.iaddrL 69 1 (.tmp 66) (.tmp 68)) none, .op (.load 70 (.tmp 69)) none, .op (.mov 71 (.tmp 0)) none, .op (.mov 72 (.tmp 13)) none, .op (.iaddrL 73 1 (.tmp 71) (.tmp 72)) none, .op (.load 74 (.tmp 73)) none, .op (.iaddrL 75 1 (.tmp 61) (.tmp 62)) none, .op (.store (.tmp 75) (.tmp 70)) none, .op (.iaddrL 76 1 (.tmp 63) (.tmp 65)) none, .op (.store (.tmp 76) (.tmp 74)) none, .keep [0, 10, 13]] K pan e w) ∧
  (∀ (K : Env → World → Prop) (pan : List PanicEntry → World → Prop) (e : Env) (w : World), vcOps Try.prog r33_10 K pan e w = vcOps Try.prog [.op (.mov 59 (.tmp 13)) none, .op (.ari 60 .add .i64 (.tmp 59) (.const (.int .i64 1))) none, .op (.mov 13 (.tmp 60)) none, .keep [0, 10, 13]] K pan e w) ∧
  (∀ (K : Env → World → Prop) (pan : List PanicEntry → World → Prop) (e : Env) (w : World), vcOps Try.prog r33_12 K pan e w = vcOps Try.prog [.op (.mov 77 (.tmp 3)) none, .op (.mov 78 (.tmp 2)) none, .op (.ari 79 .sub .i64 (.tmp 77) (.tmp 78)) none, .op (.ari 80 .eql .i64 (.tmp 79) (.const (.int .i64 1))) none, .keep [0, 1, 2, 3, 4, 80]] K pan e w) ∧
  (∀ (K : Env → World → Prop) (pan : List PanicEntry → World → Prop) (e : Env) (w : World), vcOps Try.prog r33_13 K pan e w = vcOps Try.prog [.op (.mov 81 (.tmp 1)) none, .op (.mov 14 (.tmp 81)) none, .keep [0, 2, 4, 14]] K pan e w) ∧
  (∀ (K : Env → World → Prop) (pan : List PanicEntry → World → Prop) (e : Env) (w : World), vcOps Try.prog r33_14 K pan e w = vcOps Try.prog [.op (.mov 82 (.tmp 2)) none, .op (.mov 15 (.tmp 82)) none, .keep [0, 2, 4, 14, 15]] K pan e w) ∧
  (∀ (K : Env → World → Prop) (pan : List PanicEntry → World → Prop) (e : Env) (w : World), vcOps Try.prog r33_15 K pan e w = vcOps Try.prog [.op (.mov 83 (.tmp 14)) none, .op (.mov 84 (.tmp 15)) none, .op (.ari 85 .lss .i64 (.tmp 83) (.tmp 84)) none, .keep [0, 2, 4, 14, 15, 85]] K pan e w) ∧
  (∀ (K : Env → World → Prop) (pan : List PanicEntry → World → Prop) (e : Env) (w : World), vcOps Try.prog r33_16 K pan e w = vcOps Try.prog [.op (.mov 86 (.tmp 14)) none, .op (.mov 87 (.tmp 15)) none, .op (.ari 88 .add .i64 (.tmp 86) (.tmp 87)) none, .op (.conv 89 .u64 (.tmp 88)) none, .op (.shf 90 .shr .u64 (.tmp 89) (.const (.int .u64 1))) none, .op (.conv 91 .i64 (.tmp 90)) none, .op (.mov 16 (.tmp 91)) none, .keep [0, 2, 4, 14, 15, 16]] K pan e w) ∧
  (∀ (K : Env → World → Prop) (pan : List PanicEntry → World → Prop) (e : Env) (w : World), vcOps Try.prog r33_17 K pan e w = vcOps Try.prog [.op (.mov 92 (.tmp 4)) none, .op (.mov 93 (.tmp 0)) none, .op (.mov 94 (.tmp 2)) none, .op (.iaddrL 95 1 (.tmp 93) (.tmp 94)) none, .op (.load 96 (.tmp 95)) none, .op (.mov 97 (.tmp 0)) none, .op (.mov 98 (.tmp 16)) none, .op (.iaddrL 99 1 (.tmp 97) (.tmp 98)) none, .op (.load 100 (.tmp 99)) none, .op (.callV (some 101) (.tmp 92) [(.tmp 96), (.tmp 100)]) none, .op (.ari 102 .lss .i64 (.tmp 101) (.const (.int .i64 0))) none, .op (.not 103 (.tmp 102)) none, .keep [0, 2, 4, 14, 15, 16, 103]] K pan e w) ∧
  (∀ (K : Env → World → Prop) (pan : List PanicEntry → World → Prop) (e : Env) (w : World), vcOps Try.prog r33_18 K pan e w = vcOps Try.prog [.op (.mov 104 (.tmp 16)) none, .op (.ari 105 .add .i64 (.tmp 104) (.const (.int .i64 1))) none, .op (.mov 14 (.tmp 105)) none, .keep [0, 2, 4, 14, 15]] K pan e w) ∧
  (∀ (K : Env → World → Prop) (pan : List PanicEntry → World → Prop) (e : Env) (w : World), vcOps Try.prog r33_19 K pan e w = vcOps Try.prog [.op (.mov 106 (.tmp 16)) none, .op (.mov 15 (.tmp 106)) none, .keep [0, 2, 4, 14, 15]] K pan e w) ∧
  (∀ (K : Env → World → Prop) (pan : List PanicEntry → World → Prop) (e : Env) (w : World), vcOps Try.prog r33_20 K pan e w = vcOps Try.prog [.op (.mov 107 (.tmp 2)) none, .op (.mov 17 (.tmp 107)) none, .keep [0, 14, 17]] K pan e w) ∧
  (∀ (K : Env → World → Prop) (pan : List PanicEntry → World → Prop) (e : Env) (w : World), vcOps Try.prog r33_21 K pan e w = vcOps Try.prog [.op (.mov 108 (.tmp 17)) none, .op (.mov 109 (.tmp 14)) none, .op (.ari 110 .gtr .i64 (.tmp 108) (.tmp 109)) none, .keep [0, 14, 17, 110]] K pan e w) ∧
  (∀ (K : Env → World → Prop) (pan : List PanicEntry → World → Prop) (e : Env) (w : World), vcOps Try.prog r33_23 K pan e w = vcOps Try.prog [.op (.mov 113 (.tmp 0)) none, .op (.mov 114 (.tmp 17)) none, .op (.mov 115 (.tmp 0)) none, .op (.mov 116 (.tmp 17)) none, .op (.ari 117 .sub .i64 (.tmp 116) (.const (.int .i64 1))) none, .op (.mov 118 (.tmp 0)) none, .op (.mov 119 (.tmp 17)) none, .op (.ari 120 .sub .i64 (.tmp 119) (.const (.int .i64 1))) none, .op (.iaddrL 121 1 (.tmp 118) (.tmp 120)) none, .op (.load 122 (.tmp 121)) none, .op (.mov 123 (.tmp 0)) none, .op (.mov 124 (.tmp 17)) none, .op (.iaddrL 125 1 (.tmp 123) (.tmp 124)) none, .op (.load 126 (.tmp 125)) none, .op (.iaddrL 127 1 (.tmp 113) (.tmp 114)) none, .op (.store (.tmp 127) (.tmp 122)) none, .op (.iaddrL 128 1 (.tmp 115) (.tmp 117)) none, .op (.store (.tmp 128) (.tmp 126)) none, .keep [0, 14, 17]] K pan e w) ∧
  (∀ (K : Env → World → Prop) (pan : List PanicEntry → World → Prop) (e : Env) (w : World), vcOps Try.prog r33_22 K pan e w = vcOps Try.prog [.op (.mov 111 (.tmp 17)) none, .op (.ari 112 .sub .i64 (.tmp 111) (.const (.int .i64 1))) none, .op (.mov 17 (.tmp 112)) none, .keep [0, 14, 17]] K pan e w) ∧
  (∀ (K : Env → World → Prop) (pan : List PanicEntry → World → Prop) (e : Env) (w : World), vcOps Try.prog r33_24 K pan e w = vcOps Try.prog [.op (.mov 129 (.tmp 1)) none, .op (.mov 130 (.tmp 3)) none, .op (.ari 131 .add .i64 (.tmp 129) (.tmp 130)) none, .op (.conv 132 .u64 (.tmp 131)) none, .op (.shf 133 .shr .u64 (.tmp 132) (.const (.int .u64 1))) none, .op (.conv 134 .i64 (.tmp 133)) none, .op (.mov 18 (.tmp 134)) none, .keep [0, 1, 2, 3, 4, 18]] K pan e w) ∧
  (∀ (K : Env → World → Prop) (pan : List PanicEntry → World → Prop) (e : Env) (w : World), vcOps Try.prog r33_25 K pan e w = vcOps Try.prog [.op (.mov 135 (.tmp 18)) none, .op (.mov 136 (.tmp 2)) none, .op (.ari 137 .add .i64 (.tmp 135) (.tmp 136)) none, .op (.mov 19 (.tmp 137)) none, .keep [0, 1, 2, 3, 4, 18, 19]] K pan e w) ∧
  (∀ (K : Env → World → Prop) (pan : List PanicEntry → World → Prop) (e : Env) (w : World), vcOps Try.prog r33_26 K pan e w = vcOps Try.prog [.op (.mov 20 (.const (.int .i64 0))) none, .op (.mov 21 (.const (.int .i64 0))) none, .keep [0, 1, 2, 3, 4, 18, 19]] K pan e w) ∧
  (∀ (K : Env → World → Prop) (pan : List PanicEntry → World → Prop) (e : Env) (w : World), vcOps Try.prog r33_27 K pan e w = vcOps Try.prog [.op (.mov 138 (.tmp 2)) none, .op (.mov 139 (.tmp 18)) none, .op (.ari 140 .gtr .i64 (.tmp 138) (.tmp 139)) none, .keep [0, 1, 2, 3, 4, 18, 19, 140]] K pan e w) ∧
  (∀ (K : Env → World → Prop) (pan : List PanicEntry → World → Prop) (e : Env) (w : World), vcOps Try.prog r33_28 K pan e w = vcOps Try.prog [.op (.mov 141 (.tmp 19)) none, .op (.mov 142 (.tmp 3)) none, .op (.ari 143 .sub .i64 (.tmp 141) (.tmp 142)) none, .op (.mov 20 (.tmp 143)) none, .keep [0, 1, 2, 3, 4, 18, 19, 20]] K pan e w) ∧
  (∀ (K : Env → World → Prop) (pan : List PanicEntry → World → Prop) (e : Env) (w : World), vcOps Try.prog r33_29 K pan e w = vcOps Try.prog [.op (.mov 144 (.tmp 18)) none, .op (.mov 21 (.tmp 144)) none, .keep [0, 1, 2, 3, 4, 18, 19, 20, 21]] K pan e w) ∧
  (∀ (K : Env → World → Prop) (pan : List PanicEntry → World → Prop) (e : Env) (w : World), vcOps Try.prog r33_30 K pan e w = vcOps Try.prog [.op (.mov 145 (.tmp 1)) none, .op (.mov 20 (.tmp 145)) none, .keep [0, 1, 2, 3, 4, 18, 19, 20]] K pan e w) ∧
  (∀ (K : Env → World → Prop) (pan : List PanicEntry → World → Prop) (e : Env) (w : World), vcOps Try.prog r33_31 K pan e w = vcOps Try.prog [.op (.mov 146 (.tmp 2)) none, .op (.mov 21 (.tmp 146)) none, .keep [0, 1, 2, 3, 4, 18, 19, 20, 21]] K pan e w) ∧
  (∀ (K : Env → World → Prop) (pan : List PanicEntry → World → Prop) (e : Env) (w : World), vcOps Try.prog r33_32 K pan e w = vcOps Try.prog [.op (.mov 147 (.tmp 19)) none, .op (.ari 148 .sub .i64 (.tmp 147) (.const (.int .i64 1))) none, .op (.mov 22 (.tmp 148)) none, .keep [0, 1, 2, 3, 4, 18, 19, 20, 21, 22]] K pan e w) ∧
  (∀ (K : Env → World → Prop) (pan : List PanicEntry → World → Prop) (e : Env) (w : World), vcOps Try.prog r33_33 K pan e w = vcOps Try.prog [.op (.mov 149 (.tmp 20)) none, .op (.mov 150 (.tmp 21)) none, .op (.ari 151 .lss .i64 (.tmp 149) (.tmp 150)) none, .keep [0, 1, 2, 3, 4, 18, 19, 20, 21, 22, 151]] K pan e w) ∧
  (∀ (K : Env → World → Prop) (pan : List PanicEntry → World → Prop) (e : Env) (w : World), vcOps Try.prog r33_34 K pan e w = vcOps Try.prog [.op (.mov 152 (.tmp 20)) none, .op (.mov 153 (.tmp 21)) none, .op (.ari 154 .add .i64 (.tmp 152) (.tmp 153)) none, .op (.conv 155 .u64 (.tmp 154)) none, .op (.shf 156 .shr .u64 (.tmp 155) (.const (.int .u64 1))) none, .op (.conv 157 .i64 (.tmp 156)) none, .op (.mov 23 (.tmp 157)) none, .keep [0, 1, 2, 3, 4, 18, 19, 20, 21, 22, 23]] K pan e w) ∧
  (∀ (K : Env → World → Prop) (pan : List PanicEntry → World → Prop) (e : Env) (w : World), vcOps Try.prog r33_35 K pan e w = vcOps Try.prog [.op (.mov 158 (.tmp 4)) none, .op (.mov 159 (.tmp 0)) none, .op (.mov 160 (.tmp 22)) none, .op (.mov 161 (.tmp 23)) none, .op (.ari 162 .sub .i64 (.tmp 160) (.tmp 161)) none, .op (.iaddrL 163 1 (.tmp 159) (.tmp 162)) none, .op (.load 164 (.tmp 163)) none, .op (.mov 165 (.tmp 0)) none, .op (.mov 166 (.tmp 23)) none, .op (.iaddrL 167 1 (.tmp 165) (.tmp 166)) none, .op (.load 168 (.tmp 167)) none, .op (.callV (some 169) (.tmp 158) [(.tmp 164), (.tmp 168)]) none, .op (.ari 170 .lss .i64 (.tmp 169) (.const (.int .i64 0))) none, .op (.not 171 (.tmp 170)) none, .keep [0, 1, 2, 3, 4, 18, 19, 20, 21, 22, 23, 171]] K pan e w) ∧
  (∀ (K : Env → World → Prop) (pan : List PanicEntry → World → Prop) (e : Env) (w : World), vcOps Try.prog r33_36 K pan e w = vcOps Try.prog [.op (.mov 172 (.tmp 23)) none, .op (.ari 173 .add .i64 (.tmp 172) (.const (.int .i64 1))) none, .op (.mov 20 (.tmp 173)) none, .keep [0, 1, 2, 3, 4, 18, 19, 20, 21, 22]] K pan e w) ∧
  (∀ (K : Env → World → Prop) (pan : List PanicEntry → World → Prop) (e : Env) (w : World), vcOps Try.prog r33_37 K pan e w = vcOps Try.prog [.op (.mov 174 (.tmp 23)) none, .op (.mov 21 (.tmp 174)) none, .keep [0, 1, 2, 3, 4, 18, 19, 20, 21, 22]] K pan e w) ∧
  (∀ (K : Env → World → Prop) (pan : List PanicEntry → World → Prop) (e : Env) (w : World), vcOps Try.prog r33_38 K pan e w = vcOps Try.prog [.op (.mov 175 (.tmp 19)) none, .op (.mov 176 (.tmp 20)) none, .op (.ari 177 .sub .i64 (.tmp 175) (.tmp 176)) none, .op (.mov 24 (.tmp 177)) none, .keep [0, 1, 2, 3, 4, 18, 20, 24]] K pan e w) ∧
  (∀ (K : Env → World → Prop) (pan : List PanicEntry → World → Prop) (e : Env) (w : World), vcOps Try.prog r33_39 K pan e w = vcOps Try.prog [.op (.mov 178 (.tmp 20)) none, .op (.mov 179 (.tmp 2)) none, .op (.ari 180 .lss .i64 (.tmp 178) (.tmp 179)) none, .op (.mov 181 (.tmp 180)) none, .op (.mov 182 (.tmp 2)) (some (181, true)), .op (.mov 183 (.tmp 24)) (some (181, true)), .op (.ari 184 .lss .i64 (.tmp 182) (.tmp 183)) (some (181, true)), .op (.pick 185 (.tmp 181) (.tmp 184) (.const (.bool false))) none, .keep [0, 1, 2, 3, 4, 18, 20, 24, 185]] K pan e w) ∧
  (∀ (K : Env → World → Prop) (pan : List PanicEntry → World → Prop) (e : Env) (w : World), vcOps Try.prog r33_40 K pan e w = vcOps Try.prog [.op (.mov 186 (.tmp 0)) none, .op (.mov 187 (.tmp 20)) none, .op (.mov 188 (.tmp 2)) none, .op (.mov 189 (.tmp 24)) none, .op (.mov 190 (.tmp 4)) none, .op (.call (some 191) 34 [(.tmp 186), (.tmp 187), (.tmp 188), (.tmp 189), (.tmp 190)]) none, .keep [0, 1, 3, 4, 18, 20, 24]] K pan e w) ∧
  (∀ (K : Env → World → Prop) (pan : List PanicEntry → World → Prop) (e : Env) (w : World), vcOps Try.prog r33_41 K pan e w = vcOps Try.prog [.op (.mov 192 (.tmp 1)) none, .op (.mov 193 (.tmp 20)) none, .op (.ari 194 .lss .i64 (.tmp 192) (.tmp 193)) none, .op (.mov 195 (.tmp 194)) none, .op (.mov 196 (.tmp 20)) (some (195, true)), .op (.mov 197 (.tmp 18)) (some (195, true)), .op (.ari 198 .lss .i64 (.tmp 196) (.tmp 197)) (some (195, true)), .op (.pick 199 (.tmp 195) (.tmp 198) (.const (.bool false))) none, .keep [0, 1, 3, 4, 18, 20, 24, 199]] K pan e w) ∧
  (∀ (K : Env → World → Prop) (pan : List PanicEntry → World → Prop) (e : Env) (w : World), vcOps Try.prog r33_42 K pan e w = vcOps Try.prog [.op (.mov 200 (.tmp 0)) none, .op (.mov 201 (.tmp 1)) none, .op (.mov 202 (.tmp 20)) none, .op (.mov 203 (.tmp 18)) none, .op (.mov 204 (.tmp 4)) none, .op (.call (some 205) 33 [(.tmp 200), (.tmp 201), (.tmp 202), (.tmp 203), (.tmp 204)]) none, .keep [0, 3, 4, 18, 24]] K pan e w) ∧
  (∀ (K : Env → World → Prop) (pan : List PanicEntry → World → Prop) (e : Env) (w : World), vcOps Try.prog r33_43 K pan e w = vcOps Try.prog [.op (.mov 206 (.tmp 18)) none, .op (.mov 207 (.tmp 24)) none, .op (.ari 208 .lss .i64 (.tmp 206) (.tmp 207)) none, .op (.mov 209 (.tmp 208)) none, .op (.mov 210 (.tmp 24)) (some (209, true)), .op (.mov 211 (.tmp 3)) (some (209, true)), .op (.ari 212 .lss .i64 (.tmp 210) (.tmp 211)) (some (209, true)), .op (.pick 213 (.tmp 209) (.tmp 212) (.const (.bool false))) none, .keep [0, 3, 4, 18, 24, 213]] K pan e w) ∧
  (∀ (K : Env → World → Prop) (pan : List PanicEntry → World → Prop) (e : Env) (w : World), vcOps Try.prog r33_44 K pan e w = vcOps Try.prog [.op (.mov 214 (.tmp 0)) none, .op (.mov 215 (.tmp 18)) none, .op (.mov 216 (.tmp 24)) none, .op (.mov 217 (.tmp 3)) none, .op (.mov 218 (.tmp 4)) none, .op (.call (some 219) 33 [(.tmp 214), (.tmp 215), (.tmp 216), (.tmp 217), (.tmp 218)]) none, .keep []] K pan e w) := ⟨fun _ _ _ _ => rfl, fun _ _ _ _ => rfl, fun _ _ _ _ => rfl, fun _ _ _ _ => rfl, fun _ _ _ _ => rfl, fun _ _ _ _ => rfl, fun _ _ _ _ => rfl, fun _ _ _ _ => rfl, fun _ _ _ _ => rfl, fun _ _ _ _ => rfl, fun _ _ _ _ => rfl, fun _ _ _ _ => rfl, fun _ _ _ _ => rfl, fun _ _ _ _ => rfl, fun _ _ _ _ => rfl, fun _ _ _ _ => rfl, fun _ _ _ _ => rfl, fun _ _ _ _ => rfl, fun _ _ _ _ => rfl, fun _ _ _ _ => rfl, fun _ _ _ _ => rfl, fun _ _ _ _ => rfl, fun _ _ _ _ => rfl, fun _ _ _ _ => rfl, fun _ _ _ _ => rfl, fun _ _ _ _ => rfl, fun _ _ _ _ => rfl, fun _ _ _ _ => rfl, fun _ _ _ _ => rfl, fun _ _ _ _ => rfl, fun _ _ _ _ => rfl, fun _ _ _ _ => rfl, fun _ _ _ _ => rfl, fun _ _ _ _ => rfl, fun _ _ _ _ => rfl, fun _ _ _ _ => rfl, fun _ _ _ _ => rfl, fun _ _ _ _ => rfl, fun _ _ _ _ => rfl, fun _ _ _ _ => rfl, fun _ _ _ _ => rfl, fun _ _ _ _ => rfl, fun _ _ _ _ => rfl, fun _ _ _ _ => rfl, fun _ _ _ _ => rfl⟩
theorem low33 : Try.f33.body.bind (lowerC Try.prog 220 (fun i => List.lookup i [(5, [(0, 0), (1, 0), (2, 0), (3, 0), (4, 0), (5, 0), (6, 0), (7, 0), (8, 0), (9, 0), (10, 0)]), (11, [(0, 0), (1, 0), (2, 0), (3, 0), (4, 0), (5, 0), (6, 0), (7, 0), (8, 0), (9, 0), (10, 0), (11, 0), (12, 0), (13, 0), (14, 0), (15, 0), (16, 0), (17, 0)]), (17, [(0, 0), (1, 0), (2, 0), (3, 0), (4, 0), (5, 0), (6, 0), (7, 0), (8, 0), (9, 0), (10, 0), (11, 0)]), (23, [(0, 0), (1, 0), (2, 0), (3, 0), (4, 0), (5, 0), (6, 0), (7, 0), (8, 0), (9, 0), (10, 0), (11, 0), (12, 0), (13, 0), (14, 0), (15, 0), (16, 0), (17, 0)]), (35, [(0, 0), (1, 0), (2, 0), (3, 0), (4, 0), (5, 0), (6, 0), (7, 0), (8, 0), (9, 0), (10, 0), (11, 0), (12, 0), (13, 0)])])) = some c33.erase := by kernel_rfl
theorem enter33 {args : List Value} {w : World} {R : Ending → World → Prop} (ha : args.length ≤ 220) (h : vc Try.prog c33 (endPost [] R) (argEnv 0 args) w) : Calls Try.prog 33 args.toArray w R :=
  calls_of_vc Try.func33 rfl low33 rfl ha h
/-- The code of slices.rotateCmpFunc[int]. -/
def r34_0 : List G := [.op (.mov 12 (.tmp 2)) none,
  .op (.mov 13 (.tmp 1)) none,
  .op (.ari 14 .sub .i64 (.tmp 12) (.tmp 13)) none,
  .op (.mov 10 (.tmp 14)) none,
  .keep [0, 2, 3, 4, 10]]
def r34_1 : List G := [.op (.mov 15 (.tmp 3)) none,
  .op (.mov 16 (.tmp 2)) none,
  .op (.ari 17 .sub .i64 (.tmp 15) (.tmp 16)) none,
  .op (.mov 11 (.tmp 17)) none,
  .keep [0, 2, 4, 10, 11]]
def r34_2 : List G := [.op (.mov 18 (.tmp 10)) none,
  .op (.mov 19 (.tmp 11)) none,
  .op (.ari 20 .neq .i64 (.tmp 18) (.tmp 19)) none,
  .keep [0, 2, 4, 10, 11, 20]]
def r34_3 : List G := [.op (.mov 21 (.tmp 10)) none,
  .op (.mov 22 (.tmp 11)) none,
  .op (.ari 23 .gtr .i64 (.tmp 21) (.tmp 22)) none,
  .keep [0, 2, 4, 10, 11, 23]]
def r34_4 : List G := [.op (.mov 24 (.tmp 0)) none,
  .op (.mov 25 (.tmp 2)) none,
  .op (.mov 26 (.tmp 10)) none,
  .op (.ari 27 .sub .i64 (.tmp 25) (.tmp 26)) none,
  .op (.mov 28 (.tmp 2)) none,
  .op (.mov 29 (.tmp 11)) none,
  .op (.mov 30 (.tmp 4)) none,
  .op (.call (some 31) 35 [(.tmp 24), (.tmp 27), (.tmp 28), (.tmp 29), (.tmp 30)]) none,
  .keep [0, 2, 4, 10, 11]]
def r34_5 : List G := [.op (.mov 32 (.tmp 10)) none,
  .op (.mov 33 (.tmp 11)) none,
  .op (.ari 34 .sub .i64 (.tmp 32) (.tmp 33)) none,
  .op (.mov 10 (.tmp 34)) none,
  .keep [0, 2, 4, 10, 11]]
def r34_6 : List G := [.op (.mov 35 (.tmp 0)) none,
  .op (.mov 36 (.tmp 2)) none,
  .op (.mov 37 (.tmp 10)) none,
  .op (.ari 38 .sub .i64 (.tmp 36) (.tmp 37)) none,
  .op (.mov 39 (.tmp 2)) none,
  .op (.mov 40 (.tmp 11)) none,
  .op (.ari 41 .add .i64 (.tmp 39) (.tmp 40)) none,
  .op (.mov 42 (.tmp 10)) none,
  .op (.ari 43 .sub .i64 (.tmp 41) (.tmp 42)) none,
  .op (.mov 44 (.tmp 10)) none,
  .op (.mov 45 (.tmp 4)) none,
  .op (.call (some 46) 35 [(.tmp 35), (.tmp 38), (.tmp 43), (.tmp 44), (.tmp 45)]) none,
  .keep [0, 2, 4, 10, 11]]
def r34_7 : List G := [.op (.mov 47 (.tmp 11)) none,
  .op (.mov 48 (.tmp 10)) none,
  .op (.ari 49 .sub .i64 (.tmp 47) (.tmp 48)) none,
  .op (.mov 11 (.tmp 49)) none,
  .keep [0, 2, 4, 10, 11]]
def r34_8 : List G := [.op (.mov 50 (.tmp 0)) none,
  .op (.mov 51 (.tmp 2)) none,
  .op (.mov 52 (.tmp 10)) none,
  .op (.ari 53 .sub .i64 (.tmp 51) (.tmp 52)) none,
  .op (.mov 54 (.tmp 2)) none,
  .op (.mov 55 (.tmp 10)) none,
  .op (.mov 56 (.tmp 4)) none,
  .op (.call (some 57) 35 [(.tmp 50), (.tmp 53), (.tmp 54), (.tmp 55), (.tmp 56)]) none,
  .keep []]
def c34 : C := (.seq (.region r34_0) (.seq (.region r34_1) (.seq (.block 0 (.loop (.seq (.seq (.region r34_2) (.cond (.tmp 20) .skip (.exit 0))) (.block 1 (.seq (.region r34_3) (.cond (.tmp 23) (.seq (.region r34_4) (.region r34_5)) (.seq (.region r34_6) (.region r34_7)))))))) (.region r34_8))))
theorem x34 : (∀ (K : Env → World → Prop) (pan : List PanicEntry → World → Prop) (e : Env) (w : World), vcOps Try.prog r34_0 K pan e w = vcOps Try.prog [.op (.mov 12 (.tmp 2)) none, .op (.mov 13 (.tmp 1)) none, .op (.ari 14 .sub .i64 (.tmp 12) (.tmp 13)) none, .op (.mov 10 (.tmp 14)) none, .keep [0, 2, 3, 4, 10]] K pan e w) ∧
  (∀ (K : Env → World → Prop) (pan : List PanicEntry → World → Prop) (e : Env) (w : World), vcOps Try.prog r34_1 K pan e w = vcOps Try.prog [.op (.mov 15 (.tmp 3)) none, .op (.mov 16 (.tmp 2)) none, .op (.ari 17 .sub .i64 (.tmp 15) (.tmp 16)) none, .op (.mov 11 (.tmp 17)) none, .keep [0, 2, 4, 10, 11]] K pan e w) ∧
  (∀ (K : Env → World → Prop) (pan : List PanicEntry → World → Prop) (e : Env) (w : World), vcOps Try.prog r34_2 K pan e w = vcOps Try.prog [.op (.mov 18 (.tmp 10)) none, .op (.mov 19 (.tmp 11)) none, .op (.ari 20 .neq .i64 (.tmp 18) (.tmp 19)) none, .keep [0, 2, 4, 10, 11, 20]] K pan e w) ∧
  (∀ (K : Env → World → Prop) (pan : List PanicEntry → World → Prop) (e : Env) (w : World), vcOps Try.prog r34_3 K pan e w = vcOps Try.prog [.op (.mov 21 (.tmp 10)) none, .op (.mov 22 (.tmp 11)) none, .op (.ari 23 .gtr .i64 (.tmp 21) (.tmp 22)) none, .keep [0, 2, 4, 10, 11, 23]] K pan e w) ∧
  (∀ (K : Env → World → Prop) (pan : List PanicEntry → World → Prop) (e : Env) (w : World), vcOps Try.prog r34_4 K pan e w = vcOps Try.prog [.op (.mov 24 (.tmp 0)) none, .op (.mov 25 (.tmp 2)) none, .op (.mov 26 (.tmp 10)) none, .op (.ari 27 .sub .i64 (.tmp 25) (.tmp 26)) none, .op (.mov 28 (.tmp 2)) none, .op (.mov 29 (.tmp 11)) none, .op (.mov 30 (.tmp 4)) none, .op (.call (some 31) 35 [(.tmp 24), (.tmp 27), (.tmp 28), (.tmp 29), (.tmp 30)]) none, .keep [0, 2, 4, 10, 11]] K pan e w) ∧
  (∀ (K : Env → World → Prop) (pan : List PanicEntry → World → Prop) (e : Env) (w : World), vcOps Try.prog r34_5 K pan e w = vcOps Try.prog [.op (.mov 32 (.tmp 10)) none, .op (.mov 33 (.tmp 11)) none, .op (.ari 34 .sub .i64 (.tmp 32) (.tmp 33)) none, .op (.mov 10 (.tmp 34)) none, .keep [0, 2, 4, 10, 11]] K pan e w) ∧
  (∀ (K : Env → World → Prop) (pan : List PanicEntry → World → Prop) (e : Env) (w : World), vcOps Try.prog r34_6 K pan e w = vcOps Try.prog [.op (.mov 35 (.tmp 0)) none, .op (.mov 36 (.tmp 2)) none, .op (.mov 37 (.tmp 10)) none, .op (.ari 38 .sub .i64 (.tmp 36) (.tmp 37)) none, .op (.mov 39 (.tmp 2)) none, .op (.mov 40 (.tmp 11)) none, .op (.ari 41 .add .i64 (.tmp 39) (.tmp 40)) none, .op (.mov 42 (.tmp 10)) none, .op (.ari 43 .sub .i64 (.tmp 41) (.tmp 42)) none, .op (.mov 44 (.tmp 10)) none, .op (.mov 45 (.tmp 4)) none, .op (.call (some 46) 35 [(.tmp 35), (.tmp 38), (.tmp 43), (.tmp 44), (.tmp 45)]) none, .keep [0, 2, 4, 10, 11]] K pan e w) ∧
  (∀ (K : Env → World → Prop) (pan : List PanicEntry → World → Prop) (e : Env) (w : World), vcOps Try.prog r34_7 K pan e w = vcOps Try.prog [.op (.mov 47 (.tmp 11)) none, .op (.mov 48 (.tmp 10)) none, .op (.ari 49 .sub .i64 (.tmp 47) (.tmp 48)) none, .op (.mov 11 (.tmp 49)) none, .keep [0, 2, 4, 10, 11]] K pan e w) ∧
  (∀ (K : Env → World → Prop) (pan : List PanicEntry → World → Prop) (e : Env) (w : World), vcOps Try.prog r34_8 K pan e w = vcOps Try.prog [.op (.mov 50 (.tmp 0)) none, .op (.mov 51 (.tmp 2)) none, .op (.mov 52 (.tmp 10)) none, .op (.ari 53 .sub .i64 (.tmp 51) (.tmp 52)) none, .op (.mov 54 (.tmp 2)) none, .op (.mov 55 (.tmp 10)) none, .op (.mov 56 (.tmp 4)) none, .op (.call (some 57) 35 [(.tmp 50), (.tmp 53), (.tmp 54), (.tmp 55), (.tmp 56)]) none, .keep []] K pan e w) := ⟨fun _ _ _ _ => rfl, fun _ _ _ _ => rfl, fun _ _ _ _ => rfl, fun _ _ _ _ => rfl, fun _ _ _ _ => rfl, fun _ _ _ _ => rfl, fun _ _ _ _ => rfl, fun _ _ _ _ => rfl, fun _ _ _ _ => rfl⟩
theorem low34 : Try.f34.body.bind (lowerC Try.prog 58 (fun _ => none)) = some c34.erase := by kernel_rfl
theorem enter34 {args : List Value} {w : World} {R : Ending → World → Prop} (ha : args.length ≤ 58) (h : vc Try.prog c34 (endPost [] R) (argEnv 0 args) w) : Calls Try.prog 34 args.toArray w R :=
  calls_of_vc Try.func34 rfl low34 rfl ha h
/-- The code of slices.swapRangeCmpFunc[int]. -/
def r35_0 : List G := [.op (.mov 10 (.const (.int .i64 0))) none,
  .keep [0, 1, 2, 3, 10]]
def r35_1 : List G := [.op (.mov 11 (.tmp 10)) none,
  .op (.mov 12 (.tmp 3)) none,
  .op (.ari 13 .lss .i64 (.tmp 11) (.tmp 12)) none,
  .keep [0, 1, 2, 3, 10, 13]]
def r35_3 : List G := [.op (.mov 16 (.tmp 0)) none,
  .op (.mov 17 (.tmp 1)) none,
  .op (.mov 18 (.tmp 10)) none,
  .op (.ari 19 .add .i64 (.tmp 17) (.tmp 18)) none,
  .op (.mov 20 (.tmp 0)) none,
  .op (.mov 21 (.tmp 2)) none,
  .op (.mov 22 (.tmp 10)) none,
  .op (.ari 23 .add .i64 (.tmp 21) (.tmp 22)) none,
  .op (.mov 24 (.tmp 0)) none,
  .op (.mov 25 (.tmp 2)) none,
  .op (.mov 26 (.tmp 10)) none,
  .op (.ari 27 .add .i64 (.tmp 25) (.tmp 26)) none,
  .op (.iaddrL 28 1 (.tmp 24) (.tmp 27)) none,
  .op (.load 29 (.tmp 28)) none,
  .op (.mov 30 (.tmp 0)) none,
  .op (.mov 31 (.tmp 1)) none,
  .op (.mov 32 (.tmp 10)) none,
  .op (.ari 33 .add .i64 (.tmp 31) (.tmp 32)) none,
  .op (.iaddrL 34 1 (.tmp 30) (.tmp 33)) none,
  .op (.load 35 (.tmp 34)) none,
  .op (.iaddrL 36 1 (.tmp 16) (.tmp 19)) none,
  .op (.store (.tmp 36) (.tmp 29)) none,
  .op (.iaddrL 37 1 (.tmp 20) (.tmp 23)) none,
  .op (.store (.tmp 37) (.tmp 35)) none,
  .keep [0, 1, 2, 3, 10]]
def r35_2 : List G := [.op (.mov 14 (.tmp 10)) none,
  .op (.ari 15 .add .i64 (.tmp 14) (.const (.int .i64 1))) none,
  .op (.mov 10 (.tmp 15)) none,
  .keep [0, 1, 2, 3, 10]]
def c35 : C := (.seq (.region r35_0) (.block 0 (.loop (.seq (.seq (.region r35_1) (.cond (.tmp 13) .skip (.exit 0))) (.seq (.block 1 (.regionD r35_3)) (.region r35_2))))))
theorem x35 : (∀ (K : Env → World → Prop) (pan : List PanicEntry → World → Prop) (e : Env) (w : World), vcOps Try.prog r35_0 K pan e w = vcOps Try.prog [.op (.mov 10 (.const (.int .i64 0))) none, .keep [0, 1, 2, 3, 10]] K pan e w) ∧
  (∀ (K : Env → World → Prop) (pan : List PanicEntry → World → Prop) (e : Env) (w : World), vcOps Try.prog r35_1 K pan e w = vcOps Try.prog [.op (.mov 11 (.tmp 10)) none, .op (.mov 12 (.tmp 3)) none, .op (.ari 13 .lss .i64 (.tmp 11) (.tmp 12)) none, .keep [0, 1, 2, 3, 10, 13]] K pan e w) ∧
  (∀ (K : Env → World → Prop) (pan : List PanicEntry → World → Prop) (e : Env) (w : World), vcOps Try.prog r35_3 K pan e w = vcOps Try.prog [.op (.mov 16 (.tmp 0)) none, .op (.mov 17 (.tmp 1)) none, .op (.mov 18 (.tmp 10)) none, .op (.ari 19 .add .i64 (.tmp 17) (.tmp 18)) none, .op (.mov 20 (.tmp 0)) none, .op (.mov 21 (.tmp 2)) none, .op (.mov 22 (.tmp 10)) none, .op (.ari 23 .add .i64 (.tmp 21) (.tmp 22)) none, .op (.mov 24 (.tmp 0)) none, .op (.mov 25 (.tmp 2)) none, .op (.mov 26 (.tmp 10)) none, .op (.ari 27 .add .i64 (.tmp 25) (.tmp 26)) none, .op (.iaddrL 28 1 (.tmp 24) (.tmp 27)) none, .op (.load 29 (.tmp 28)) none, .op (.mov 30 (.tmp 0)) none, .op (.mov 31 (.tmp 1)) none, .op (.mov 32 (.tmp 10)) none, .op (.ari 33 .add .i64 (.tmp 31) (.tmp 32)) none, .op (.iaddrL 34 1 (.tmp 30) (.tmp 33)) none, .op (.load 35 (.tmp 34)) none, .op (.iaddrL 36 1 (.tmp 16) (.tmp 19)) none, .op (.store (.tmp 36) (.tmp 29)) none, .op (.iaddrL 37 1 (.tmp 20) (.tmp 23)) none, .op (.store (.tmp 37) (.tmp 35)) none, .keep [0, 1, 2, 3, 10]] K pan e w) ∧
  (∀ (K : Env → World → Prop) (pan : List PanicEntry → World → Prop) (e : Env) (w : World), vcOps Try.prog r35_2 K pan e w = vcOps Try.prog [.op (.mov 14 (.tmp 10)) none, .op (.ari 15 .add .i64 (.tmp 14) (.const (.int .i64 1))) none, .op (.mov 10 (.tmp 15)) none, .keep [0, 1, 2, 3, 10]] K pan e w) := ⟨fun _ _ _ _ => rfl, fun _ _ _ _ => rfl, fun _ _ _ _ => rfl, fun _ _ _ _ => rfl⟩
theorem low35 : Try.f35.body.bind (lowerC Try.prog 38 (fun i => List.lookup i [(3, [(0, 0), (1, 0), (2, 0), (3, 0), (4, 0), (5, 0), (6, 0), (7, 0), (8, 0), (9, 0), (10, 0), (11, 0), (12, 0), (13, 0), (14, 0), (15, 0), (16, 0), (17, 0), (18, 0), (19, 0), (20, 0), (21, 0), (22, 0), (23, 0)])])) = some c35.erase := by kernel_rfl
theorem enter35 {args : List Value} {w : World} {R : Ending → World → Prop} (ha : args.length ≤ 38) (h : vc Try.prog c35 (endPost [] R) (argEnv 0 args) w) : Calls Try.prog 35 args.toArray w R :=
  calls_of_vc Try.func35 rfl low35 rfl ha h
end Go.Proofs.Ytomckpllbihikaa
