/-
  The code of the buffer's functions, and of what their statement's example runs, read. Conditions: none.
-/
import Derived.Test.YtdggcoaabohlmaaDoorXV
import Derived.Test.YtdggcoaabohlmaaDoorProg
set_option autoImplicit false
set_option linter.unusedSimpArgs false
set_option linter.unusedVariables false
namespace Go.Proofs.YtdggcoaabohlmaaDoor
open X
set_option maxRecDepth 100000
/-- The code of aquatint/cursor.Put. -/
def r24_0 : List G := [.op (.mov 4 (.const (.string { data := #[] }))) none,
  .op (.mov 5 (.const (.int .i64 0))) none,
  .keep [0, 1]]
def r24_1 : List G := [.op (.mov 9 (.tmp 1)) none,
  .op (.call (some 10) 33 [(.tmp 9)]) none,
  .op (.not 11 (.tmp 10)) none,
  .op (.mov 8 (.tmp 11)) none,
  .keep [0, 1, 8]]
def r24_2 : List G := [.op (.mov 4 (.const (.string { data := #[] }))) none,
  .op (.mov 5 (.const (.int .i64 1))) none,
  .keep [4, 5]]
def r24_3 : List G := [.op (.mov 13 (.tmp 0)) none,
  .op (.ari 14 .lss .i64 (.tmp 13) (.const (.int .i64 0))) none,
  .op (.mov 15 (.tmp 14)) none,
  .op (.mov 16 (.tmp 0)) (some (15, false)),
  .op (.mov 17 (.tmp 1)) (some (15, false)),
  .op (.ari 18 .mul .i64 (.const (.int .i64 8)) (.tmp 17)) (some (15, false)),
  .op (.shf 19 .shr .i64 (.tmp 16) (.tmp 18)) (some (15, false)),
  .op (.ari 20 .gtr .i64 (.tmp 19) (.const (.int .i64 0))) (some (15, false)),
  .op (.pick 21 (.tmp 15) (.const (.bool true)) (.tmp 20)) none,
  .op (.mov 12 (.tmp 21)) none,
  .keep [0, 1, 12]]
def r24_4 : List G := [.op (.mov 4 (.const (.string { data := #[] }))) none,
  .op (.mov 5 (.const (.int .i64 11))) none,
  .keep [4, 5]]
def r24_5 : List G := [.op (.mov 22 (.tmp 1)) none,
  .op (.mkSl 23 5 1 1 (.tmp 22) (.tmp 22)) none,
  .op (.mov 6 (.tmp 23)) none,
  .keep [0, 1, 6]]
def r24_6 : List G := [.op (.mov 24 (.tmp 1)) none,
  .op (.mov 25 (.const (.int .i64 0))) none,
  .keep [0, 1, 6, 24, 25]]
def r24_7 : List G := [.op (.ari 26 .lss .i64 (.tmp 25) (.tmp 24)) none,
  .keep [0, 1, 6, 24, 25, 26]]
def r24_8 : List G := [.op (.mov 27 (.tmp 25)) none,
  .op (.mov 7 (.tmp 27)) none,
  .keep [0, 1, 6, 7, 24, 25]]
def r24_9 : List G := [.op (.mov 28 (.tmp 6)) none,
  .op (.mov 29 (.tmp 1)) none,
  .op (.ari 30 .sub .i64 (.tmp 29) (.const (.int .i64 1))) none,
  .op (.mov 31 (.tmp 7)) none,
  .op (.ari 32 .sub .i64 (.tmp 30) (.tmp 31)) none,
  .op (.mov 33 (.tmp 0)) none,
  .op (.mov 34 (.tmp 7)) none,
  .op (.ari 35 .mul .i64 (.const (.int .i64 8)) (.tmp 34)) none,
  .op (.shf 36 .shr .i64 (.tmp 33) (.tmp 35)) none,
  .op (.conv 37 .u8 (.tmp 36)) none,
  .op (.iaddrL 38 1 (.tmp 28) (.tmp 32)) none,
  .op (.store (.tmp 38) (.tmp 37)) none,
  .keep [0, 1, 6, 24, 25]]
def r24_10 : List G := [.op (.ari 39 .add .i64 (.tmp 25) (.const (.int .i64 1))) none,
  .op (.mov 25 (.tmp 39)) none,
  .keep [0, 1, 6, 24, 25]]
def r24_11 : List G := [.op (.mov 40 (.tmp 6)) none,
  .op (.conBS 41 (.tmp 40)) none,
  .op (.mov 4 (.tmp 41)) none,
  .op (.mov 5 (.const (.int .i64 0))) none,
  .keep [4, 5]]
def c24 : C := (.seq (.region r24_0) (.seq (.block 0 (.seq (.region r24_1) (.cond (.tmp 8) (.seq (.region r24_2) .ret) (.seq (.region r24_3) (.cond (.tmp 12) (.seq (.region r24_4) .ret) .skip))))) (.seq (.region r24_5) (.seq (.seq (.region r24_6) (.block 1 (.loop (.seq (.region r24_7) (.seq (.cond (.tmp 26) .skip (.exit 1)) (.seq (.block 2 (.seq (.region r24_8) (.region r24_9))) (.region r24_10))))))) (.seq (.region r24_11) .ret)))))
theorem x24 : (∀ (K : Env → World → Prop) (pan : List PanicEntry → World → Prop) (e : Env) (w : World), vcOps Tryd.prog r24_0 K pan e w = vcOps Tryd.prog [.op (.mov 4 (.const (.string { data := #[] }))) none, .op (.mov 5 (.const (.int .i64 0))) none, .keep [0, 1]] K pan e w) ∧
  (∀ (K : Env → World → Prop) (pan : List PanicEntry → World → Prop) (e : Env) (w : World), vcOps Tryd.prog r24_1 K pan e w = vcOps Tryd.prog [.op (.mov 9 (.tmp 1)) none, .op (.call (some 10) 33 [(.tmp 9)]) none, .op (.not 11 (.tmp 10)) none, .op (.mov 8 (.tmp 11)) none, .keep [0, 1, 8]] K pan e w) ∧
  (∀ (K : Env → World → Prop) (pan : List PanicEntry → World → Prop) (e : Env) (w : World), vcOps Tryd.prog r24_2 K pan e w = vcOps Tryd.prog [.op (.mov 4 (.const (.string { data := #[] }))) none, .op (.mov 5 (.const (.int .i64 1))) none, .keep [4, 5]] K pan e w) ∧
  (∀ (K : Env → World → Prop) (pan : List PanicEntry → World → Prop) (e : Env) (w : World), vcOps Tryd.prog r24_3 K pan e w = vcOps Tryd.prog [.op (.mov 13 (.tmp 0)) none, .op (.ari 14 .lss .i64 (.tmp 13) (.const (.int .i64 0))) none, .op (.mov 15 (.tmp 14)) none, .op (.mov 16 (.tmp 0)) (some (15, false)), .op (.mov 17 (.tmp 1)) (some (15, false)), .op (.ari 18 .mul .i64 (.const (.int .i64 8)) (.tmp 17)) (some (15, false)), .op (.shf 19 .shr .i64 (.tmp 16) (.tmp 18)) (some (15, false)), .op (.ari 20 .gtr .i64 (.tmp 19) (.const (.int .i64 0))) (some (15, false)), .op (.pick 21 (.tmp 15) (.const (.bool true)) (.tmp 20)) none, .op (.mov 12 (.tmp 21)) none, .keep [0, 1, 12]] K pan e w) ∧
  (∀ (K : Env → World → Prop) (pan : List PanicEntry → World → Prop) (e : Env) (w : World), vcOps Tryd.prog r24_4 K pan e w = vcOps Tryd.prog [.op (.mov 4 (.const (.string { data := #[] }))) none, .op (.mov 5 (.const (.int .i64 11))) none, .keep [4, 5]] K pan e w) ∧
  (∀ (K : Env → World → Prop) (pan : List PanicEntry → World → Prop) (e : Env) (w : World), vcOps Tryd.prog r24_5 K pan e w = vcOps Tryd.prog [.op (.mov 22 (.tmp 1)) none, .op (.mkSl 23 5 1 1 (.tmp 22) (.tmp 22)) none, .op (.mov 6 (.tmp 23)) none, .keep [0, 1, 6]] K pan e w) ∧
  (∀ (K : Env → World → Prop) (pan : List PanicEntry → World → Prop) (e : Env) (w : World), vcOps Tryd.prog r24_6 K pan e w = vcOps Tryd.prog [.op (.mov 24 (.tmp 1)) none, .op (.mov 25 (.const (.int .i64 0))) none, .keep [0, 1, 6, 24, 25]] K pan e w) ∧
  (∀ (K : Env → World → Prop) (pan : List PanicEntry → World → Prop) (e : Env) (w : World), vcOps Tryd.prog r24_7 K pan e w = vcOps Tryd.prog [.op (.ari 26 .lss .i64 (.tmp 25) (.tmp 24)) none, .keep [0, 1, 6, 24, 25, 26]] K pan e w) ∧
  (∀ (K : Env → World → Prop) (pan : List PanicEntry → World → Prop) (e : Env) (w : World), vcOps Tryd.prog r24_8 K pan e w = vcOps Tryd.prog [.op (.mov 27 (.tmp 25)) none, .op (.mov 7 (.tmp 27)) none, .keep [0, 1, 6, 7, 24, 25]] K pan e w) ∧
  (∀ (K : Env → World → Prop) (pan : List PanicEntry → World → Prop) (e : Env) (w : World), vcOps Tryd.prog r24_9 K pan e w = vcOps Tryd.prog [.op (.mov 28 (.tmp 6)) none, .op (.mov 29 (.tmp 1)) none, .op (.ari 30 .sub .i64 (.tmp 29) (.const (.int .i64 1))) none, .op (.mov 31 (.tmp 7)) none, .op (.ari 32 .sub .i64 (.tmp 30) (.tmp 31)) none, .op (.mov 33 (.tmp 0)) none, .op (.mov 34 (.tmp 7)) none, .op (.ari 35 .mul .i64 (.const (.int .i64 8)) (.tmp 34)) none, .op (.shf 36 .shr .i64 (.tmp 33) (.tmp 35)) none, .op (.conv 37 .u8 (.tmp 36)) none, .op (.iaddrL 38 1 (.tmp 28) (.tmp 32)) none, .op (.store (.tmp 38) (.tmp 37)) none, .keep [0, 1, 6, 24, 25]] K pan e w) ∧
  (∀ (K : Env → World → Prop) (pan : List PanicEntry → World → Prop) (e : Env) (w : World), vcOps Tryd.prog r24_10 K pan e w = vcOps Tryd.prog [.op (.ari 39 .add .i64 (.tmp 25) (.const (.int .i64 1))) none, .op (.mov 25 (.tmp 39)) none, .keep [0, 1, 6, 24, 25]] K pan e w) ∧
  (∀ (K : Env → World → Prop) (pan : List PanicEntry → World → Prop) (e : Env) (w : World), vcOps Tryd.prog r24_11 K pan e w = vcOps Tryd.prog [.op (.mov 40 (.tmp 6)) none, .op (.conBS 41 (.tmp 40)) none, .op (.mov 4 (.tmp 41)) none, .op (.mov 5 (.const (.int .i64 0))) none, .keep [4, 5]] K pan e w) := ⟨fun _ _ _ _ => rfl, fun _ _ _ _ => rfl, fun _ _ _ _ => rfl, fun _ _ _ _ => rfl, fun _ _ _ _ => rfl, fun _ _ _ _ => rfl, fun _ _ _ _ => rfl, fun _ _ _ _ => rfl, fun _ _ _ _ => rfl, fun _ _ _ _ => rfl, fun _ _ _ _ => rfl, fun _ _ _ _ => rfl⟩
theorem low24 : Tryd.f24.body.bind (lowerC Tryd.prog 42 (fun _ => none)) = some c24.erase := by kernel_rfl
theorem enter24 {args : List Value} {w : World} {R : Ending → World → Prop} (ha : args.length ≤ 42) (h : vc Tryd.prog c24 (endPost [.t 4, .t 5] R) (argEnv 0 args) w) : Calls Tryd.prog 24 args.toArray w R :=
  calls_of_vc Tryd.func24 rfl low24 rfl ha h
/-- The code of (*aquatint/wire.writer).num. -/
def r28_0 : List G := [.op (.mov 9 (.tmp 1)) none,
  .op (.mov 10 (.tmp 2)) none,
  .op (.call (some 11) 24 [(.tmp 9), (.tmp 10)]) none,
  .op (.mov 8 (.tmp 11)) none,
  .op (.ext 12 0 (.tmp 8)) none,
  .op (.ext 13 1 (.tmp 8)) none,
  .op (.mov 6 (.tmp 12)) none,
  .op (.mov 7 (.tmp 13)) none,
  .keep [0, 6, 7]]
def r28_1 : List G := [.op (.mov 14 (.tmp 0)) none,
  .op (.mov 15 (.tmp 0)) none,
  .op (.nilCheck 16 (.tmp 15)) none,
  .op (.faddr 17 2 (.tmp 16)) none,
  .op (.load 18 (.tmp 17)) none,
  .op (.mov 19 (.tmp 18)) none,
  .op (.mov 20 (.tmp 7)) (some (19, false)),
  .op (.ari 21 .neq .i64 (.tmp 20) (.const (.int .i64 0))) (some (19, false)),
  .op (.pick 22 (.tmp 19) (.const (.bool true)) (.tmp 21)) none,
  .op (.nilCheck 23 (.tmp 14)) none,
  .op (.faddr 24 2 (.tmp 23)) none,
  .op (.store (.tmp 24) (.tmp 22)) none,
  .keep [0, 6]]
def r28_2 : List G := [.op (.mov 25 (.tmp 0)) none,
  .op (.nilCheck 26 (.tmp 25)) none,
  .op (.faddr 27 0 (.tmp 26)) none,
  .op (.mov 28 (.tmp 6)) none,
  .op (.call (some 29) 30 [(.tmp 27), (.tmp 28)]) none,
  .keep []]
def c28 : C := (.seq (.region r28_0) (.seq (.region r28_1) (.region r28_2)))
theorem x28 : (∀ (K : Env → World → Prop) (pan : List PanicEntry → World → Prop) (e : Env) (w : World), vcOps Tryd.prog r28_0 K pan e w = vcOps Tryd.prog [.op (.mov 9 (.tmp 1)) none, .op (.mov 10 (.tmp 2)) none, .op (.call (some 11) 24 [(.tmp 9), (.tmp 10)]) none, .op (.mov 8 (.tmp 11)) none, .op (.ext 12 0 (.tmp 8)) none, .op (.ext 13 1 (.tmp 8)) none, .op (.mov 6 (.tmp 12)) none, .op (.mov 7 (.tmp 13)) none, .keep [0, 6, 7]] K pan e w) ∧
  (∀ (K : Env → World → Prop) (pan : List PanicEntry → World → Prop) (e : Env) (w : World), vcOps Tryd.prog r28_1 K pan e w = vcOps Tryd.prog [.op (.mov 14 (.tmp 0)) none, .op (.mov 15 (.tmp 0)) none, .op (.nilCheck 16 (.tmp 15)) none, .op (.faddr 17 2 (.tmp 16)) none, .op (.load 18 (.tmp 17)) none, .op (.mov 19 (.tmp 18)) none, .op (.mov 20 (.tmp 7)) (some (19, false)), .op (.ari 21 .neq .i64 (.tmp 20) (.const (.int .i64 0))) (some (19, false)), .op (.pick 22 (.tmp 19) (.const (.bool true)) (.tmp 21)) none, .op (.nilCheck 23 (.tmp 14)) none, .op (.faddr 24 2 (.tmp 23)) none, .op (.store (.tmp 24) (.tmp 22)) none, .keep [0, 6]] K pan e w) ∧
  (∀ (K : Env → World → Prop) (pan : List PanicEntry → World → Prop) (e : Env) (w : World), vcOps Tryd.prog r28_2 K pan e w = vcOps Tryd.prog [.op (.mov 25 (.tmp 0)) none, .op (.nilCheck 26 (.tmp 25)) none, .op (.faddr 27 0 (.tmp 26)) none, .op (.mov 28 (.tmp 6)) none, .op (.call (some 29) 30 [(.tmp 27), (.tmp 28)]) none, .keep []] K pan e w) := ⟨fun _ _ _ _ => rfl, fun _ _ _ _ => rfl, fun _ _ _ _ => rfl⟩
theorem low28 : Tryd.f28.body.bind (lowerC Tryd.prog 30 (fun _ => none)) = some c28.erase := by kernel_rfl
theorem enter28 {args : List Value} {w : World} {R : Ending → World → Prop} (ha : args.length ≤ 30) (h : vc Tryd.prog c28 (endPost [] R) (argEnv 0 args) w) : Calls Tryd.prog 28 args.toArray w R :=
  calls_of_vc Tryd.func28 rfl low28 rfl ha h
/-- The code of (*aquatint/wire.writer).done. -/
def r29_0 : List G := [.op (.mov 2 (.const (.string { data := #[] }))) none,
  .op (.mov 3 (.const (.bool false))) none,
  .keep [0]]
def r29_1 : List G := [.op (.mov 5 (.tmp 0)) none,
  .op (.nilCheck 6 (.tmp 5)) none,
  .op (.faddr 7 0 (.tmp 6)) none,
  .op (.call (some 8) 38 [(.tmp 7)]) none,
  .op (.mov 4 (.tmp 8)) none,
  .keep [0, 4]]
def r29_2 : List G := [.op (.mov 9 (.tmp 4)) none,
  .op (.mov 10 (.tmp 0)) none,
  .op (.nilCheck 11 (.tmp 10)) none,
  .op (.faddr 12 2 (.tmp 11)) none,
  .op (.load 13 (.tmp 12)) none,
  .op (.not 14 (.tmp 13)) none,
  .op (.mov 15 (.tmp 14)) none,
  .op (.mov 16 (.tmp 4)) (some (15, true)),
  .op (.lenS 17 (.tmp 16)) (some (15, true)),
  .op (.ari 18 .leq .i64 (.tmp 17) (.const (.int .i64 16781312))) (some (15, true)),
  .op (.pick 19 (.tmp 15) (.tmp 18) (.const (.bool false))) none,
  .op (.mov 2 (.tmp 9)) none,
  .op (.mov 3 (.tmp 19)) none,
  .keep [2, 3]]
def c29 : C := (.seq (.region r29_0) (.seq (.region r29_1) (.seq (.region r29_2) .ret)))
theorem x29 : (∀ (K : Env → World → Prop) (pan : List PanicEntry → World → Prop) (e : Env) (w : World), vcOps Tryd.prog r29_0 K pan e w = vcOps Tryd.prog [.op (.mov 2 (.const (.string { data := #[] }))) none, .op (.mov 3 (.const (.bool false))) none, .keep [0]] K pan e w) ∧
  (∀ (K : Env → World → Prop) (pan : List PanicEntry → World → Prop) (e : Env) (w : World), vcOps Tryd.prog r29_1 K pan e w = vcOps Tryd.prog [.op (.mov 5 (.tmp 0)) none, .op (.nilCheck 6 (.tmp 5)) none, .op (.faddr 7 0 (.tmp 6)) none, .op (.call (some 8) 38 [(.tmp 7)]) none, .op (.mov 4 (.tmp 8)) none, .keep [0, 4]] K pan e w) ∧
  (∀ (K : Env → World → Prop) (pan : List PanicEntry → World → Prop) (e : Env) (w : World), vcOps Tryd.prog r29_2 K pan e w = vcOps Tryd.prog [.op (.mov 9 (.tmp 4)) none, .op (.mov 10 (.tmp 0)) none, .op (.nilCheck 11 (.tmp 10)) none, .op (.faddr 12 2 (.tmp 11)) none, .op (.load 13 (.tmp 12)) none, .op (.not 14 (.tmp 13)) none, .op (.mov 15 (.tmp 14)) none, .op (.mov 16 (.tmp 4)) (some (15, true)), .op (.lenS 17 (.tmp 16)) (some (15, true)), .op (.ari 18 .leq .i64 (.tmp 17) (.const (.int .i64 16781312))) (some (15, true)), .op (.pick 19 (.tmp 15) (.tmp 18) (.const (.bool false))) none, .op (.mov 2 (.tmp 9)) none, .op (.mov 3 (.tmp 19)) none, .keep [2, 3]] K pan e w) := ⟨fun _ _ _ _ => rfl, fun _ _ _ _ => rfl, fun _ _ _ _ => rfl⟩
theorem low29 : Tryd.f29.body.bind (lowerC Tryd.prog 20 (fun _ => none)) = some c29.erase := by kernel_rfl
theorem enter29 {args : List Value} {w : World} {R : Ending → World → Prop} (ha : args.length ≤ 20) (h : vc Tryd.prog c29 (endPost [.t 2, .t 3] R) (argEnv 0 args) w) : Calls Tryd.prog 29 args.toArray w R :=
  calls_of_vc Tryd.func29 rfl low29 rfl ha h
/-- The code of (*strings.Builder).WriteString. -/
def r30_0 : List G := [.op (.mov 4 (.const (.int .i64 0))) none,
  .op (.mov 5 (.const Go.Value.nilIface)) none,
  .keep [0, 1]]
def r30_1 : List G := [.op (.mov 6 (.tmp 0)) none,
  .op (.call (some 7) 39 [(.tmp 6)]) none,
  .keep [0, 1]]
def r30_2 : List G := [.op (.mov 8 (.tmp 0)) none,
  .op (.mov 9 (.tmp 0)) none,
  .op (.nilCheck 10 (.tmp 9)) none,
  .op (.faddr 11 1 (.tmp 10)) none,
  .op (.load 12 (.tmp 11)) none,
  .op (.mov 13 (.tmp 1)) none,
  .op (.append 14 5 1 1 (.tmp 12) (.tmp 13)) none,
  .op (.nilCheck 15 (.tmp 8)) none,
  .op (.faddr 16 1 (.tmp 15)) none,
  .op (.store (.tmp 16) (.tmp 14)) none,
  .keep [1]]
def r30_3 : List G := [.op (.mov 17 (.tmp 1)) none,
  .op (.lenS 18 (.tmp 17)) none,
  .op (.mov 4 (.tmp 18)) none,
  .op (.mov 5 (.const Go.Value.nilIface)) none,
  .keep [4, 5]]
def c30 : C := (.seq (.region r30_0) (.seq (.region r30_1) (.seq (.region r30_2) (.seq (.region r30_3) .ret))))
theorem x30 : (∀ (K : Env → World → Prop) (pan : List PanicEntry → World → Prop) (e : Env) (w : World), vcOps Tryd.prog r30_0 K pan e w = vcOps Tryd.prog [.op (.mov 4 (.const (.int .i64 0))) none, .op (.mov 5 (.const Go.Value.nilIface)) none, .keep [0, 1]] K pan e w) ∧
  (∀ (K : Env → World → Prop) (pan : List PanicEntry → World → Prop) (e : Env) (w : World), vcOps Tryd.prog r30_1 K pan e w = vcOps Tryd.prog [.op (.mov 6 (.tmp 0)) none, .op (.call (some 7) 39 [(.tmp 6)]) none, .keep [0, 1]] K pan e w) ∧
  (∀ (K : Env → World → Prop) (pan : List PanicEntry → World → Prop) (e : Env) (w : World), vcOps Tryd.prog r30_2 K pan e w = vcOps Tryd.prog [.op (.mov 8 (.tmp 0)) none, .op (.mov 9 (.tmp 0)) none, .op (.nilCheck 10 (.tmp 9)) none, .op (.faddr 11 1 (.tmp 10)) none, .op (.load 12 (.tmp 11)) none, .op (.mov 13 (.tmp 1)) none, .op (.append 14 5 1 1 (.tmp 12) (.tmp 13)) none, .op (.nilCheck 15 (.tmp 8)) none, .op (.faddr 16 1 (.tmp 15)) none, .op (.store (.tmp 16) (.tmp 14)) none, .keep [1]] K pan e w) ∧
  (∀ (K : Env → World → Prop) (pan : List PanicEntry → World → Prop) (e : Env) (w : World), vcOps Tryd.prog r30_3 K pan e w = vcOps Tryd.prog [.op (.mov 17 (.tmp 1)) none, .op (.lenS 18 (.tmp 17)) none, .op (.mov 4 (.tmp 18)) none, .op (.mov 5 (.const Go.Value.nilIface)) none, .keep [4, 5]] K pan e w) := ⟨fun _ _ _ _ => rfl, fun _ _ _ _ => rfl, fun _ _ _ _ => rfl, fun _ _ _ _ => rfl⟩
theorem low30 : Tryd.f30.body.bind (lowerC Tryd.prog 19 (fun _ => none)) = some c30.erase := by kernel_rfl
theorem enter30 {args : List Value} {w : World} {R : Ending → World → Prop} (ha : args.length ≤ 19) (h : vc Tryd.prog c30 (endPost [.t 4, .t 5] R) (argEnv 0 args) w) : Calls Tryd.prog 30 args.toArray w R :=
  calls_of_vc Tryd.func30 rfl low30 rfl ha h
/-- The code of aquatint/cursor.sized. -/
def r33_0 : List G := [.op (.mov 2 (.const (.bool false))) none,
  .keep [0]]
def r33_1 : List G := [.op (.mov 3 (.tmp 0)) none,
  .op (.ari 4 .geq .i64 (.tmp 3) (.const (.int .i64 1))) none,
  .op (.mov 5 (.tmp 4)) none,
  .op (.mov 6 (.tmp 0)) (some (5, true)),
  .op (.ari 7 .leq .i64 (.tmp 6) (.const (.int .i64 4))) (some (5, true)),
  .op (.pick 8 (.tmp 5) (.tmp 7) (.const (.bool false))) none,
  .op (.mov 2 (.tmp 8)) none,
  .keep [2]]
def c33 : C := (.seq (.region r33_0) (.seq (.region r33_1) .ret))
theorem x33 : (∀ (K : Env → World → Prop) (pan : List PanicEntry → World → Prop) (e : Env) (w : World), vcOps Tryd.prog r33_0 K pan e w = vcOps Tryd.prog [.op (.mov 2 (.const (.bool false))) none, .keep [0]] K pan e w) ∧
  (∀ (K : Env → World → Prop) (pan : List PanicEntry → World → Prop) (e : Env) (w : World), vcOps Tryd.prog r33_1 K pan e w = vcOps Tryd.prog [.op (.mov 3 (.tmp 0)) none, .op (.ari 4 .geq .i64 (.tmp 3) (.const (.int .i64 1))) none, .op (.mov 5 (.tmp 4)) none, .op (.mov 6 (.tmp 0)) (some (5, true)), .op (.ari 7 .leq .i64 (.tmp 6) (.const (.int .i64 4))) (some (5, true)), .op (.pick 8 (.tmp 5) (.tmp 7) (.const (.bool false))) none, .op (.mov 2 (.tmp 8)) none, .keep [2]] K pan e w) := ⟨fun _ _ _ _ => rfl, fun _ _ _ _ => rfl⟩
theorem low33 : Tryd.f33.body.bind (lowerC Tryd.prog 9 (fun _ => none)) = some c33.erase := by kernel_rfl
theorem enter33 {args : List Value} {w : World} {R : Ending → World → Prop} (ha : args.length ≤ 9) (h : vc Tryd.prog c33 (endPost [.t 2] R) (argEnv 0 args) w) : Calls Tryd.prog 33 args.toArray w R :=
  calls_of_vc Tryd.func33 rfl low33 rfl ha h
/-- The code of (*strings.Builder).String. -/
def r38_0 : List G := [.op (.mov 2 (.const (.string { data := #[] }))) none,
  .keep [0]]
def r38_1 : List G := [.op (.mov 3 (.tmp 0)) none,
  .op (.nilCheck 4 (.tmp 3)) none,
  .op (.faddr 5 1 (.tmp 4)) none,
  .op (.load 6 (.tmp 5)) none,
  .op (.uSD 7 (.tmp 6)) none,
  .op (.mov 8 (.tmp 0)) none,
  .op (.nilCheck 9 (.tmp 8)) none,
  .op (.faddr 10 1 (.tmp 9)) none,
  .op (.load 11 (.tmp 10)) none,
  .op (.lenL 12 (.tmp 11)) none,
  .op (.uStr 13 92 (.tmp 7) (.tmp 12)) none,
  .op (.mov 2 (.tmp 13)) none,
  .keep [2]]
def c38 : C := (.seq (.region r38_0) (.seq (.regionD r38_1) .ret))
theorem x38 : (∀ (K : Env → World → Prop) (pan : List PanicEntry → World → Prop) (e : Env) (w : World), vcOps Tryd.prog r38_0 K pan e w = vcOps Tryd.prog [.op (.mov 2 (.const (.string { data := #[] }))) none, .keep [0]] K pan e w) ∧
  (∀ (K : Env → World → Prop) (pan : List PanicEntry → World → Prop) (e : Env) (w : World), vcOps Tryd.prog r38_1 K pan e w = vcOps Tryd.prog [.op (.mov 3 (.tmp 0)) none, .op (.nilCheck 4 (.tmp 3)) none, .op (.faddr 5 1 (.tmp 4)) none, .op (.load 6 (.tmp 5)) none, .op (.uSD 7 (.tmp 6)) none, .op (.mov 8 (.tmp 0)) none, .op (.nilCheck 9 (.tmp 8)) none, .op (.faddr 10 1 (.tmp 9)) none, .op (.load 11 (.tmp 10)) none, .op (.lenL 12 (.tmp 11)) none, .op (.uStr 13 92 (.tmp 7) (.tmp 12)) none, .op (.mov 2 (.tmp 13)) none, .keep [2]] K pan e w) := ⟨fun _ _ _ _ => rfl, fun _ _ _ _ => rfl⟩
theorem low38 : Tryd.f38.body.bind (lowerC Tryd.prog 14 (fun i => List.lookup i [(1, .fin [(0, 0), (1, 0), (2, 0), (3, 0), (4, 0), (5, 0), (6, 0), (7, 0), (8, 0), (9, 0), (10, 0), (11, 0)])])) = some c38.erase := by kernel_rfl
theorem enter38 {args : List Value} {w : World} {R : Ending → World → Prop} (ha : args.length ≤ 14) (h : vc Tryd.prog c38 (endPost [.t 2] R) (argEnv 0 args) w) : Calls Tryd.prog 38 args.toArray w R :=
  calls_of_vc Tryd.func38 rfl low38 rfl ha h
/-- The code of aquatint/wire.Frame. -/
def r12_0 : List G := [.op (.mov 2 (.const (.string { data := #[] }))) none,
  .op (.mov 3 (.const (.int .i64 0))) none,
  .keep [0]]
def r12_1 : List G := [.op (.mov 6 (.tmp 0)) none,
  .op (.lenS 7 (.tmp 6)) none,
  .op (.ari 8 .gtr .i64 (.tmp 7) (.const (.int .i64 16781312))) none,
  .keep [0, 8]]
def r12_2 : List G := [.op (.mov 2 (.const (.string { data := #[] }))) none,
  .op (.mov 3 (.const (.int .i64 11))) none,
  .keep [2, 3]]
def r12_3 : List G := [.op (.mov 10 (.tmp 0)) none,
  .op (.lenS 11 (.tmp 10)) none,
  .op (.call (some 12) 24 [(.tmp 11), (.const (.int .i64 4))]) none,
  .op (.mov 9 (.tmp 12)) none,
  .op (.ext 13 0 (.tmp 9)) none,
  .op (.ext 14 1 (.tmp 9)) none,
  .op (.mov 4 (.tmp 13)) none,
  .op (.mov 5 (.tmp 14)) none,
  .keep [0, 4]]
def r12_4 : List G := [.op (.mov 15 (.tmp 4)) none,
  .op (.mov 16 (.tmp 0)) none,
  .op (.sop 17 .add (.tmp 15) (.tmp 16)) none,
  .op (.mov 2 (.tmp 17)) none,
  .op (.mov 3 (.const (.int .i64 0))) none,
  .keep [2, 3]]
def c12 : C := (.seq (.region r12_0) (.seq (.seq (.region r12_1) (.cond (.tmp 8) (.seq (.region r12_2) .ret) .skip)) (.seq (.region r12_3) (.seq (.region r12_4) .ret))))
theorem x12 : (∀ (K : Env → World → Prop) (pan : List PanicEntry → World → Prop) (e : Env) (w : World), vcOps Tryd.prog r12_0 K pan e w = vcOps Tryd.prog [.op (.mov 2 (.const (.string { data := #[] }))) none, .op (.mov 3 (.const (.int .i64 0))) none, .keep [0]] K pan e w) ∧
  (∀ (K : Env → World → Prop) (pan : List PanicEntry → World → Prop) (e : Env) (w : World), vcOps Tryd.prog r12_1 K pan e w = vcOps Tryd.prog [.op (.mov 6 (.tmp 0)) none, .op (.lenS 7 (.tmp 6)) none, .op (.ari 8 .gtr .i64 (.tmp 7) (.const (.int .i64 16781312))) none, .keep [0, 8]] K pan e w) ∧
  (∀ (K : Env → World → Prop) (pan : List PanicEntry → World → Prop) (e : Env) (w : World), vcOps Tryd.prog r12_2 K pan e w = vcOps Tryd.prog [.op (.mov 2 (.const (.string { data := #[] }))) none, .op (.mov 3 (.const (.int .i64 11))) none, .keep [2, 3]] K pan e w) ∧
  (∀ (K : Env → World → Prop) (pan : List PanicEntry → World → Prop) (e : Env) (w : World), vcOps Tryd.prog r12_3 K pan e w = vcOps Tryd.prog [.op (.mov 10 (.tmp 0)) none, .op (.lenS 11 (.tmp 10)) none, .op (.call (some 12) 24 [(.tmp 11), (.const (.int .i64 4))]) none, .op (.mov 9 (.tmp 12)) none, .op (.ext 13 0 (.tmp 9)) none, .op (.ext 14 1 (.tmp 9)) none, .op (.mov 4 (.tmp 13)) none, .op (.mov 5 (.tmp 14)) none, .keep [0, 4]] K pan e w) ∧
  (∀ (K : Env → World → Prop) (pan : List PanicEntry → World → Prop) (e : Env) (w : World), vcOps Tryd.prog r12_4 K pan e w = vcOps Tryd.prog [.op (.mov 15 (.tmp 4)) none, .op (.mov 16 (.tmp 0)) none, .op (.sop 17 .add (.tmp 15) (.tmp 16)) none, .op (.mov 2 (.tmp 17)) none, .op (.mov 3 (.const (.int .i64 0))) none, .keep [2, 3]] K pan e w) := ⟨fun _ _ _ _ => rfl, fun _ _ _ _ => rfl, fun _ _ _ _ => rfl, fun _ _ _ _ => rfl, fun _ _ _ _ => rfl⟩
theorem low12 : Tryd.f12.body.bind (lowerC Tryd.prog 18 (fun _ => none)) = some c12.erase := by kernel_rfl
theorem enter12 {args : List Value} {w : World} {R : Ending → World → Prop} (ha : args.length ≤ 18) (h : vc Tryd.prog c12 (endPost [.t 2, .t 3] R) (argEnv 0 args) w) : Calls Tryd.prog 12 args.toArray w R :=
  calls_of_vc Tryd.func12 rfl low12 rfl ha h
/-- The code of aquatint/aquatintlaw24.awake. -/
def r6_0 : List G := [.op (.mov 0 (.const (.bool false))) none,
  .keep []]
def r6_1 : List G := [.op (.build 6 50 [(0, 1, (.const (.int .i64 3))), (1, 1, (.const (.int .i64 7)))]) none,
  .op (.call (some 7) 19 [(.tmp 6)]) none,
  .op (.mov 5 (.tmp 7)) none,
  .op (.ext 8 0 (.tmp 5)) none,
  .op (.ext 9 1 (.tmp 5)) none,
  .op (.mov 1 (.tmp 8)) none,
  .op (.mov 2 (.tmp 9)) none,
  .keep [1, 2]]
def r6_2 : List G := [.op (.mov 11 (.tmp 1)) none,
  .op (.call (some 12) 12 [(.tmp 11)]) none,
  .op (.mov 10 (.tmp 12)) none,
  .op (.ext 13 0 (.tmp 10)) none,
  .op (.ext 14 1 (.tmp 10)) none,
  .op (.mov 3 (.tmp 13)) none,
  .op (.mov 4 (.tmp 14)) none,
  .keep [2, 3, 4]]
def r6_3 : List G := [.op (.mov 15 (.tmp 2)) none,
  .op (.ari 16 .eql .i64 (.tmp 15) (.const (.int .i64 0))) none,
  .op (.mov 17 (.tmp 16)) none,
  .op (.mov 18 (.tmp 4)) (some (17, true)),
  .op (.ari 19 .eql .i64 (.tmp 18) (.const (.int .i64 0))) (some (17, true)),
  .op (.pick 20 (.tmp 17) (.tmp 19) (.const (.bool false))) none,
  .op (.mov 21 (.tmp 20)) none,
  .op (.mov 22 (.tmp 3)) (some (21, true)),
  .op (.sop 23 .eql (.tmp 22) (.const (.string { data := #[0, 0, 0, 5, 3, 0, 0, 0, 7] }))) (some (21, true)),
  .op (.pick 24 (.tmp 21) (.tmp 23) (.const (.bool false))) none,
  .op (.mov 0 (.tmp 24)) none,
  .keep [0]]
def c6 : C := (.seq (.region r6_0) (.seq (.region r6_1) (.seq (.region r6_2) (.seq (.region r6_3) .ret))))
theorem x6 : (∀ (K : Env → World → Prop) (pan : List PanicEntry → World → Prop) (e : Env) (w : World), vcOps Tryd.prog r6_0 K pan e w = vcOps Tryd.prog [.op (.mov 0 (.const (.bool false))) none, .keep []] K pan e w) ∧
  (∀ (K : Env → World → Prop) (pan : List PanicEntry → World → Prop) (e : Env) (w : World), vcOps Tryd.prog r6_1 K pan e w = vcOps Tryd.prog [.op (.build 6 50 [(0, 1, (.const (.int .i64 3))), (1, 1, (.const (.int .i64 7)))]) none, .op (.call (some 7) 19 [(.tmp 6)]) none, .op (.mov 5 (.tmp 7)) none, .op (.ext 8 0 (.tmp 5)) none, .op (.ext 9 1 (.tmp 5)) none, .op (.mov 1 (.tmp 8)) none, .op (.mov 2 (.tmp 9)) none, .keep [1, 2]] K pan e w) ∧
  (∀ (K : Env → World → Prop) (pan : List PanicEntry → World → Prop) (e : Env) (w : World), vcOps Tryd.prog r6_2 K pan e w = vcOps Tryd.prog [.op (.mov 11 (.tmp 1)) none, .op (.call (some 12) 12 [(.tmp 11)]) none, .op (.mov 10 (.tmp 12)) none, .op (.ext 13 0 (.tmp 10)) none, .op (.ext 14 1 (.tmp 10)) none, .op (.mov 3 (.tmp 13)) none, .op (.mov 4 (.tmp 14)) none, .keep [2, 3, 4]] K pan e w) ∧
  (∀ (K : Env → World → Prop) (pan : List PanicEntry → World → Prop) (e : Env) (w : World), vcOps Tryd.prog r6_3 K pan e w = vcOps Tryd.prog [.op (.mov 15 (.tmp 2)) none, .op (.ari 16 .eql .i64 (.tmp 15) (.const (.int .i64 0))) none, .op (.mov 17 (.tmp 16)) none, .op (.mov 18 (.tmp 4)) (some (17, true)), .op (.ari 19 .eql .i64 (.tmp 18) (.const (.int .i64 0))) (some (17, true)), .op (.pick 20 (.tmp 17) (.tmp 19) (.const (.bool false))) none, .op (.mov 21 (.tmp 20)) none, .op (.mov 22 (.tmp 3)) (some (21, true)), .op (.sop 23 .eql (.tmp 22) (.const (.string { data := #[0, 0, 0, 5, 3, 0, 0, 0, 7] }))) (some (21, true)), .op (.pick 24 (.tmp 21) (.tmp 23) (.const (.bool false))) none, .op (.mov 0 (.tmp 24)) none, .keep [0]] K pan e w) := ⟨fun _ _ _ _ => rfl, fun _ _ _ _ => rfl, fun _ _ _ _ => rfl, fun _ _ _ _ => rfl⟩
theorem low6 : Tryd.f6.body.bind (lowerC Tryd.prog 25 (fun _ => none)) = some c6.erase := by kernel_rfl
theorem enter6 {args : List Value} {w : World} {R : Ending → World → Prop} (ha : args.length ≤ 25) (h : vc Tryd.prog c6 (endPost [.t 0] R) (argEnv 0 args) w) : Calls Tryd.prog 6 args.toArray w R :=
  calls_of_vc Tryd.func6 rfl low6 rfl ha h
/-- The code of aquatint/wire.Bytes. -/
def r19_0 : List G := [.op (.box 1 50 (.tmp 0)) none,
  .op (.mov 2 (.const (.string { data := #[] }))) none,
  .op (.mov 3 (.const (.int .i64 0))) none,
  .keep [1]]
def r19_1 : List G := [.op (.loadN 8 11 (.tmp 1)) none,
  .op (.call (some 9) 27 [(.tmp 8)]) none,
  .op (.mov 7 (.tmp 9)) none,
  .op (.ext 10 0 (.tmp 7)) none,
  .op (.ext 11 1 (.tmp 7)) none,
  .op (.ext 12 2 (.tmp 7)) none,
  .op (.alloc 5 50) none,
  .op (.mov 4 (.tmp 10)) none,
  .op (.storeN 11 (.tmp 5) (.tmp 11)) none,
  .op (.mov 6 (.tmp 12)) none,
  .keep [1, 4, 5, 6]]
def r19_2 : List G := [.op (.mov 13 (.tmp 6)) none,
  .op (.not 14 (.tmp 13)) none,
  .op (.mov 15 (.tmp 14)) none,
  .op (.loadN 16 11 (.tmp 1)) (some (15, false)),
  .op (.loadN 17 11 (.tmp 5)) (some (15, false)),
  .op (.aeq 18 true 50 (.tmp 16) (.tmp 17)) (some (15, false)),
  .op (.pick 19 (.tmp 15) (.const (.bool true)) (.tmp 18)) none,
  .keep [4, 19]]
def r19_3 : List G := [.op (.mov 2 (.const (.string { data := #[] }))) none,
  .op (.mov 3 (.const (.int .i64 1))) none,
  .keep [2, 3]]
def r19_4 : List G := [.op (.mov 20 (.tmp 4)) none,
  .op (.mov 2 (.tmp 20)) none,
  .op (.mov 3 (.const (.int .i64 0))) none,
  .keep [2, 3]]
def c19 : C := (.seq (.region r19_0) (.seq (.region r19_1) (.seq (.seq (.region r19_2) (.cond (.tmp 19) (.seq (.region r19_3) .ret) .skip)) (.seq (.region r19_4) .ret))))
theorem x19 : (∀ (K : Env → World → Prop) (pan : List PanicEntry → World → Prop) (e : Env) (w : World), vcOps Tryd.prog r19_0 K pan e w = vcOps Tryd.prog [.op (.box 1 50 (.tmp 0)) none, .op (.mov 2 (.const (.string { data := #[] }))) none, .op (.mov 3 (.const (.int .i64 0))) none, .keep [1]] K pan e w) ∧
  (∀ (K : Env → World → Prop) (pan : List PanicEntry → World → Prop) (e : Env) (w : World), vcOps Tryd.prog r19_1 K pan e w = vcOps Tryd.prog [.op (.loadN 8 11 (.tmp 1)) none, .op (.call (some 9) 27 [(.tmp 8)]) none, .op (.mov 7 (.tmp 9)) none, .op (.ext 10 0 (.tmp 7)) none, .op (.ext 11 1 (.tmp 7)) none, .op (.ext 12 2 (.tmp 7)) none, .op (.alloc 5 50) none, .op (.mov 4 (.tmp 10)) none, .op (.storeN 11 (.tmp 5) (.tmp 11)) none, .op (.mov 6 (.tmp 12)) none, .keep [1, 4, 5, 6]] K pan e w) ∧
  (∀ (K : Env → World → Prop) (pan : List PanicEntry → World → Prop) (e : Env) (w : World), vcOps Tryd.prog r19_2 K pan e w = vcOps Tryd.prog [.op (.mov 13 (.tmp 6)) none, .op (.not 14 (.tmp 13)) none, .op (.mov 15 (.tmp 14)) none, .op (.loadN 16 11 (.tmp 1)) (some (15, false)), .op (.loadN 17 11 (.tmp 5)) (some (15, false)), .op (.aeq 18 true 50 (.tmp 16) (.tmp 17)) (some (15, false)), .op (.pick 19 (.tmp 15) (.const (.bool true)) (.tmp 18)) none, .keep [4, 19]] K pan e w) ∧
  (∀ (K : Env → World → Prop) (pan : List PanicEntry → World → Prop) (e : Env) (w : World), vcOps Tryd.prog r19_3 K pan e w = vcOps Tryd.prog [.op (.mov 2 (.const (.string { data := #[] }))) none, .op (.mov 3 (.const (.int .i64 1))) none, .keep [2, 3]] K pan e w) ∧
  (∀ (K : Env → World → Prop) (pan : List PanicEntry → World → Prop) (e : Env) (w : World), vcOps Tryd.prog r19_4 K pan e w = vcOps Tryd.prog [.op (.mov 20 (.tmp 4)) none, .op (.mov 2 (.tmp 20)) none, .op (.mov 3 (.const (.int .i64 0))) none, .keep [2, 3]] K pan e w) := ⟨fun _ _ _ _ => rfl, fun _ _ _ _ => rfl, fun _ _ _ _ => rfl, fun _ _ _ _ => rfl, fun _ _ _ _ => rfl⟩
theorem low19 : Tryd.f19.body.bind (lowerC Tryd.prog 21 (fun _ => none)) = some c19.erase := by kernel_rfl
theorem enter19 {args : List Value} {w : World} {R : Ending → World → Prop} (ha : args.length ≤ 21) (h : vc Tryd.prog c19 (endPost [.t 2, .t 3] R) (argEnv 0 args) w) : Calls Tryd.prog 19 args.toArray w R :=
  calls_of_vc Tryd.func19 rfl low19 rfl ha h
/-- The code of aquatint/wire.write. -/
def r27_0 : List G := [.op (.box 1 50 (.tmp 0)) none,
  .op (.mov 2 (.const (.string { data := #[] }))) none,
  .op (.alloc 3 50) none,
  .op (.mov 4 (.const (.bool false))) none,
  .keep [1, 3]]
def r27_1 : List G := [.op (.build 11 70 []) none,
  .op (.box 12 70 (.tmp 11)) none,
  .op (.mov 5 (.tmp 12)) none,
  .keep [1, 3, 5]]
def r27_2 : List G := [.op (.faddr 13 0 (.tmp 1)) none,
  .op (.load 14 (.tmp 13)) none,
  .op (.build 15 50 [(0, 1, (.tmp 14))]) none,
  .op (.alloc 6 50) none,
  .op (.storeN 11 (.tmp 6) (.tmp 15)) none,
  .keep [1, 3, 5, 6]]
def r27_3 : List G := [.op (.mov 16 (.tmp 5)) none,
  .op (.faddr 17 0 (.tmp 1)) none,
  .op (.load 18 (.tmp 17)) none,
  .op (.call (some 19) 28 [(.tmp 16), (.tmp 18), (.const (.int .i64 1))]) none,
  .keep [1, 3, 5, 6]]
def r27_4 : List G := [.op (.faddr 20 0 (.tmp 1)) none,
  .op (.load 21 (.tmp 20)) none,
  .keep [1, 3, 5, 6, 21]]
def r27_6 : List G := [.op (.ari 26 .eql .i64 (.tmp 21) (.const (.int .i64 0))) none,
  .op (.mov 25 (.tmp 26)) none,
  .keep [1, 3, 5, 6, 21, 25]]
def r27_7 : List (Nat × G) := [(0, .op (.faddr 27 3 (.tmp 1)) none),
  (0, .op (.load 28 (.tmp 27)) none),
  (0, .op (.faddr 29 4 (.tmp 1)) none),
  (1, .op (.load 30 (.tmp 29)) none),
  (0, .op (.faddr 31 3 (.tmp 6)) none),
  (2, .op (.store (.tmp 31) (.tmp 28)) none),
  (0, .op (.faddr 32 4 (.tmp 6)) none),
  (0, .op (.store (.tmp 32) (.tmp 30)) none),
  (0, .keep [1, 3, 5, 6])]
def r27_8 : List G := [.op (.mov 33 (.tmp 5)) none,
  .op (.faddr 34 3 (.tmp 1)) none,
  .op (.load 35 (.tmp 34)) none,
  .op (.call (some 36) 36 [(.tmp 33), (.tmp 35)]) none,
  .keep [1, 3, 5, 6]]
def r27_9 : List G := [.op (.mov 37 (.tmp 5)) none,
  .op (.nilCheck 38 (.tmp 37)) none,
  .op (.faddr 39 0 (.tmp 38)) none,
  .op (.faddr 40 4 (.tmp 1)) none,
  .op (.load 41 (.tmp 40)) none,
  .op (.call (some 42) 30 [(.tmp 39), (.tmp 41)]) none,
  .keep [1, 3, 5, 6]]
def r27_10 : List G := [.op (.ari 44 .eql .i64 (.tmp 21) (.const (.int .i64 1))) none,
  .op (.mov 43 (.tmp 44)) none,
  .keep [1, 3, 5, 6, 21, 43]]
def r27_11 : List G := [.op (.ari 45 .eql .i64 (.tmp 21) (.const (.int .i64 2))) none,
  .op (.mov 43 (.tmp 45)) none,
  .keep [1, 3, 5, 6, 21, 43]]
def r27_12 : List G := [.op (.ari 46 .eql .i64 (.tmp 21) (.const (.int .i64 5))) none,
  .op (.mov 43 (.tmp 46)) none,
  .keep [1, 3, 5, 6, 21, 43]]
def r27_13 : List (Nat × G) := [(0, .op (.faddr 47 1 (.tmp 1)) none),
  (0, .op (.load 48 (.tmp 47)) none),
  (0, .op (.faddr 49 2 (.tmp 1)) none),
  (1, .op (.load 50 (.tmp 49)) none),
  (0, .op (.faddr 51 1 (.tmp 6)) none),
  (2, .op (.store (.tmp 51) (.tmp 48)) none),
  (0, .op (.faddr 52 2 (.tmp 6)) none),
  (0, .op (.store (.tmp 52) (.tmp 50)) none),
  (0, .keep [1, 3, 5, 6])]
def r27_14 : List G := [.op (.mov 53 (.tmp 5)) none,
  .op (.faddr 54 1 (.tmp 1)) none,
  .op (.load 55 (.tmp 54)) none,
  .op (.call (some 56) 28 [(.tmp 53), (.tmp 55), (.const (.int .i64 4))]) none,
  .keep [1, 3, 5, 6]]
def r27_15 : List G := [.op (.mov 57 (.tmp 5)) none,
  .op (.faddr 58 2 (.tmp 1)) none,
  .op (.load 59 (.tmp 58)) none,
  .op (.call (some 60) 28 [(.tmp 57), (.tmp 59), (.const (.int .i64 4))]) none,
  .keep [1, 3, 5, 6]]
def r27_16 : List G := [.op (.ari 62 .eql .i64 (.tmp 21) (.const (.int .i64 3))) none,
  .op (.mov 61 (.tmp 62)) none,
  .keep [1, 3, 5, 6, 21, 61]]
def r27_17 : List G := [.op (.ari 63 .eql .i64 (.tmp 21) (.const (.int .i64 4))) none,
  .op (.mov 61 (.tmp 63)) none,
  .keep [1, 3, 5, 6, 21, 61]]
def r27_18 : List G := [.op (.faddr 64 1 (.tmp 1)) none,
  .op (.load 65 (.tmp 64)) none,
  .op (.faddr 66 1 (.tmp 6)) none,
  .op (.store (.tmp 66) (.tmp 65)) none,
  .keep [1, 3, 5, 6]]
def r27_19 : List G := [.op (.mov 67 (.tmp 5)) none,
  .op (.faddr 68 1 (.tmp 1)) none,
  .op (.load 69 (.tmp 68)) none,
  .op (.call (some 70) 28 [(.tmp 67), (.tmp 69), (.const (.int .i64 4))]) none,
  .keep [1, 3, 5, 6]]
def r27_20 : List G := [.op (.ari 72 .eql .i64 (.tmp 21) (.const (.int .i64 6))) none,
  .op (.mov 71 (.tmp 72)) none,
  .keep [1, 3, 5, 6, 71]]
def r27_5 : List G := [.op (.mov 22 (.tmp 5)) none,
  .op (.nilCheck 23 (.tmp 22)) none,
  .op (.faddr 24 2 (.tmp 23)) none,
  .op (.store (.tmp 24) (.const (.bool true))) none,
  .keep [1, 3, 5, 6]]
def r27_21 : List G := [.op (.faddr 73 0 (.tmp 1)) none,
  .op (.load 74 (.tmp 73)) none,
  .op (.ari 75 .eql .i64 (.tmp 74) (.const (.int .i64 1))) none,
  .keep [1, 3, 5, 6, 75]]
def r27_22 : List G := [.op (.faddr 76 5 (.tmp 1)) none,
  .op (.loadN 77 6 (.tmp 76)) none,
  .op (.faddr 78 5 (.tmp 6)) none,
  .op (.storeN 6 (.tmp 78) (.tmp 77)) none,
  .keep [1, 3, 5, 6]]
def r27_23 : List G := [.op (.faddr 80 5 (.tmp 1)) none,
  .op (.loadN 81 6 (.tmp 80)) none,
  .op (.call (some 82) 37 [(.tmp 81)]) none,
  .op (.mov 79 (.tmp 82)) none,
  .op (.ext 83 0 (.tmp 79)) none,
  .op (.ext 84 1 (.tmp 79)) none,
  .op (.mov 7 (.tmp 83)) none,
  .op (.mov 8 (.tmp 84)) none,
  .keep [3, 5, 6, 7, 8]]
def r27_24 : List G := [.op (.mov 85 (.tmp 5)) none,
  .op (.mov 86 (.tmp 5)) none,
  .op (.nilCheck 87 (.tmp 86)) none,
  .op (.faddr 88 2 (.tmp 87)) none,
  .op (.load 89 (.tmp 88)) none,
  .op (.mov 90 (.tmp 89)) none,
  .op (.mov 91 (.tmp 8)) (some (90, false)),
  .op (.ari 92 .neq .i64 (.tmp 91) (.const (.int .i64 0))) (some (90, false)),
  .op (.pick 93 (.tmp 90) (.const (.bool true)) (.tmp 92)) none,
  .op (.nilCheck 94 (.tmp 85)) none,
  .op (.faddr 95 2 (.tmp 94)) none,
  .op (.store (.tmp 95) (.tmp 93)) none,
  .keep [3, 5, 6, 7]]
def r27_25 : List G := [.op (.mov 96 (.tmp 5)) none,
  .op (.nilCheck 97 (.tmp 96)) none,
  .op (.faddr 98 0 (.tmp 97)) none,
  .op (.mov 99 (.tmp 7)) none,
  .op (.call (some 100) 30 [(.tmp 98), (.tmp 99)]) none,
  .keep [3, 5, 6]]
def r27_26 : List G := [.op (.mov 102 (.tmp 5)) none,
  .op (.call (some 103) 29 [(.tmp 102)]) none,
  .op (.mov 101 (.tmp 103)) none,
  .op (.ext 104 0 (.tmp 101)) none,
  .op (.ext 105 1 (.tmp 101)) none,
  .op (.mov 9 (.tmp 104)) none,
  .op (.mov 10 (.tmp 105)) none,
  .keep [3, 6, 9, 10]]
def r27_27 : List G := [.op (.mov 106 (.tmp 9)) none,
  .op (.loadN 107 11 (.tmp 6)) none,
  .op (.mov 108 (.tmp 10)) none,
  .op (.mov 2 (.tmp 106)) none,
  .op (.storeN 11 (.tmp 3) (.tmp 107)) none,
  .op (.mov 4 (.tmp 108)) none,
  .keep [2, 3, 4]]
def c27 : C := (.seq (.region r27_0) (.seq (.region r27_1) (.seq (.region r27_2) (.seq (.region r27_3) (.seq (.seq (.region r27_4) (.block 0 (.seq (.region r27_6) (.cond (.tmp 25) (.seq (.regionW r27_7) (.seq (.region r27_8) (.regionD r27_9))) (.seq (.seq (.region r27_10) (.cond (.tmp 43) .skip (.seq (.region r27_11) (.cond (.tmp 43) .skip (.region r27_12))))) (.cond (.tmp 43) (.seq (.regionW r27_13) (.seq (.region r27_14) (.region r27_15))) (.seq (.seq (.region r27_16) (.cond (.tmp 61) .skip (.region r27_17))) (.cond (.tmp 61) (.seq (.region r27_18) (.region r27_19)) (.seq (.region r27_20) (.cond (.tmp 71) .skip (.region r27_5))))))))))) (.seq (.seq (.region r27_21) (.cond (.tmp 75) (.seq (.region r27_22) (.seq (.region r27_23) (.seq (.region r27_24) (.region r27_25)))) .skip)) (.seq (.region r27_26) (.seq (.regionD r27_27) .ret))))))))
theorem x27 : (∀ (K : Env → World → Prop) (pan : List PanicEntry → World → Prop) (e : Env) (w : World), vcOps Tryd.prog r27_0 K pan e w = vcOps Tryd.prog [.op (.box 1 50 (.tmp 0)) none, .op (.mov 2 (.const (.string { data := #[] }))) none, .op (.alloc 3 50) none, .op (.mov 4 (.const (.bool false))) none, .keep [1, 3]] K pan e w) ∧
  (∀ (K : Env → World → Prop) (pan : List PanicEntry → World → Prop) (e : Env) (w : World), vcOps Tryd.prog r27_1 K pan e w = vcOps Tryd.prog [.op (.build 11 70 []) none, .op (.box 12 70 (.tmp 11)) none, .op (.mov 5 (.tmp 12)) none, .keep [1, 3, 5]] K pan e w) ∧
  (∀ (K : Env → World → Prop) (pan : List PanicEntry → World → Prop) (e : Env) (w : World), vcOps Tryd.prog r27_2 K pan e w = vcOps Tryd.prog [.op (.faddr 13 0 (.tmp 1)) none, .op (.load 14 (.tmp 13)) none, .op (.build 15 50 [(0, 1, (.tmp 14))]) none, .op (.alloc 6 50) none, .op (.storeN 11 (.tmp 6) (.tmp 15)) none, .keep [1, 3, 5, 6]] K pan e w) ∧
  (∀ (K : Env → World → Prop) (pan : List PanicEntry → World → Prop) (e : Env) (w : World), vcOps Tryd.prog r27_3 K pan e w = vcOps Tryd.prog [.op (.mov 16 (.tmp 5)) none, .op (.faddr 17 0 (.tmp 1)) none, .op (.load 18 (.tmp 17)) none, .op (.call (some 19) 28 [(.tmp 16), (.tmp 18), (.const (.int .i64 1))]) none, .keep [1, 3, 5, 6]] K pan e w) ∧
  (∀ (K : Env → World → Prop) (pan : List PanicEntry → World → Prop) (e : Env) (w : World), vcOps Tryd.prog r27_4 K pan e w = vcOps Tryd.prog [.op (.faddr 20 0 (.tmp 1)) none, .op (.load 21 (.tmp 20)) none, .keep [1, 3, 5, 6, 21]] K pan e w) ∧
  (∀ (K : Env → World → Prop) (pan : List PanicEntry → World → Prop) (e : Env) (w : World), vcOps Tryd.prog r27_6 K pan e w = vcOps Tryd.prog [.op (.ari 26 .eql .i64 (.tmp 21) (.const (.int .i64 0))) none, .op (.mov 25 (.tmp 26)) none, .keep [1, 3, 5, 6, 21, 25]] K pan e w) ∧
  (∀ (W : World → Prop) (K : (World → Prop) → Env → World → Prop) (pan : List PanicEntry → World → Prop) (e : Env) (w : World), vcW Tryd.prog W r27_7 K pan e w = vcW Tryd.prog W [(0, .op (.faddr 27 3 (.tmp 1)) none), (0, .op (.load 28 (.tmp 27)) none), (0, .op (.faddr 29 4 (.tmp 1)) none), (1, .op (.load 30 (.tmp 29)) none), (0, .op (.faddr 31 3 (.tmp 6)) none), (2, .op (.store (.tmp 31) (.tmp 28)) none), (0, .op (.faddr 32 4 (.tmp 6)) none), (0, .op (.store (.tmp 32) (.tmp 30)) none), (0, .keep [1, 3, 5, 6])] K pan e w) ∧
  (∀ (K : Env → World → Prop) (pan : List PanicEntry → World → Prop) (e : Env) (w : World), vcOps Tryd.prog r27_8 K pan e w = vcOps Tryd.prog [.op (.mov 33 (.tmp 5)) none, .op (.faddr 34 3 (.tmp 1)) none, .op (.load 35 (.tmp 34)) none, .op (.call (some 36) 36 [(.tmp 33), (.tmp 35)]) none, .keep [1, 3, 5, 6]] K pan e w) ∧
  (∀ (K : Env → World → Prop) (pan : List PanicEntry → World → Prop) (e : Env) (w : World), vcOps Tryd.prog r27_9 K pan e w = vcOps Tryd.prog [.op (.mov 37 (.tmp 5)) none, .op (.nilCheck 38 (.tmp 37)) none, .op (.faddr 39 0 (.tmp 38)) none, .op (.faddr 40 4 (.tmp 1)) none, .op (.load 41 (.tmp 40)) none, .op (.call (some 42) 30 [(.tmp 39), (.tmp 41)]) none, .keep [1, 3, 5, 6]] K pan e w) ∧
  (∀ (K : Env → World → Prop) (pan : List PanicEntry → World → Prop) (e : Env) (w : World), vcOps Tryd.prog r27_10 K pan e w = vcOps Tryd.prog [.op (.ari 44 .eql .i64 (.tmp 21) (.const (.int .i64 1))) none, .op (.mov 43 (.tmp 44)) none, .keep [1, 3, 5, 6, 21, 43]] K pan e w) ∧
  (∀ (K : Env → World → Prop) (pan : List PanicEntry → World → Prop) (e : Env) (w : World), vcOps Tryd.prog r27_11 K pan e w = vcOps Tryd.prog [.op (.ari 45 .eql .i64 (.tmp 21) (.const (.int .i64 2))) none, .op (.mov 43 (.tmp 45)) none, .keep [1, 3, 5, 6, 21, 43]] K pan e w) ∧
  (∀ (K : Env → World → Prop) (pan : List PanicEntry → World → Prop) (e : Env) (w : World), vcOps Tryd.prog r27_12 K pan e w = vcOps Tryd.prog [.op (.ari 46 .eql .i64 (.tmp 21) (.const (.int .i64 5))) none, .op (.mov 43 (.tmp 46)) none, .keep [1, 3, 5, 6, 21, 43]] K pan e w) ∧
  (∀ (W : World → Prop) (K : (World → Prop) → Env → World → Prop) (pan : List PanicEntry → World → Prop) (e : Env) (w : World), vcW Tryd.prog W r27_13 K pan e w = vcW Tryd.prog W [(0, .op (.faddr 47 1 (.tmp 1)) none), (0, .op (.load 48 (.tmp 47)) none), (0, .op (.faddr 49 2 (.tmp 1)) none), (1, .op (.load 50 (.tmp 49)) none), (0, .op (.faddr 51 1 (.tmp 6)) none), (2, .op (.store (.tmp 51) (.tmp 48)) none), (0, .op (.faddr 52 2 (.tmp 6)) none), (0, .op (.store (.tmp 52) (.tmp 50)) none), (0, .keep [1, 3, 5, 6])] K pan e w) ∧
  (∀ (K : Env → World → Prop) (pan : List PanicEntry → World → Prop) (e : Env) (w : World), vcOps Tryd.prog r27_14 K pan e w = vcOps Tryd.prog [.op (.mov 53 (.tmp 5)) none, .op (.faddr 54 1 (.tmp 1)) none, .op (.load 55 (.tmp 54)) none, .op (.call (some 56) 28 [(.tmp 53), (.tmp 55), (.const (.int .i64 4))]) none, .keep [1, 3, 5, 6]] K pan e w) ∧
  (∀ (K : Env → World → Prop) (pan : List PanicEntry → World → Prop) (e : Env) (w : World), vcOps Tryd.prog r27_15 K pan e w = vcOps Tryd.prog [.op (.mov 57 (.tmp 5)) none, .op (.faddr 58 2 (.tmp 1)) none, .op (.load 59 (.tmp 58)) none, .op (.call (some 60) 28 [(.tmp 57), (.tmp 59), (.const (.int .i64 4))]) none, .keep [1, 3, 5, 6]] K pan e w) ∧
  (∀ (K : Env → World → Prop) (pan : List PanicEntry → World → Prop) (e : Env) (w : World), vcOps Tryd.prog r27_16 K pan e w = vcOps Tryd.prog [.op (.ari 62 .eql .i64 (.tmp 21) (.const (.int .i64 3))) none, .op (.mov 61 (.tmp 62)) none, .keep [1, 3, 5, 6, 21, 61]] K pan e w) ∧
  (∀ (K : Env → World → Prop) (pan : List PanicEntry → World → Prop) (e : Env) (w : World), vcOps Tryd.prog r27_17 K pan e w = vcOps Tryd.prog [.op (.ari 63 .eql .i64 (.tmp 21) (.const (.int .i64 4))) none, .op (.mov 61 (.tmp 63)) none, .keep [1, 3, 5, 6, 21, 61]] K pan e w) ∧
  (∀ (K : Env → World → Prop) (pan : List PanicEntry → World → Prop) (e : Env) (w : World), vcOps Tryd.prog r27_18 K pan e w = vcOps Tryd.prog [.op (.faddr 64 1 (.tmp 1)) none, .op (.load 65 (.tmp 64)) none, .op (.faddr 66 1 (.tmp 6)) none, .op (.store (.tmp 66) (.tmp 65)) none, .keep [1, 3, 5, 6]] K pan e w) ∧
  (∀ (K : Env → World → Prop) (pan : List PanicEntry → World → Prop) (e : Env) (w : World), vcOps Tryd.prog r27_19 K pan e w = vcOps Tryd.prog [.op (.mov 67 (.tmp 5)) none, .op (.faddr 68 1 (.tmp 1)) none, .op (.load 69 (.tmp 68)) none, .op (.call (some 70) 28 [(.tmp 67), (.tmp 69), (.const (.int .i64 4))]) none, .keep [1, 3, 5, 6]] K pan e w) ∧
  (∀ (K : Env → World → Prop) (pan : List PanicEntry → World → Prop) (e : Env) (w : World), vcOps Tryd.prog r27_20 K pan e w = vcOps Tryd.prog [.op (.ari 72 .eql .i64 (.tmp 21) (.const (.int .i64 6))) none, .op (.mov 71 (.tmp 72)) none, .keep [1, 3, 5, 6, 71]] K pan e w) ∧
  (∀ (K : Env → World → Prop) (pan : List PanicEntry → World → Prop) (e : Env) (w : World), vcOps Tryd.prog r27_5 K pan e w = vcOps Tryd.prog [.op (.mov 22 (.tmp 5)) none, .op (.nilCheck 23 (.tmp 22)) none, .op (.faddr 24 2 (.tmp 23)) none, .op (.store (.tmp 24) (.const (.bool true))) none, .keep [1, 3, 5, 6]] K pan e w) ∧
  (∀ (K : Env → World → Prop) (pan : List PanicEntry → World → Prop) (e : Env) (w : World), vcOps Tryd.prog r27_21 K pan e w = vcOps Tryd.prog [.op (.faddr 73 0 (.tmp 1)) none, .op (.load 74 (.tmp 73)) none, .op (.ari 75 .eql .i64 (.tmp 74) (.const (.int .i64 1))) none, .keep [1, 3, 5, 6, 75]] K pan e w) ∧
  (∀ (K : Env → World → Prop) (pan : List PanicEntry → World → Prop) (e : Env) (w : World), vcOps Tryd.prog r27_22 K pan e w = vcOps Tryd.prog [.op (.faddr 76 5 (.tmp 1)) none, .op (.loadN 77 6 (.tmp 76)) none, .op (.faddr 78 5 (.tmp 6)) none, .op (.storeN 6 (.tmp 78) (.tmp 77)) none, .keep [1, 3, 5, 6]] K pan e w) ∧
  (∀ (K : Env → World → Prop) (pan : List PanicEntry → World → Prop) (e : Env) (w : World), vcOps Tryd.prog r27_23 K pan e w = vcOps Tryd.prog [.op (.faddr 80 5 (.tmp 1)) none, .op (.loadN 81 6 (.tmp 80)) none, .op (.call (some 82) 37 [(.tmp 81)]) none, .op (.mov 79 (.tmp 82)) none, .op (.ext 83 0 (.tmp 79)) none, .op (.ext 84 1 (.tmp 79)) none, .op (.mov 7 (.tmp 83)) none, .op (.mov 8 (.tmp 84)) none, .keep [3, 5, 6, 7, 8]] K pan e w) ∧
  (∀ (K : Env → World → Prop) (pan : List PanicEntry → World → Prop) (e : Env) (w : World), vcOps Tryd.prog r27_24 K pan e w = vcOps Tryd.prog [.op (.mov 85 (.tmp 5)) none, .op (.mov 86 (.tmp 5)) none, .op (.nilCheck 87 (.tmp 86)) none, .op (.faddr 88 2 (.tmp 87)) none, .op (.load 89 (.tmp 88)) none, .op (.mov 90 (.tmp 89)) none, .op (.mov 91 (.tmp 8)) (some (90, false)), .op (.ari 92 .neq .i64 (.tmp 91) (.const (.int .i64 0))) (some (90, false)), .op (.pick 93 (.tmp 90) (.const (.bool true)) (.tmp 92)) none, .op (.nilCheck 94 (.tmp 85)) none, .op (.faddr 95 2 (.tmp 94)) none, .op (.store (.tmp 95) (.tmp 93)) none, .keep [3, 5, 6, 7]] K pan e w) ∧
  (∀ (K : Env → World → Prop) (pan : List PanicEntry → World → Prop) (e : Env) (w : World), vcOps Tryd.prog r27_25 K pan e w = vcOps Tryd.prog [.op (.mov 96 (.tmp 5)) none, .op (.nilCheck 97 (.tmp 96)) none, .op (.faddr 98 0 (.tmp 97)) none, .op (.mov 99 (.tmp 7)) none, .op (.call (some 100) 30 [(.tmp 98), (.tmp 99)]) none, .keep [3, 5, 6]] K pan e w) ∧
  (∀ (K : Env → World → Prop) (pan : List PanicEntry → World → Prop) (e : Env) (w : World), vcOps Tryd.prog r27_26 K pan e w = vcOps Tryd.prog [.op (.mov 102 (.tmp 5)) none, .op (.call (some 103) 29 [(.tmp 102)]) none, .op (.mov 101 (.tmp 103)) none, .op (.ext 104 0 (.tmp 101)) none, .op (.ext 105 1 (.tmp 101)) none, .op (.mov 9 (.tmp 104)) none, .op (.mov 10 (.tmp 105)) none, .keep [3, 6, 9, 10]] K pan e w) ∧
  (∀ (K : Env → World → Prop) (pan : List PanicEntry → World → Prop) (e : Env) (w : World), vcOps Tryd.prog r27_27 K pan e w = vcOps Tryd.prog [.op (.mov 106 (.tmp 9)) none, .op (.loadN 107 11 (.tmp 6)) none, .op (.mov 108 (.tmp 10)) none, .op (.mov 2 (.tmp 106)) none, .op (.storeN 11 (.tmp 3) (.tmp 107)) none, .op (.mov 4 (.tmp 108)) none, .keep [2, 3, 4]] K pan e w) := ⟨fun _ _ _ _ => rfl, fun _ _ _ _ => rfl, fun _ _ _ _ => rfl, fun _ _ _ _ => rfl, fun _ _ _ _ => rfl, fun _ _ _ _ => rfl, fun _ _ _ _ _ => rfl, fun _ _ _ _ => rfl, fun _ _ _ _ => rfl, fun _ _ _ _ => rfl, fun _ _ _ _ => rfl, fun _ _ _ _ => rfl, fun _ _ _ _ _ => rfl, fun _ _ _ _ => rfl, fun _ _ _ _ => rfl, fun _ _ _ _ => rfl, fun _ _ _ _ => rfl, fun _ _ _ _ => rfl, fun _ _ _ _ => rfl, fun _ _ _ _ => rfl, fun _ _ _ _ => rfl, fun _ _ _ _ => rfl, fun _ _ _ _ => rfl, fun _ _ _ _ => rfl, fun _ _ _ _ => rfl, fun _ _ _ _ => rfl, fun _ _ _ _ => rfl, fun _ _ _ _ => rfl⟩
theorem low27 : Tryd.f27.body.bind (lowerC Tryd.prog 109 (fun i => List.lookup i [(7, .fin [(0, 0), (1, 0), (2, 0), (3, 1), (4, 0), (5, 2), (6, 0), (7, 0)]), (9, .fin [(0, 0), (1, 0), (2, 0), (3, 0), (4, 0), (5, 0)]), (13, .fin [(0, 0), (1, 0), (2, 0), (3, 1), (4, 0), (5, 2), (6, 0), (7, 0)]), (27, .fin [(0, 0), (1, 0), (2, 0), (3, 0), (4, 0), (5, 0)])])) = some c27.erase := by kernel_rfl
theorem enter27 {args : List Value} {w : World} {R : Ending → World → Prop} (ha : args.length ≤ 109) (h : vc Tryd.prog c27 (endPost [.t 2, .cN 3 11, .t 4] R) (argEnv 0 args) w) : Calls Tryd.prog 27 args.toArray w R :=
  calls_of_vc Tryd.func27 rfl low27 rfl ha h
/-- The code of (*aquatint/wire.writer).name. -/
def r36_0 : List G := [.op (.mov 4 (.tmp 0)) none,
  .op (.mov 5 (.tmp 1)) none,
  .op (.lenS 6 (.tmp 5)) none,
  .op (.call (some 7) 28 [(.tmp 4), (.tmp 6), (.const (.int .i64 1))]) none,
  .keep [0, 1]]
def r36_1 : List G := [.op (.mov 8 (.tmp 0)) none,
  .op (.nilCheck 9 (.tmp 8)) none,
  .op (.faddr 10 0 (.tmp 9)) none,
  .op (.mov 11 (.tmp 1)) none,
  .op (.call (some 12) 30 [(.tmp 10), (.tmp 11)]) none,
  .keep []]
def c36 : C := (.seq (.region r36_0) (.region r36_1))
theorem x36 : (∀ (K : Env → World → Prop) (pan : List PanicEntry → World → Prop) (e : Env) (w : World), vcOps Tryd.prog r36_0 K pan e w = vcOps Tryd.prog [.op (.mov 4 (.tmp 0)) none, .op (.mov 5 (.tmp 1)) none, .op (.lenS 6 (.tmp 5)) none, .op (.call (some 7) 28 [(.tmp 4), (.tmp 6), (.const (.int .i64 1))]) none, .keep [0, 1]] K pan e w) ∧
  (∀ (K : Env → World → Prop) (pan : List PanicEntry → World → Prop) (e : Env) (w : World), vcOps Tryd.prog r36_1 K pan e w = vcOps Tryd.prog [.op (.mov 8 (.tmp 0)) none, .op (.nilCheck 9 (.tmp 8)) none, .op (.faddr 10 0 (.tmp 9)) none, .op (.mov 11 (.tmp 1)) none, .op (.call (some 12) 30 [(.tmp 10), (.tmp 11)]) none, .keep []] K pan e w) := ⟨fun _ _ _ _ => rfl, fun _ _ _ _ => rfl⟩
theorem low36 : Tryd.f36.body.bind (lowerC Tryd.prog 13 (fun _ => none)) = some c36.erase := by kernel_rfl
theorem enter36 {args : List Value} {w : World} {R : Ending → World → Prop} (ha : args.length ≤ 13) (h : vc Tryd.prog c36 (endPost [] R) (argEnv 0 args) w) : Calls Tryd.prog 36 args.toArray w R :=
  calls_of_vc Tryd.func36 rfl low36 rfl ha h
/-- The code of (*aquatint/wire.writer).list. -/
def r31_0 : List G := [.op (.mov 6 (.tmp 1)) none,
  .op (.lenL 7 (.tmp 6)) none,
  .op (.mov 8 (.const (.int .i64 0))) none,
  .keep [0, 6, 7, 8]]
def r31_1 : List G := [.op (.ari 9 .lss .i64 (.tmp 8) (.tmp 7)) none,
  .keep [0, 6, 7, 8, 9]]
def r31_2 : List G := [.op (.iaddrL 10 3 (.tmp 6) (.tmp 8)) none,
  .op (.loadN 11 3 (.tmp 10)) none,
  .op (.alloc 5 52) none,
  .op (.storeN 3 (.tmp 5) (.tmp 11)) none,
  .keep [0, 5, 6, 7, 8]]
def r31_3 : List G := [.op (.mov 12 (.tmp 0)) none,
  .op (.faddr 13 0 (.tmp 5)) none,
  .op (.load 14 (.tmp 13)) none,
  .op (.call (some 15) 28 [(.tmp 12), (.tmp 14), (.const (.int .i64 4))]) none,
  .keep [0, 5, 6, 7, 8]]
def r31_4 : List G := [.op (.mov 16 (.tmp 0)) none,
  .op (.faddr 17 1 (.tmp 5)) none,
  .op (.load 18 (.tmp 17)) none,
  .op (.call (some 19) 28 [(.tmp 16), (.tmp 18), (.const (.int .i64 4))]) none,
  .keep [0, 5, 6, 7, 8]]
def r31_5 : List G := [.op (.mov 20 (.tmp 0)) none,
  .op (.faddr 21 2 (.tmp 5)) none,
  .op (.load 22 (.tmp 21)) none,
  .op (.call (some 23) 36 [(.tmp 20), (.tmp 22)]) none,
  .keep [0, 6, 7, 8]]
def r31_6 : List G := [.op (.ari 24 .add .i64 (.tmp 8) (.const (.int .i64 1))) none,
  .op (.mov 8 (.tmp 24)) none,
  .keep [0, 6, 7, 8]]
def c31 : C := (.seq (.region r31_0) (.block 0 (.loop (.seq (.region r31_1) (.seq (.cond (.tmp 9) .skip (.exit 0)) (.seq (.block 1 (.seq (.region r31_2) (.seq (.region r31_3) (.seq (.region r31_4) (.region r31_5))))) (.region r31_6)))))))
theorem x31 : (∀ (K : Env → World → Prop) (pan : List PanicEntry → World → Prop) (e : Env) (w : World), vcOps Tryd.prog r31_0 K pan e w = vcOps Tryd.prog [.op (.mov 6 (.tmp 1)) none, .op (.lenL 7 (.tmp 6)) none, .op (.mov 8 (.const (.int .i64 0))) none, .keep [0, 6, 7, 8]] K pan e w) ∧
  (∀ (K : Env → World → Prop) (pan : List PanicEntry → World → Prop) (e : Env) (w : World), vcOps Tryd.prog r31_1 K pan e w = vcOps Tryd.prog [.op (.ari 9 .lss .i64 (.tmp 8) (.tmp 7)) none, .keep [0, 6, 7, 8, 9]] K pan e w) ∧
  (∀ (K : Env → World → Prop) (pan : List PanicEntry → World → Prop) (e : Env) (w : World), vcOps Tryd.prog r31_2 K pan e w = vcOps Tryd.prog [.op (.iaddrL 10 3 (.tmp 6) (.tmp 8)) none, .op (.loadN 11 3 (.tmp 10)) none, .op (.alloc 5 52) none, .op (.storeN 3 (.tmp 5) (.tmp 11)) none, .keep [0, 5, 6, 7, 8]] K pan e w) ∧
  (∀ (K : Env → World → Prop) (pan : List PanicEntry → World → Prop) (e : Env) (w : World), vcOps Tryd.prog r31_3 K pan e w = vcOps Tryd.prog [.op (.mov 12 (.tmp 0)) none, .op (.faddr 13 0 (.tmp 5)) none, .op (.load 14 (.tmp 13)) none, .op (.call (some 15) 28 [(.tmp 12), (.tmp 14), (.const (.int .i64 4))]) none, .keep [0, 5, 6, 7, 8]] K pan e w) ∧
  (∀ (K : Env → World → Prop) (pan : List PanicEntry → World → Prop) (e : Env) (w : World), vcOps Tryd.prog r31_4 K pan e w = vcOps Tryd.prog [.op (.mov 16 (.tmp 0)) none, .op (.faddr 17 1 (.tmp 5)) none, .op (.load 18 (.tmp 17)) none, .op (.call (some 19) 28 [(.tmp 16), (.tmp 18), (.const (.int .i64 4))]) none, .keep [0, 5, 6, 7, 8]] K pan e w) ∧
  (∀ (K : Env → World → Prop) (pan : List PanicEntry → World → Prop) (e : Env) (w : World), vcOps Tryd.prog r31_5 K pan e w = vcOps Tryd.prog [.op (.mov 20 (.tmp 0)) none, .op (.faddr 21 2 (.tmp 5)) none, .op (.load 22 (.tmp 21)) none, .op (.call (some 23) 36 [(.tmp 20), (.tmp 22)]) none, .keep [0, 6, 7, 8]] K pan e w) ∧
  (∀ (K : Env → World → Prop) (pan : List PanicEntry → World → Prop) (e : Env) (w : World), vcOps Tryd.prog r31_6 K pan e w = vcOps Tryd.prog [.op (.ari 24 .add .i64 (.tmp 8) (.const (.int .i64 1))) none, .op (.mov 8 (.tmp 24)) none, .keep [0, 6, 7, 8]] K pan e w) := ⟨fun _ _ _ _ => rfl, fun _ _ _ _ => rfl, fun _ _ _ _ => rfl, fun _ _ _ _ => rfl, fun _ _ _ _ => rfl, fun _ _ _ _ => rfl, fun _ _ _ _ => rfl⟩
theorem low31 : Tryd.f31.body.bind (lowerC Tryd.prog 25 (fun _ => none)) = some c31.erase := by kernel_rfl
theorem enter31 {args : List Value} {w : World} {R : Ending → World → Prop} (ha : args.length ≤ 25) (h : vc Tryd.prog c31 (endPost [] R) (argEnv 0 args) w) : Calls Tryd.prog 31 args.toArray w R :=
  calls_of_vc Tryd.func31 rfl low31 rfl ha h
/-- The code of aquatint/wire.writeReply. -/
def r20_0 : List G := [.op (.box 1 25 (.tmp 0)) none,
  .op (.mov 2 (.const (.string { data := #[] }))) none,
  .op (.alloc 3 25) none,
  .op (.mov 4 (.const (.bool false))) none,
  .keep [1, 3]]
def r20_1 : List G := [.op (.build 11 70 []) none,
  .op (.box 12 70 (.tmp 11)) none,
  .op (.mov 5 (.tmp 12)) none,
  .keep [1, 3, 5]]
def r20_2 : List G := [.op (.faddr 13 0 (.tmp 1)) none,
  .op (.load 14 (.tmp 13)) none,
  .op (.faddr 15 1 (.tmp 1)) none,
  .op (.load 16 (.tmp 15)) none,
  .op (.build 17 25 [(0, 1, (.tmp 14)), (1, 1, (.tmp 16))]) none,
  .op (.alloc 6 25) none,
  .op (.storeN 8 (.tmp 6) (.tmp 17)) none,
  .keep [1, 3, 5, 6]]
def r20_3 : List G := [.op (.mov 18 (.tmp 5)) none,
  .op (.faddr 19 0 (.tmp 1)) none,
  .op (.load 20 (.tmp 19)) none,
  .op (.call (some 21) 28 [(.tmp 18), (.tmp 20), (.const (.int .i64 1))]) none,
  .keep [1, 3, 5, 6]]
def r20_4 : List G := [.op (.mov 22 (.tmp 5)) none,
  .op (.faddr 23 1 (.tmp 1)) none,
  .op (.load 24 (.tmp 23)) none,
  .op (.call (some 25) 28 [(.tmp 22), (.tmp 24), (.const (.int .i64 1))]) none,
  .keep [1, 3, 5, 6]]
def r20_5 : List G := [.op (.mov 26 (.tmp 5)) none,
  .op (.mov 27 (.tmp 5)) none,
  .op (.nilCheck 28 (.tmp 27)) none,
  .op (.faddr 29 2 (.tmp 28)) none,
  .op (.load 30 (.tmp 29)) none,
  .op (.mov 31 (.tmp 30)) none,
  .op (.faddr 32 0 (.tmp 1)) (some (31, false)),
  .op (.load 33 (.tmp 32)) (some (31, false)),
  .op (.ari 34 .gtr .i64 (.tmp 33) (.const (.int .i64 6))) (some (31, false)),
  .op (.pick 35 (.tmp 31) (.const (.bool true)) (.tmp 34)) none,
  .op (.nilCheck 36 (.tmp 26)) none,
  .op (.faddr 37 2 (.tmp 36)) none,
  .op (.store (.tmp 37) (.tmp 35)) none,
  .keep [1, 3, 5, 6]]
def r20_6 : List G := [.op (.faddr 38 1 (.tmp 1)) none,
  .op (.load 39 (.tmp 38)) none,
  .op (.ari 40 .neq .i64 (.tmp 39) (.const (.int .i64 0))) none,
  .keep [1, 3, 5, 6, 40]]
def r20_7 : List G := [.op (.mov 42 (.tmp 5)) none,
  .op (.call (some 43) 29 [(.tmp 42)]) none,
  .op (.mov 41 (.tmp 43)) none,
  .op (.ext 44 0 (.tmp 41)) none,
  .op (.ext 45 1 (.tmp 41)) none,
  .op (.mov 7 (.tmp 44)) none,
  .op (.mov 8 (.tmp 45)) none,
  .keep [3, 6, 7, 8]]
def r20_8 : List G := [.op (.mov 46 (.tmp 7)) none,
  .op (.loadN 47 8 (.tmp 6)) none,
  .op (.mov 48 (.tmp 8)) none,
  .op (.mov 2 (.tmp 46)) none,
  .op (.storeN 8 (.tmp 3) (.tmp 47)) none,
  .op (.mov 4 (.tmp 48)) none,
  .keep [2, 3, 4]]
def r20_9 : List G := [.op (.faddr 49 0 (.tmp 1)) none,
  .op (.load 50 (.tmp 49)) none,
  .op (.ari 51 .lss .i64 (.tmp 50) (.const (.int .i64 6))) none,
  .keep [1, 3, 5, 6, 51]]
def r20_10 : List G := [.op (.faddr 52 2 (.tmp 1)) none,
  .op (.load 53 (.tmp 52)) none,
  .op (.faddr 54 2 (.tmp 6)) none,
  .op (.store (.tmp 54) (.tmp 53)) none,
  .keep [1, 3, 5, 6]]
def r20_11 : List G := [.op (.mov 55 (.tmp 5)) none,
  .op (.faddr 56 2 (.tmp 1)) none,
  .op (.load 57 (.tmp 56)) none,
  .op (.call (some 58) 28 [(.tmp 55), (.tmp 57), (.const (.int .i64 4))]) none,
  .keep [1, 3, 5, 6]]
def r20_12 : List G := [.op (.faddr 59 0 (.tmp 1)) none,
  .op (.load 60 (.tmp 59)) none,
  .op (.ari 61 .lss .i64 (.tmp 60) (.const (.int .i64 5))) none,
  .keep [1, 3, 5, 6, 61]]
def r20_13 : List G := [.op (.faddr 62 3 (.tmp 1)) none,
  .op (.load 63 (.tmp 62)) none,
  .op (.faddr 64 3 (.tmp 6)) none,
  .op (.store (.tmp 64) (.tmp 63)) none,
  .keep [1, 3, 5, 6]]
def r20_14 : List G := [.op (.mov 65 (.tmp 5)) none,
  .op (.faddr 66 3 (.tmp 1)) none,
  .op (.load 67 (.tmp 66)) none,
  .op (.call (some 68) 28 [(.tmp 65), (.tmp 67), (.const (.int .i64 4))]) none,
  .keep [1, 3, 5, 6]]
def r20_15 : List G := [.op (.faddr 69 0 (.tmp 1)) none,
  .op (.load 70 (.tmp 69)) none,
  .keep [1, 3, 5, 6, 70]]
def r20_16 : List G := [.op (.ari 72 .eql .i64 (.tmp 70) (.const (.int .i64 3))) none,
  .op (.mov 71 (.tmp 72)) none,
  .keep [1, 3, 5, 6, 70, 71]]
def r20_17 : List G := [.op (.faddr 73 6 (.tmp 1)) none,
  .op (.load 74 (.tmp 73)) none,
  .op (.faddr 75 6 (.tmp 6)) none,
  .op (.store (.tmp 75) (.tmp 74)) none,
  .keep [1, 3, 5, 6]]
def r20_18 : List G := [.op (.mov 76 (.tmp 5)) none,
  .op (.nilCheck 77 (.tmp 76)) none,
  .op (.faddr 78 0 (.tmp 77)) none,
  .op (.faddr 79 6 (.tmp 1)) none,
  .op (.load 80 (.tmp 79)) none,
  .op (.call (some 81) 30 [(.tmp 78), (.tmp 80)]) none,
  .keep [3, 5, 6]]
def r20_19 : List G := [.op (.ari 83 .eql .i64 (.tmp 70) (.const (.int .i64 4))) none,
  .op (.mov 82 (.tmp 83)) none,
  .keep [1, 3, 5, 6, 70, 82]]
def r20_20 : List (Nat × G) := [(0, .op (.faddr 84 4 (.tmp 1)) none),
  (0, .op (.load 85 (.tmp 84)) none),
  (0, .op (.faddr 86 5 (.tmp 1)) none),
  (1, .op (.load 87 (.tmp 86)) none),
  (0, .op (.faddr 88 6 (.tmp 1)) none),
  (1, .op (.load 89 (.tmp 88)) none),
  (0, .op (.faddr 90 4 (.tmp 6)) none),
  (2, .op (.store (.tmp 90) (.tmp 85)) none),
  (0, .op (.faddr 91 5 (.tmp 6)) none),
  (2, .op (.store (.tmp 91) (.tmp 87)) none),
  (0, .op (.faddr 92 6 (.tmp 6)) none),
  (0, .op (.store (.tmp 92) (.tmp 89)) none),
  (0, .keep [1, 3, 5, 6])]
def r20_21 : List G := [.op (.mov 93 (.tmp 5)) none,
  .op (.faddr 94 4 (.tmp 1)) none,
  .op (.load 95 (.tmp 94)) none,
  .op (.call (some 96) 28 [(.tmp 93), (.tmp 95), (.const (.int .i64 2))]) none,
  .keep [1, 3, 5, 6]]
def r20_22 : List G := [.op (.mov 97 (.tmp 5)) none,
  .op (.faddr 98 5 (.tmp 1)) none,
  .op (.load 99 (.tmp 98)) none,
  .op (.call (some 100) 28 [(.tmp 97), (.tmp 99), (.const (.int .i64 2))]) none,
  .keep [1, 3, 5, 6]]
def r20_23 : List G := [.op (.mov 101 (.tmp 5)) none,
  .op (.nilCheck 102 (.tmp 101)) none,
  .op (.faddr 103 0 (.tmp 102)) none,
  .op (.faddr 104 6 (.tmp 1)) none,
  .op (.load 105 (.tmp 104)) none,
  .op (.call (some 106) 30 [(.tmp 103), (.tmp 105)]) none,
  .keep [3, 5, 6]]
def r20_24 : List G := [.op (.ari 108 .eql .i64 (.tmp 70) (.const (.int .i64 6))) none,
  .op (.mov 107 (.tmp 108)) none,
  .keep [1, 3, 5, 6, 107]]
def r20_25 : List G := [.op (.faddr 109 7 (.tmp 1)) none,
  .op (.load 110 (.tmp 109)) none,
  .op (.faddr 111 7 (.tmp 6)) none,
  .op (.store (.tmp 111) (.tmp 110)) none,
  .keep [1, 3, 5, 6]]
def r20_26 : List G := [.op (.mov 112 (.tmp 5)) none,
  .op (.faddr 113 7 (.tmp 1)) none,
  .op (.load 114 (.tmp 113)) none,
  .op (.call (some 115) 31 [(.tmp 112), (.tmp 114)]) none,
  .keep [3, 5, 6]]
def r20_27 : List G := [.op (.mov 117 (.tmp 5)) none,
  .op (.call (some 118) 29 [(.tmp 117)]) none,
  .op (.mov 116 (.tmp 118)) none,
  .op (.ext 119 0 (.tmp 116)) none,
  .op (.ext 120 1 (.tmp 116)) none,
  .op (.mov 9 (.tmp 119)) none,
  .op (.mov 10 (.tmp 120)) none,
  .keep [3, 6, 9, 10]]
def r20_28 : List G := [.op (.mov 121 (.tmp 9)) none,
  .op (.loadN 122 8 (.tmp 6)) none,
  .op (.mov 123 (.tmp 10)) none,
  .op (.mov 2 (.tmp 121)) none,
  .op (.storeN 8 (.tmp 3) (.tmp 122)) none,
  .op (.mov 4 (.tmp 123)) none,
  .keep [2, 3, 4]]
def c20 : C := (.seq (.region r20_0) (.seq (.region r20_1) (.seq (.region r20_2) (.seq (.region r20_3) (.seq (.region r20_4) (.seq (.region r20_5) (.seq (.seq (.region r20_6) (.cond (.tmp 40) (.seq (.region r20_7) (.seq (.regionD r20_8) .ret)) .skip)) (.seq (.seq (.region r20_9) (.cond (.tmp 51) (.seq (.region r20_10) (.region r20_11)) .skip)) (.seq (.seq (.region r20_12) (.cond (.tmp 61) (.seq (.region r20_13) (.region r20_14)) .skip)) (.seq (.seq (.region r20_15) (.block 0 (.seq (.region r20_16) (.cond (.tmp 71) (.seq (.region r20_17) (.regionD r20_18)) (.seq (.region r20_19) (.cond (.tmp 82) (.seq (.regionW r20_20) (.seq (.region r20_21) (.seq (.region r20_22) (.regionD r20_23)))) (.seq (.region r20_24) (.cond (.tmp 107) (.seq (.region r20_25) (.region r20_26)) .skip)))))))) (.seq (.region r20_27) (.seq (.regionD r20_28) .ret))))))))))))
theorem x20 : (∀ (K : Env → World → Prop) (pan : List PanicEntry → World → Prop) (e : Env) (w : World), vcOps Tryd.prog r20_0 K pan e w = vcOps Tryd.prog [.op (.box 1 25 (.tmp 0)) none, .op (.mov 2 (.const (.string { data := #[] }))) none, .op (.alloc 3 25) none, .op (.mov 4 (.const (.bool false))) none, .keep [1, 3]] K pan e w) ∧
  (∀ (K : Env → World → Prop) (pan : List PanicEntry → World → Prop) (e : Env) (w : World), vcOps Tryd.prog r20_1 K pan e w = vcOps Tryd.prog [.op (.build 11 70 []) none, .op (.box 12 70 (.tmp 11)) none, .op (.mov 5 (.tmp 12)) none, .keep [1, 3, 5]] K pan e w) ∧
  (∀ (K : Env → World → Prop) (pan : List PanicEntry → World → Prop) (e : Env) (w : World), vcOps Tryd.prog r20_2 K pan e w = vcOps Tryd.prog [.op (.faddr 13 0 (.tmp 1)) none, .op (.load 14 (.tmp 13)) none, .op (.faddr 15 1 (.tmp 1)) none, .op (.load 16 (.tmp 15)) none, .op (.build 17 25 [(0, 1, (.tmp 14)), (1, 1, (.tmp 16))]) none, .op (.alloc 6 25) none, .op (.storeN 8 (.tmp 6) (.tmp 17)) none, .keep [1, 3, 5, 6]] K pan e w) ∧
  (∀ (K : Env → World → Prop) (pan : List PanicEntry → World → Prop) (e : Env) (w : World), vcOps Tryd.prog r20_3 K pan e w = vcOps Tryd.prog [.op (.mov 18 (.tmp 5)) none, .op (.faddr 19 0 (.tmp 1)) none, .op (.load 20 (.tmp 19)) none, .op (.call (some 21) 28 [(.tmp 18), (.tmp 20), (.const (.int .i64 1))]) none, .keep [1, 3, 5, 6]] K pan e w) ∧
  (∀ (K : Env → World → Prop) (pan : List PanicEntry → World → Prop) (e : Env) (w : World), vcOps Tryd.prog r20_4 K pan e w = vcOps Tryd.prog [.op (.mov 22 (.tmp 5)) none, .op (.faddr 23 1 (.tmp 1)) none, .op (.load 24 (.tmp 23)) none, .op (.call (some 25) 28 [(.tmp 22), (.tmp 24), (.const (.int .i64 1))]) none, .keep [1, 3, 5, 6]] K pan e w) ∧
  (∀ (K : Env → World → Prop) (pan : List PanicEntry → World → Prop) (e : Env) (w : World), vcOps Tryd.prog r20_5 K pan e w = vcOps Tryd.prog [.op (.mov 26 (.tmp 5)) none, .op (.mov 27 (.tmp 5)) none, .op (.nilCheck 28 (.tmp 27)) none, .op (.faddr 29 2 (.tmp 28)) none, .op (.load 30 (.tmp 29)) none, .op (.mov 31 (.tmp 30)) none, .op (.faddr 32 0 (.tmp 1)) (some (31, false)), .op (.load 33 (.tmp 32)) (some (31, false)), .op (.ari 34 .gtr .i64 (.tmp 33) (.const (.int .i64 6))) (some (31, false)), .op (.pick 35 (.tmp 31) (.const (.bool true)) (.tmp 34)) none, .op (.nilCheck 36 (.tmp 26)) none, .op (.faddr 37 2 (.tmp 36)) none, .op (.store (.tmp 37) (.tmp 35)) none, .keep [1, 3, 5, 6]] K pan e w) ∧
  (∀ (K : Env → World → Prop) (pan : List PanicEntry → World → Prop) (e : Env) (w : World), vcOps Tryd.prog r20_6 K pan e w = vcOps Tryd.prog [.op (.faddr 38 1 (.tmp 1)) none, .op (.load 39 (.tmp 38)) none, .op (.ari 40 .neq .i64 (.tmp 39) (.const (.int .i64 0))) none, .keep [1, 3, 5, 6, 40]] K pan e w) ∧
  (∀ (K : Env → World → Prop) (pan : List PanicEntry → World → Prop) (e : Env) (w : World), vcOps Tryd.prog r20_7 K pan e w = vcOps Tryd.prog [.op (.mov 42 (.tmp 5)) none, .op (.call (some 43) 29 [(.tmp 42)]) none, .op (.mov 41 (.tmp 43)) none, .op (.ext 44 0 (.tmp 41)) none, .op (.ext 45 1 (.tmp 41)) none, .op (.mov 7 (.tmp 44)) none, .op (.mov 8 (.tmp 45)) none, .keep [3, 6, 7, 8]] K pan e w) ∧
  (∀ (K : Env → World → Prop) (pan : List PanicEntry → World → Prop) (e : Env) (w : World), vcOps Tryd.prog r20_8 K pan e w = vcOps Tryd.prog [.op (.mov 46 (.tmp 7)) none, .op (.loadN 47 8 (.tmp 6)) none, .op (.mov 48 (.tmp 8)) none, .op (.mov 2 (.tmp 46)) none, .op (.storeN 8 (.tmp 3) (.tmp 47)) none, .op (.mov 4 (.tmp 48)) none, .keep [2, 3, 4]] K pan e w) ∧
  (∀ (K : Env → World → Prop) (pan : List PanicEntry → World → Prop) (e : Env) (w : World), vcOps Tryd.prog r20_9 K pan e w = vcOps Tryd.prog [.op (.faddr 49 0 (.tmp 1)) none, .op (.load 50 (.tmp 49)) none, .op (.ari 51 .lss .i64 (.tmp 50) (.const (.int .i64 6))) none, .keep [1, 3, 5, 6, 51]] K pan e w) ∧
  (∀ (K : Env → World → Prop) (pan : List PanicEntry → World → Prop) (e : Env) (w : World), vcOps Tryd.prog r20_10 K pan e w = vcOps Tryd.prog [.op (.faddr 52 2 (.tmp 1)) none, .op (.load 53 (.tmp 52)) none, .op (.faddr 54 2 (.tmp 6)) none, .op (.store (.tmp 54) (.tmp 53)) none, .keep [1, 3, 5, 6]] K pan e w) ∧
  (∀ (K : Env → World → Prop) (pan : List PanicEntry → World → Prop) (e : Env) (w : World), vcOps Tryd.prog r20_11 K pan e w = vcOps Tryd.prog [.op (.mov 55 (.tmp 5)) none, .op (.faddr 56 2 (.tmp 1)) none, .op (.load 57 (.tmp 56)) none, .op (.call (some 58) 28 [(.tmp 55), (.tmp 57), (.const (.int .i64 4))]) none, .keep [1, 3, 5, 6]] K pan e w) ∧
  (∀ (K : Env → World → Prop) (pan : List PanicEntry → World → Prop) (e : Env) (w : World), vcOps Tryd.prog r20_12 K pan e w = vcOps Tryd.prog [.op (.faddr 59 0 (.tmp 1)) none, .op (.load 60 (.tmp 59)) none, .op (.ari 61 .lss .i64 (.tmp 60) (.const (.int .i64 5))) none, .keep [1, 3, 5, 6, 61]] K pan e w) ∧
  (∀ (K : Env → World → Prop) (pan : List PanicEntry → World → Prop) (e : Env) (w : World), vcOps Tryd.prog r20_13 K pan e w = vcOps Tryd.prog [.op (.faddr 62 3 (.tmp 1)) none, .op (.load 63 (.tmp 62)) none, .op (.faddr 64 3 (.tmp 6)) none, .op (.store (.tmp 64) (.tmp 63)) none, .keep [1, 3, 5, 6]] K pan e w) ∧
  (∀ (K : Env → World → Prop) (pan : List PanicEntry → World → Prop) (e : Env) (w : World), vcOps Tryd.prog r20_14 K pan e w = vcOps Tryd.prog [.op (.mov 65 (.tmp 5)) none, .op (.faddr 66 3 (.tmp 1)) none, .op (.load 67 (.tmp 66)) none, .op (.call (some 68) 28 [(.tmp 65), (.tmp 67), (.const (.int .i64 4))]) none, .keep [1, 3, 5, 6]] K pan e w) ∧
  (∀ (K : Env → World → Prop) (pan : List PanicEntry → World → Prop) (e : Env) (w : World), vcOps Tryd.prog r20_15 K pan e w = vcOps Tryd.prog [.op (.faddr 69 0 (.tmp 1)) none, .op (.load 70 (.tmp 69)) none, .keep [1, 3, 5, 6, 70]] K pan e w) ∧
  (∀ (K : Env → World → Prop) (pan : List PanicEntry → World → Prop) (e : Env) (w : World), vcOps Tryd.prog r20_16 K pan e w = vcOps Tryd.prog [.op (.ari 72 .eql .i64 (.tmp 70) (.const (.int .i64 3))) none, .op (.mov 71 (.tmp 72)) none, .keep [1, 3, 5, 6, 70, 71]] K pan e w) ∧
  (∀ (K : Env → World → Prop) (pan : List PanicEntry → World → Prop) (e : Env) (w : World), vcOps Tryd.prog r20_17 K pan e w = vcOps Tryd.prog [.op (.faddr 73 6 (.tmp 1)) none, .op (.load 74 (.tmp 73)) none, .op (.faddr 75 6 (.tmp 6)) none, .op (.store (.tmp 75) (.tmp 74)) none, .keep [1, 3, 5, 6]] K pan e w) ∧
  (∀ (K : Env → World → Prop) (pan : List PanicEntry → World → Prop) (e : Env) (w : World), vcOps Tryd.prog r20_18 K pan e w = vcOps Tryd.prog [.op (.mov 76 (.tmp 5)) none, .op (.nilCheck 77 (.tmp 76)) none, .op (.faddr 78 0 (.tmp 77)) none, .op (.faddr 79 6 (.tmp 1)) none, .op (.load 80 (.tmp 79)) none, .op (.call (some 81) 30 [(.tmp 78), (.tmp 80)]) none, .keep [3, 5, 6]] K pan e w) ∧
  (∀ (K : Env → World → Prop) (pan : List PanicEntry → World → Prop) (e : Env) (w : World), vcOps Tryd.prog r20_19 K pan e w = vcOps Tryd.prog [.op (.ari 83 .eql .i64 (.tmp 70) (.const (.int .i64 4))) none, .op (.mov 82 (.tmp 83)) none, .keep [1, 3, 5, 6, 70, 82]] K pan e w) ∧
  (∀ (W : World → Prop) (K : (World → Prop) → Env → World → Prop) (pan : List PanicEntry → World → Prop) (e : Env) (w : World), vcW Tryd.prog W r20_20 K pan e w = vcW Tryd.prog W [(0, .op (.faddr 84 4 (.tmp 1)) none), (0, .op (.load 85 (.tmp 84)) none), (0, .op (.faddr 86 5 (.tmp 1)) none), (1, .op (.load 87 (.tmp 86)) none), (0, .op (.faddr 88 6 (.tmp 1)) none), (1, .op (.load 89 (.tmp 88)) none), (0, .op (.faddr 90 4 (.tmp 6)) none), (2, .op (.store (.tmp 90) (.tmp 85)) none), (0, .op (.faddr 91 5 (.tmp 6)) none), (2, .op (.store (.tmp 91) (.tmp 87)) none), (0, .op (.faddr 92 6 (.tmp 6)) none), (0, .op (.store (.tmp 92) (.tmp 89)) none), (0, .keep [1, 3, 5, 6])] K pan e w) ∧
  (∀ (K : Env → World → Prop) (pan : List PanicEntry → World → Prop) (e : Env) (w : World), vcOps Tryd.prog r20_21 K pan e w = vcOps Tryd.prog [.op (.mov 93 (.tmp 5)) none, .op (.faddr 94 4 (.tmp 1)) none, .op (.load 95 (.tmp 94)) none, .op (.call (some 96) 28 [(.tmp 93), (.tmp 95), (.const (.int .i64 2))]) none, .keep [1, 3, 5, 6]] K pan e w) ∧
  (∀ (K : Env → World → Prop) (pan : List PanicEntry → World → Prop) (e : Env) (w : World), vcOps Tryd.prog r20_22 K pan e w = vcOps Tryd.prog [.op (.mov 97 (.tmp 5)) none, .op (.faddr 98 5 (.tmp 1)) none, .op (.load 99 (.tmp 98)) none, .op (.call (some 100) 28 [(.tmp 97), (.tmp 99), (.const (.int .i64 2))]) none, .keep [1, 3, 5, 6]] K pan e w) ∧
  (∀ (K : Env → World → Prop) (pan : List PanicEntry → World → Prop) (e : Env) (w : World), vcOps Tryd.prog r20_23 K pan e w = vcOps Tryd.prog [.op (.mov 101 (.tmp 5)) none, .op (.nilCheck 102 (.tmp 101)) none, .op (.faddr 103 0 (.tmp 102)) none, .op (.faddr 104 6 (.tmp 1)) none, .op (.load 105 (.tmp 104)) none, .op (.call (some 106) 30 [(.tmp 103), (.tmp 105)]) none, .keep [3, 5, 6]] K pan e w) ∧
  (∀ (K : Env → World → Prop) (pan : List PanicEntry → World → Prop) (e : Env) (w : World), vcOps Tryd.prog r20_24 K pan e w = vcOps Tryd.prog [.op (.ari 108 .eql .i64 (.tmp 70) (.const (.int .i64 6))) none, .op (.mov 107 (.tmp 108)) none, .keep [1, 3, 5, 6, 107]] K pan e w) ∧
  (∀ (K : Env → World → Prop) (pan : List PanicEntry → World → Prop) (e : Env) (w : World), vcOps Tryd.prog r20_25 K pan e w = vcOps Tryd.prog [.op (.faddr 109 7 (.tmp 1)) none, .op (.load 110 (.tmp 109)) none, .op (.faddr 111 7 (.tmp 6)) none, .op (.store (.tmp 111) (.tmp 110)) none, .keep [1, 3, 5, 6]] K pan e w) ∧
  (∀ (K : Env → World → Prop) (pan : List PanicEntry → World → Prop) (e : Env) (w : World), vcOps Tryd.prog r20_26 K pan e w = vcOps Tryd.prog [.op (.mov 112 (.tmp 5)) none, .op (.faddr 113 7 (.tmp 1)) none, .op (.load 114 (.tmp 113)) none, .op (.call (some 115) 31 [(.tmp 112), (.tmp 114)]) none, .keep [3, 5, 6]] K pan e w) ∧
  (∀ (K : Env → World → Prop) (pan : List PanicEntry → World → Prop) (e : Env) (w : World), vcOps Tryd.prog r20_27 K pan e w = vcOps Tryd.prog [.op (.mov 117 (.tmp 5)) none, .op (.call (some 118) 29 [(.tmp 117)]) none, .op (.mov 116 (.tmp 118)) none, .op (.ext 119 0 (.tmp 116)) none, .op (.ext 120 1 (.tmp 116)) none, .op (.mov 9 (.tmp 119)) none, .op (.mov 10 (.tmp 120)) none, .keep [3, 6, 9, 10]] K pan e w) ∧
  (∀ (K : Env → World → Prop) (pan : List PanicEntry → World → Prop) (e : Env) (w : World), vcOps Tryd.prog r20_28 K pan e w = vcOps Tryd.prog [.op (.mov 121 (.tmp 9)) none, .op (.loadN 122 8 (.tmp 6)) none, .op (.mov 123 (.tmp 10)) none, .op (.mov 2 (.tmp 121)) none, .op (.storeN 8 (.tmp 3) (.tmp 122)) none, .op (.mov 4 (.tmp 123)) none, .keep [2, 3, 4]] K pan e w) := ⟨fun _ _ _ _ => rfl, fun _ _ _ _ => rfl, fun _ _ _ _ => rfl, fun _ _ _ _ => rfl, fun _ _ _ _ => rfl, fun _ _ _ _ => rfl, fun _ _ _ _ => rfl, fun _ _ _ _ => rfl, fun _ _ _ _ => rfl, fun _ _ _ _ => rfl, fun _ _ _ _ => rfl, fun _ _ _ _ => rfl, fun _ _ _ _ => rfl, fun _ _ _ _ => rfl, fun _ _ _ _ => rfl, fun _ _ _ _ => rfl, fun _ _ _ _ => rfl, fun _ _ _ _ => rfl, fun _ _ _ _ => rfl, fun _ _ _ _ => rfl, fun _ _ _ _ _ => rfl, fun _ _ _ _ => rfl, fun _ _ _ _ => rfl, fun _ _ _ _ => rfl, fun _ _ _ _ => rfl, fun _ _ _ _ => rfl, fun _ _ _ _ => rfl, fun _ _ _ _ => rfl, fun _ _ _ _ => rfl⟩
theorem low20 : Tryd.f20.body.bind (lowerC Tryd.prog 124 (fun i => List.lookup i [(8, .fin [(0, 0), (1, 0), (2, 0), (3, 0), (4, 0), (5, 0)]), (18, .fin [(0, 0), (1, 0), (2, 0), (3, 0), (4, 0), (5, 0)]), (20, .fin [(0, 0), (1, 0), (2, 0), (3, 1), (4, 0), (5, 1), (6, 0), (7, 2), (8, 0), (9, 2), (10, 0), (11, 0)]), (23, .fin [(0, 0), (1, 0), (2, 0), (3, 0), (4, 0), (5, 0)]), (28, .fin [(0, 0), (1, 0), (2, 0), (3, 0), (4, 0), (5, 0)])])) = some c20.erase := by kernel_rfl
theorem enter20 {args : List Value} {w : World} {R : Ending → World → Prop} (ha : args.length ≤ 124) (h : vc Tryd.prog c20 (endPost [.t 2, .cN 3 8, .t 4] R) (argEnv 0 args) w) : Calls Tryd.prog 20 args.toArray w R :=
  calls_of_vc Tryd.func20 rfl low20 rfl ha h
/-- The code of aquatint/wire.sameReply. -/
def r21_0 : List G := [.op (.box 2 25 (.tmp 0)) none,
  .op (.box 3 25 (.tmp 1)) none,
  .op (.mov 4 (.const (.bool false))) none,
  .keep [2, 3]]
def r21_1 : List G := [.op (.faddr 5 0 (.tmp 2)) none,
  .op (.load 6 (.tmp 5)) none,
  .op (.faddr 7 0 (.tmp 3)) none,
  .op (.load 8 (.tmp 7)) none,
  .op (.ari 9 .eql .i64 (.tmp 6) (.tmp 8)) none,
  .op (.mov 10 (.tmp 9)) none,
  .keep [2, 3, 10],
  .op (.faddr 11 1 (.tmp 2)) (some (10, true)),
  .op (.load 12 (.tmp 11)) (some (10, true)),
  .op (.faddr 13 1 (.tmp 3)) (some (10, true)),
  .op (.load 14 (.tmp 13)) (some (10, true)),
  .op (.ari 15 .eql .i64 (.tmp 12) (.tmp 14)) (some (10, true)),
  .op (.pick 16 (.tmp 10) (.tmp 15) (.const (.bool false))) none,
  .keep [2, 3, 16],
  .op (.mov 17 (.tmp 16)) none,
  .op (.faddr 18 2 (.tmp 2)) (some (17, true)),
  .op (.load 19 (.tmp 18)) (some (17, true)),
  .op (.faddr 20 2 (.tmp 3)) (some (17, true)),
  .op (.load 21 (.tmp 20)) (some (17, true)),
  .op (.ari 22 .eql .i64 (.tmp 19) (.tmp 21)) (some (17, true)),
  .op (.pick 23 (.tmp 17) (.tmp 22) (.const (.bool false))) none,
  .keep [2, 3, 23],
  .op (.mov 24 (.tmp 23)) none,
  .op (.faddr 25 3 (.tmp 2)) (some (24, true)),
  .op (.load 26 (.tmp 25)) (some (24, true)),
  .op (.faddr 27 3 (.tmp 3)) (some (24, true)),
  .op (.load 28 (.tmp 27)) (some (24, true)),
  .op (.ari 29 .eql .i64 (.tmp 26) (.tmp 28)) (some (24, true)),
  .op (.pick 30 (.tmp 24) (.tmp 29) (.const (.bool false))) none,
  .keep [2, 3, 30],
  .op (.mov 31 (.tmp 30)) none,
  .op (.faddr 32 4 (.tmp 2)) (some (31, true)),
  .op (.load 33 (.tmp 32)) (some (31, true)),
  .op (.faddr 34 4 (.tmp 3)) (some (31, true)),
  .op (.load 35 (.tmp 34)) (some (31, true)),
  .op (.ari 36 .eql .i64 (.tmp 33) (.tmp 35)) (some (31, true)),
  .op (.pick 37 (.tmp 31) (.tmp 36) (.const (.bool false))) none,
  .keep [2, 3, 37],
  .op (.mov 38 (.tmp 37)) none,
  .op (.faddr 39 5 (.tmp 2)) (some (38, true)),
  .op (.load 40 (.tmp 39)) (some (38, true)),
  .op (.faddr 41 5 (.tmp 3)) (some (38, true)),
  .op (.load 42 (.tmp 41)) (some (38, true)),
  .op (.ari 43 .eql .i64 (.tmp 40) (.tmp 42)) (some (38, true)),
  .op (.pick 44 (.tmp 38) (.tmp 43) (.const (.bool false))) none,
  .keep [2, 3, 44],
  .op (.mov 45 (.tmp 44)) none,
  .op (.faddr 46 6 (.tmp 2)) (some (45, true)),
  .op (.load 47 (.tmp 46)) (some (45, true)),
  .op (.faddr 48 6 (.tmp 3)) (some (45, true)),
  .op (.load 49 (.tmp 48)) (some (45, true)),
  .op (.sop 50 .eql (.tmp 47) (.tmp 49)) (some (45, true)),
  .op (.pick 51 (.tmp 45) (.tmp 50) (.const (.bool false))) none,
  .op (.mov 52 (.tmp 51)) none,
  .op (.faddr 53 7 (.tmp 2)) (some (52, true)),
  .op (.load 54 (.tmp 53)) (some (52, true)),
  .op (.lenL 55 (.tmp 54)) (some (52, true)),
  .op (.faddr 56 7 (.tmp 3)) (some (52, true)),
  .op (.load 57 (.tmp 56)) (some (52, true)),
  .op (.lenL 58 (.tmp 57)) (some (52, true)),
  .op (.ari 59 .eql .i64 (.tmp 55) (.tmp 58)) (some (52, true)),
  .op (.pick 60 (.tmp 52) (.tmp 59) (.const (.bool false))) none,
  .op (.mov 4 (.tmp 60)) none,
  .keep [4]]
def c21 : C := (.seq (.region r21_0) (.seq (.region r21_1) .ret))
theorem x21 : (∀ (K : Env → World → Prop) (pan : List PanicEntry → World → Prop) (e : Env) (w : World), vcOps Tryd.prog r21_0 K pan e w = vcOps Tryd.prog [.op (.box 2 25 (.tmp 0)) none, .op (.box 3 25 (.tmp 1)) none, .op (.mov 4 (.const (.bool false))) none, .keep [2, 3]] K pan e w) ∧
  (∀ (K : Env → World → Prop) (pan : List PanicEntry → World → Prop) (e : Env) (w : World), vcOps Tryd.prog r21_1 K pan e w = vcOps Tryd.prog [.op (.faddr 5 0 (.tmp 2)) none, .op (.load 6 (.tmp 5)) none, .op (.faddr 7 0 (.tmp 3)) none, .op (.load 8 (.tmp 7)) none, .op (.ari 9 .eql .i64 (.tmp 6) (.tmp 8)) none, .op (.mov 10 (.tmp 9)) none, .keep [2, 3, 10], .op (.faddr 11 1 (.tmp 2)) (some (10, true)), .op (.load 12 (.tmp 11)) (some (10, true)), .op (.faddr 13 1 (.tmp 3)) (some (10, true)), .op (.load 14 (.tmp 13)) (some (10, true)), .op (.ari 15 .eql .i64 (.tmp 12) (.tmp 14)) (some (10, true)), .op (.pick 16 (.tmp 10) (.tmp 15) (.const (.bool false))) none, .keep [2, 3, 16], .op (.mov 17 (.tmp 16)) none, .op (.faddr 18 2 (.tmp 2)) (some (17, true)), .op (.load 19 (.tmp 18)) (some (17, true)), .op (.faddr 20 2 (.tmp 3)) (some (17, true)), .op (.load 21 (.tmp 20)) (some (17, true)), .op (.ari 22 .eql .i64 (.tmp 19) (.tmp 21)) (some (17, true)), .op (.pick 23 (.tmp 17) (.tmp 22) (.const (.bool false))) none, .keep [2, 3, 23], .op (.mov 24 (.tmp 23)) none, .op (.faddr 25 3 (.tmp 2)) (some (24, true)), .op (.load 26 (.tmp 25)) (some (24, true)), .op (.faddr 27 3 (.tmp 3)) (some (24, true)), .op (.load 28 (.tmp 27)) (some (24, true)), .op (.ari 29 .eql .i64 (.tmp 26) (.tmp 28)) (some (24, true)), .op (.pick 30 (.tmp 24) (.tmp 29) (.const (.bool false))) none, .keep [2, 3, 30], .op (.mov 31 (.tmp 30)) none, .op (.faddr 32 4 (.tmp 2)) (some (31, true)), .op (.load 33 (.tmp 32)) (some (31, true)), .op (.faddr 34 4 (.tmp 3)) (some (31, true)), .op (.load 35 (.tmp 34)) (some (31, true)), .op (.ari 36 .eql .i64 (.tmp 33) (.tmp 35)) (some (31, true)), .op (.pick 37 (.tmp 31) (.tmp 36) (.const (.bool false))) none, .keep [2, 3, 37], .op (.mov 38 (.tmp 37)) none, .op (.faddr 39 5 (.tmp 2)) (some (38, true)), .op (.load 40 (.tmp 39)) (some (38, true)), .op (.faddr 41 5 (.tmp 3)) (some (38, true)), .op (.load 42 (.tmp 41)) (some (38, true)), .op (.ari 43 .eql .i64 (.tmp 40) (.tmp 42)) (some (38, true)), .op (.pick 44 (.tmp 38) (.tmp 43) (.const (.bool false))) none, .keep [2, 3, 44], .op (.mov 45 (.tmp 44)) none, .op (.faddr 46 6 (.tmp 2)) (some (45, true)), .op (.load 47 (.tmp 46)) (some (45, true)), .op (.faddr 48 6 (.tmp 3)) (some (45, true)), .op (.load 49 (.tmp 48)) (some (45, true)), .op (.sop 50 .eql (.tmp 47) (.tmp 49)) (some (45, true)), .op (.pick 51 (.tmp 45) (.tmp 50) (.const (.bool false))) none, .op (.mov 52 (.tmp 51)) none, .op (.faddr 53 7 (.tmp 2)) (some (52, true)), .op (.load 54 (.tmp 53)) (some (52, true)), .op (.lenL 55 (.tmp 54)) (some (52, true)), .op (.faddr 56 7 (.tmp 3)) (some (52, true)), .op (.load 57 (.tmp 56)) (some (52, true)), .op (.lenL 58 (.tmp 57)) (some (52, true)), .op (.ari 59 .eql .i64 (.tmp 55) (.tmp 58)) (some (52, true)), .op (.pick 60 (.tmp 52) (.tmp 59) (.const (.bool false))) none, .op (.mov 4 (.tmp 60)) none, .keep [4]] K pan e w) := ⟨fun _ _ _ _ => rfl, fun _ _ _ _ => rfl⟩
theorem low21 : Tryd.f21.body.bind (lowerC Tryd.prog 61 (fun _ => none)) = some c21.erase := by kernel_rfl
theorem enter21 {args : List Value} {w : World} {R : Ending → World → Prop} (ha : args.length ≤ 61) (h : vc Tryd.prog c21 (endPost [.t 4] R) (argEnv 0 args) w) : Calls Tryd.prog 21 args.toArray w R :=
  calls_of_vc Tryd.func21 rfl low21 rfl ha h
/-- The code of aquatint/wire.CleanReply. -/
def r10_0 : List G := [.op (.box 1 25 (.tmp 0)) none,
  .op (.mov 2 (.const (.bool false))) none,
  .keep [1]]
def r10_1 : List G := [.op (.loadN 7 8 (.tmp 1)) none,
  .op (.call (some 8) 20 [(.tmp 7)]) none,
  .op (.mov 6 (.tmp 8)) none,
  .op (.ext 9 0 (.tmp 6)) none,
  .op (.ext 10 1 (.tmp 6)) none,
  .op (.ext 11 2 (.tmp 6)) none,
  .op (.alloc 4 25) none,
  .op (.mov 3 (.tmp 9)) none,
  .op (.storeN 8 (.tmp 4) (.tmp 10)) none,
  .op (.mov 5 (.tmp 11)) none,
  .keep [1, 4, 5]]
def r10_2 : List G := [.op (.mov 12 (.tmp 5)) none,
  .op (.mov 13 (.tmp 12)) none,
  .op (.loadN 14 8 (.tmp 1)) (some (13, true)),
  .op (.loadN 15 8 (.tmp 4)) (some (13, true)),
  .op (.call (some 16) 21 [(.tmp 14), (.tmp 15)]) (some (13, true)),
  .op (.pick 17 (.tmp 13) (.tmp 16) (.const (.bool false))) none,
  .op (.mov 2 (.tmp 17)) none,
  .keep [2]]
def c10 : C := (.seq (.region r10_0) (.seq (.region r10_1) (.seq (.region r10_2) .ret)))
theorem x10 : (∀ (K : Env → World → Prop) (pan : List PanicEntry → World → Prop) (e : Env) (w : World), vcOps Tryd.prog r10_0 K pan e w = vcOps Tryd.prog [.op (.box 1 25 (.tmp 0)) none, .op (.mov 2 (.const (.bool false))) none, .keep [1]] K pan e w) ∧
  (∀ (K : Env → World → Prop) (pan : List PanicEntry → World → Prop) (e : Env) (w : World), vcOps Tryd.prog r10_1 K pan e w = vcOps Tryd.prog [.op (.loadN 7 8 (.tmp 1)) none, .op (.call (some 8) 20 [(.tmp 7)]) none, .op (.mov 6 (.tmp 8)) none, .op (.ext 9 0 (.tmp 6)) none, .op (.ext 10 1 (.tmp 6)) none, .op (.ext 11 2 (.tmp 6)) none, .op (.alloc 4 25) none, .op (.mov 3 (.tmp 9)) none, .op (.storeN 8 (.tmp 4) (.tmp 10)) none, .op (.mov 5 (.tmp 11)) none, .keep [1, 4, 5]] K pan e w) ∧
  (∀ (K : Env → World → Prop) (pan : List PanicEntry → World → Prop) (e : Env) (w : World), vcOps Tryd.prog r10_2 K pan e w = vcOps Tryd.prog [.op (.mov 12 (.tmp 5)) none, .op (.mov 13 (.tmp 12)) none, .op (.loadN 14 8 (.tmp 1)) (some (13, true)), .op (.loadN 15 8 (.tmp 4)) (some (13, true)), .op (.call (some 16) 21 [(.tmp 14), (.tmp 15)]) (some (13, true)), .op (.pick 17 (.tmp 13) (.tmp 16) (.const (.bool false))) none, .op (.mov 2 (.tmp 17)) none, .keep [2]] K pan e w) := ⟨fun _ _ _ _ => rfl, fun _ _ _ _ => rfl, fun _ _ _ _ => rfl⟩
theorem low10 : Tryd.f10.body.bind (lowerC Tryd.prog 18 (fun _ => none)) = some c10.erase := by kernel_rfl
theorem enter10 {args : List Value} {w : World} {R : Ending → World → Prop} (ha : args.length ≤ 18) (h : vc Tryd.prog c10 (endPost [.t 2] R) (argEnv 0 args) w) : Calls Tryd.prog 10 args.toArray w R :=
  calls_of_vc Tryd.func10 rfl low10 rfl ha h
/-- The code of aquatint/wire.ReplyBytes. -/
def r8_0 : List G := [.op (.box 1 25 (.tmp 0)) none,
  .op (.mov 2 (.const (.string { data := #[] }))) none,
  .op (.mov 3 (.const (.int .i64 0))) none,
  .keep [1]]
def r8_1 : List G := [.op (.loadN 8 8 (.tmp 1)) none,
  .op (.call (some 9) 20 [(.tmp 8)]) none,
  .op (.mov 7 (.tmp 9)) none,
  .op (.ext 10 0 (.tmp 7)) none,
  .op (.ext 11 1 (.tmp 7)) none,
  .op (.ext 12 2 (.tmp 7)) none,
  .op (.alloc 5 25) none,
  .op (.mov 4 (.tmp 10)) none,
  .op (.storeN 8 (.tmp 5) (.tmp 11)) none,
  .op (.mov 6 (.tmp 12)) none,
  .keep [1, 4, 5, 6]]
def r8_2 : List G := [.op (.mov 13 (.tmp 6)) none,
  .op (.not 14 (.tmp 13)) none,
  .op (.mov 15 (.tmp 14)) none,
  .op (.loadN 16 8 (.tmp 1)) (some (15, false)),
  .op (.loadN 17 8 (.tmp 5)) (some (15, false)),
  .op (.call (some 18) 21 [(.tmp 16), (.tmp 17)]) (some (15, false)),
  .op (.not 19 (.tmp 18)) (some (15, false)),
  .op (.pick 20 (.tmp 15) (.const (.bool true)) (.tmp 19)) none,
  .keep [4, 20]]
def r8_3 : List G := [.op (.mov 2 (.const (.string { data := #[] }))) none,
  .op (.mov 3 (.const (.int .i64 1))) none,
  .keep [2, 3]]
def r8_4 : List G := [.op (.mov 21 (.tmp 4)) none,
  .op (.mov 2 (.tmp 21)) none,
  .op (.mov 3 (.const (.int .i64 0))) none,
  .keep [2, 3]]
def c8 : C := (.seq (.region r8_0) (.seq (.region r8_1) (.seq (.seq (.region r8_2) (.cond (.tmp 20) (.seq (.region r8_3) .ret) .skip)) (.seq (.region r8_4) .ret))))
theorem x8 : (∀ (K : Env → World → Prop) (pan : List PanicEntry → World → Prop) (e : Env) (w : World), vcOps Tryd.prog r8_0 K pan e w = vcOps Tryd.prog [.op (.box 1 25 (.tmp 0)) none, .op (.mov 2 (.const (.string { data := #[] }))) none, .op (.mov 3 (.const (.int .i64 0))) none, .keep [1]] K pan e w) ∧
  (∀ (K : Env → World → Prop) (pan : List PanicEntry → World → Prop) (e : Env) (w : World), vcOps Tryd.prog r8_1 K pan e w = vcOps Tryd.prog [.op (.loadN 8 8 (.tmp 1)) none, .op (.call (some 9) 20 [(.tmp 8)]) none, .op (.mov 7 (.tmp 9)) none, .op (.ext 10 0 (.tmp 7)) none, .op (.ext 11 1 (.tmp 7)) none, .op (.ext 12 2 (.tmp 7)) none, .op (.alloc 5 25) none, .op (.mov 4 (.tmp 10)) none, .op (.storeN 8 (.tmp 5) (.tmp 11)) none, .op (.mov 6 (.tmp 12)) none, .keep [1, 4, 5, 6]] K pan e w) ∧
  (∀ (K : Env → World → Prop) (pan : List PanicEntry → World → Prop) (e : Env) (w : World), vcOps Tryd.prog r8_2 K pan e w = vcOps Tryd.prog [.op (.mov 13 (.tmp 6)) none, .op (.not 14 (.tmp 13)) none, .op (.mov 15 (.tmp 14)) none, .op (.loadN 16 8 (.tmp 1)) (some (15, false)), .op (.loadN 17 8 (.tmp 5)) (some (15, false)), .op (.call (some 18) 21 [(.tmp 16), (.tmp 17)]) (some (15, false)), .op (.not 19 (.tmp 18)) (some (15, false)), .op (.pick 20 (.tmp 15) (.const (.bool true)) (.tmp 19)) none, .keep [4, 20]] K pan e w) ∧
  (∀ (K : Env → World → Prop) (pan : List PanicEntry → World → Prop) (e : Env) (w : World), vcOps Tryd.prog r8_3 K pan e w = vcOps Tryd.prog [.op (.mov 2 (.const (.string { data := #[] }))) none, .op (.mov 3 (.const (.int .i64 1))) none, .keep [2, 3]] K pan e w) ∧
  (∀ (K : Env → World → Prop) (pan : List PanicEntry → World → Prop) (e : Env) (w : World), vcOps Tryd.prog r8_4 K pan e w = vcOps Tryd.prog [.op (.mov 21 (.tmp 4)) none, .op (.mov 2 (.tmp 21)) none, .op (.mov 3 (.const (.int .i64 0))) none, .keep [2, 3]] K pan e w) := ⟨fun _ _ _ _ => rfl, fun _ _ _ _ => rfl, fun _ _ _ _ => rfl, fun _ _ _ _ => rfl, fun _ _ _ _ => rfl⟩
theorem low8 : Tryd.f8.body.bind (lowerC Tryd.prog 22 (fun _ => none)) = some c8.erase := by kernel_rfl
theorem enter8 {args : List Value} {w : World} {R : Ending → World → Prop} (ha : args.length ≤ 22) (h : vc Tryd.prog c8 (endPost [.t 2, .t 3] R) (argEnv 0 args) w) : Calls Tryd.prog 8 args.toArray w R :=
  calls_of_vc Tryd.func8 rfl low8 rfl ha h
/-- The code of aquatint/aquatintref24.ReplyBytes. -/
def r9_0 : List G := [.op (.box 1 25 (.tmp 0)) none,
  .op (.mov 2 (.const (.string { data := #[] }))) none,
  .op (.mov 3 (.const (.int .i64 0))) none,
  .keep [1]]
def r9_1 : List G := [.op (.loadN 4 8 (.tmp 1)) none,
  .op (.call (some 5) 11 [(.tmp 4)]) none,
  .op (.not 6 (.tmp 5)) none,
  .keep [1, 6]]
def r9_2 : List G := [.op (.mov 2 (.const (.string { data := #[] }))) none,
  .op (.mov 3 (.const (.int .i64 1))) none,
  .keep [2, 3]]
def r9_3 : List G := [.op (.loadN 7 8 (.tmp 1)) none,
  .op (.call (some 8) 22 [(.tmp 7)]) none,
  .op (.mov 2 (.tmp 8)) none,
  .op (.mov 3 (.const (.int .i64 0))) none,
  .keep [2, 3]]
def c9 : C := (.seq (.region r9_0) (.seq (.seq (.region r9_1) (.cond (.tmp 6) (.seq (.region r9_2) .ret) .skip)) (.seq (.region r9_3) .ret)))
theorem x9 : (∀ (K : Env → World → Prop) (pan : List PanicEntry → World → Prop) (e : Env) (w : World), vcOps Tryd.prog r9_0 K pan e w = vcOps Tryd.prog [.op (.box 1 25 (.tmp 0)) none, .op (.mov 2 (.const (.string { data := #[] }))) none, .op (.mov 3 (.const (.int .i64 0))) none, .keep [1]] K pan e w) ∧
  (∀ (K : Env → World → Prop) (pan : List PanicEntry → World → Prop) (e : Env) (w : World), vcOps Tryd.prog r9_1 K pan e w = vcOps Tryd.prog [.op (.loadN 4 8 (.tmp 1)) none, .op (.call (some 5) 11 [(.tmp 4)]) none, .op (.not 6 (.tmp 5)) none, .keep [1, 6]] K pan e w) ∧
  (∀ (K : Env → World → Prop) (pan : List PanicEntry → World → Prop) (e : Env) (w : World), vcOps Tryd.prog r9_2 K pan e w = vcOps Tryd.prog [.op (.mov 2 (.const (.string { data := #[] }))) none, .op (.mov 3 (.const (.int .i64 1))) none, .keep [2, 3]] K pan e w) ∧
  (∀ (K : Env → World → Prop) (pan : List PanicEntry → World → Prop) (e : Env) (w : World), vcOps Tryd.prog r9_3 K pan e w = vcOps Tryd.prog [.op (.loadN 7 8 (.tmp 1)) none, .op (.call (some 8) 22 [(.tmp 7)]) none, .op (.mov 2 (.tmp 8)) none, .op (.mov 3 (.const (.int .i64 0))) none, .keep [2, 3]] K pan e w) := ⟨fun _ _ _ _ => rfl, fun _ _ _ _ => rfl, fun _ _ _ _ => rfl, fun _ _ _ _ => rfl⟩
theorem low9 : Tryd.f9.body.bind (lowerC Tryd.prog 9 (fun _ => none)) = some c9.erase := by kernel_rfl
theorem enter9 {args : List Value} {w : World} {R : Ending → World → Prop} (ha : args.length ≤ 9) (h : vc Tryd.prog c9 (endPost [.t 2, .t 3] R) (argEnv 0 args) w) : Calls Tryd.prog 9 args.toArray w R :=
  calls_of_vc Tryd.func9 rfl low9 rfl ha h
/-- The code of aquatint/aquatintref24.CleanReply. -/
def r11_0 : List G := [.op (.box 1 25 (.tmp 0)) none,
  .op (.mov 2 (.const (.bool false))) none,
  .keep [1]]
def r11_1 : List G := [.op (.faddr 5 0 (.tmp 1)) none,
  .op (.load 6 (.tmp 5)) none,
  .op (.ari 7 .lss .i64 (.tmp 6) (.const (.int .i64 0))) none,
  .op (.mov 8 (.tmp 7)) none,
  .op (.faddr 9 0 (.tmp 1)) (some (8, false)),
  .op (.load 10 (.tmp 9)) (some (8, false)),
  .op (.ari 11 .gtr .i64 (.tmp 10) (.const (.int .i64 6))) (some (8, false)),
  .op (.pick 12 (.tmp 8) (.const (.bool true)) (.tmp 11)) none,
  .op (.mov 13 (.tmp 12)) none,
  .op (.faddr 14 1 (.tmp 1)) (some (13, false)),
  .op (.load 15 (.tmp 14)) (some (13, false)),
  .op (.ari 16 .lss .i64 (.tmp 15) (.const (.int .i64 0))) (some (13, false)),
  .op (.pick 17 (.tmp 13) (.const (.bool true)) (.tmp 16)) none,
  .op (.mov 18 (.tmp 17)) none,
  .op (.faddr 19 1 (.tmp 1)) (some (18, false)),
  .op (.load 20 (.tmp 19)) (some (18, false)),
  .op (.ari 21 .gtr .i64 (.tmp 20) (.const (.int .i64 255))) (some (18, false)),
  .op (.pick 22 (.tmp 18) (.const (.bool true)) (.tmp 21)) none,
  .keep [1, 22]]
def r11_2 : List G := [.op (.mov 2 (.const (.bool false))) none,
  .keep [2]]
def r11_3 : List G := [.op (.faddr 23 1 (.tmp 1)) none,
  .op (.load 24 (.tmp 23)) none,
  .op (.ari 25 .eql .i64 (.tmp 24) (.const (.int .i64 0))) none,
  .op (.mov 3 (.tmp 25)) none,
  .keep [1, 3]]
def r11_4 : List G := [.op (.faddr 26 2 (.tmp 1)) none,
  .op (.load 27 (.tmp 26)) none,
  .op (.ari 28 .neq .i64 (.tmp 27) (.const (.int .i64 0))) none,
  .op (.mov 29 (.tmp 28)) none,
  .op (.mov 30 (.tmp 3)) (some (29, true)),
  .op (.not 31 (.tmp 30)) (some (29, true)),
  .op (.mov 32 (.tmp 31)) (some (29, true)),
  .op (.faddr 33 0 (.tmp 1)) (some (32, false)),
  .op (.load 34 (.tmp 33)) (some (32, false)),
  .op (.ari 35 .eql .i64 (.tmp 34) (.const (.int .i64 6))) (some (32, false)),
  .op (.pick 36 (.tmp 32) (.const (.bool true)) (.tmp 35)) (some (29, true)),
  .op (.pick 37 (.tmp 29) (.tmp 36) (.const (.bool false))) none,
  .keep [1, 3, 37],
  .op (.mov 38 (.tmp 37)) none,
  .op (.faddr 39 3 (.tmp 1)) (some (38, false)),
  .op (.load 40 (.tmp 39)) (some (38, false)),
  .op (.ari 41 .neq .i64 (.tmp 40) (.const (.int .i64 0))) (some (38, false)),
  .op (.mov 42 (.tmp 41)) (some (38, false)),
  .op (.mov 43 (.tmp 3)) (some (42, true)),
  .op (.not 44 (.tmp 43)) (some (42, true)),
  .op (.mov 45 (.tmp 44)) (some (42, true)),
  .op (.faddr 46 0 (.tmp 1)) (some (45, false)),
  .op (.load 47 (.tmp 46)) (some (45, false)),
  .op (.ari 48 .gtr .i64 (.tmp 47) (.const (.int .i64 4))) (some (45, false)),
  .op (.pick 49 (.tmp 45) (.const (.bool true)) (.tmp 48)) (some (42, true)),
  .op (.pick 50 (.tmp 42) (.tmp 49) (.const (.bool false))) (some (38, false)),
  .op (.pick 51 (.tmp 38) (.const (.bool true)) (.tmp 50)) none,
  .keep [1, 3, 51],
  .op (.mov 52 (.tmp 51)) none,
  .op (.faddr 53 4 (.tmp 1)) (some (52, false)),
  .op (.load 54 (.tmp 53)) (some (52, false)),
  .op (.ari 55 .neq .i64 (.tmp 54) (.const (.int .i64 0))) (some (52, false)),
  .op (.mov 56 (.tmp 55)) (some (52, false)),
  .op (.faddr 57 5 (.tmp 1)) (some (56, false)),
  .op (.load 58 (.tmp 57)) (some (56, false)),
  .op (.ari 59 .neq .i64 (.tmp 58) (.const (.int .i64 0))) (some (56, false)),
  .op (.pick 60 (.tmp 56) (.const (.bool true)) (.tmp 59)) (some (52, false)),
  .keep [1, 3, 52, 60],
  .op (.mov 61 (.tmp 60)) (some (52, false)),
  .op (.mov 62 (.tmp 3)) (some (61, true)),
  .op (.not 63 (.tmp 62)) (some (61, true)),
  .op (.mov 64 (.tmp 63)) (some (61, true)),
  .op (.faddr 65 0 (.tmp 1)) (some (64, false)),
  .op (.load 66 (.tmp 65)) (some (64, false)),
  .op (.ari 67 .neq .i64 (.tmp 66) (.const (.int .i64 4))) (some (64, false)),
  .op (.pick 68 (.tmp 64) (.const (.bool true)) (.tmp 67)) (some (61, true)),
  .op (.pick 69 (.tmp 61) (.tmp 68) (.const (.bool false))) (some (52, false)),
  .op (.pick 70 (.tmp 52) (.const (.bool true)) (.tmp 69)) none,
  .keep [1, 3, 70],
  .op (.mov 71 (.tmp 70)) none,
  .op (.faddr 72 6 (.tmp 1)) (some (71, false)),
  .op (.load 73 (.tmp 72)) (some (71, false)),
  .op (.sop 74 .neq (.tmp 73) (.const (.string { data := #[] }))) (some (71, false)),
  .op (.mov 75 (.tmp 74)) (some (71, false)),
  .op (.mov 76 (.tmp 3)) (some (75, true)),
  .keep [1, 3, 71, 75, 76],
  .op (.not 77 (.tmp 76)) (some (75, true)),
  .op (.mov 78 (.tmp 77)) (some (75, true)),
  .op (.faddr 79 0 (.tmp 1)) (some (78, false)),
  .op (.load 80 (.tmp 79)) (some (78, false)),
  .op (.ari 81 .neq .i64 (.tmp 80) (.const (.int .i64 3))) (some (78, false)),
  .op (.mov 82 (.tmp 81)) (some (78, false)),
  .op (.faddr 83 0 (.tmp 1)) (some (82, true)),
  .op (.load 84 (.tmp 83)) (some (82, true)),
  .op (.ari 85 .neq .i64 (.tmp 84) (.const (.int .i64 4))) (some (82, true)),
  .op (.pick 86 (.tmp 82) (.tmp 85) (.const (.bool false))) (some (78, false)),
  .op (.pick 87 (.tmp 78) (.const (.bool true)) (.tmp 86)) (some (75, true)),
  .op (.pick 88 (.tmp 75) (.tmp 87) (.const (.bool false))) (some (71, false)),
  .op (.pick 89 (.tmp 71) (.const (.bool true)) (.tmp 88)) none,
  .keep [1, 3, 89],
  .op (.mov 90 (.tmp 89)) none,
  .op (.faddr 91 7 (.tmp 1)) (some (90, false)),
  .op (.load 92 (.tmp 91)) (some (90, false)),
  .op (.lenL 93 (.tmp 92)) (some (90, false)),
  .op (.ari 94 .gtr .i64 (.tmp 93) (.const (.int .i64 0))) (some (90, false)),
  .op (.mov 95 (.tmp 94)) (some (90, false)),
  .op (.mov 96 (.tmp 3)) (some (95, true)),
  .op (.not 97 (.tmp 96)) (some (95, true)),
  .op (.mov 98 (.tmp 97)) (some (95, true)),
  .op (.faddr 99 0 (.tmp 1)) (some (98, false)),
  .op (.load 100 (.tmp 99)) (some (98, false)),
  .op (.ari 101 .neq .i64 (.tmp 100) (.const (.int .i64 6))) (some (98, false)),
  .op (.pick 102 (.tmp 98) (.const (.bool true)) (.tmp 101)) (some (95, true)),
  .op (.pick 103 (.tmp 95) (.tmp 102) (.const (.bool false))) (some (90, false)),
  .op (.pick 104 (.tmp 90) (.const (.bool true)) (.tmp 103)) none,
  .keep [1, 104]]
def r11_5 : List G := [.op (.mov 2 (.const (.bool false))) none,
  .keep [2]]
def r11_6 : List G := [.op (.faddr 105 2 (.tmp 1)) none,
  .op (.load 106 (.tmp 105)) none,
  .op (.call (some 107) 23 [(.tmp 106)]) none,
  .op (.not 108 (.tmp 107)) none,
  .op (.mov 109 (.tmp 108)) none,
  .op (.faddr 110 3 (.tmp 1)) (some (109, false)),
  .op (.load 111 (.tmp 110)) (some (109, false)),
  .op (.call (some 112) 23 [(.tmp 111)]) (some (109, false)),
  .op (.not 113 (.tmp 112)) (some (109, false)),
  .op (.pick 114 (.tmp 109) (.const (.bool true)) (.tmp 113)) none,
  .op (.mov 115 (.tmp 114)) none,
  .op (.faddr 116 4 (.tmp 1)) (some (115, false)),
  .op (.load 117 (.tmp 116)) (some (115, false)),
  .op (.ari 118 .lss .i64 (.tmp 117) (.const (.int .i64 0))) (some (115, false)),
  .op (.pick 119 (.tmp 115) (.const (.bool true)) (.tmp 118)) none,
  .op (.mov 120 (.tmp 119)) none,
  .op (.faddr 121 4 (.tmp 1)) (some (120, false)),
  .op (.load 122 (.tmp 121)) (some (120, false)),
  .op (.ari 123 .gtr .i64 (.tmp 122) (.const (.int .i64 65535))) (some (120, false)),
  .op (.pick 124 (.tmp 120) (.const (.bool true)) (.tmp 123)) none,
  .op (.mov 125 (.tmp 124)) none,
  .op (.faddr 126 5 (.tmp 1)) (some (125, false)),
  .op (.load 127 (.tmp 126)) (some (125, false)),
  .op (.ari 128 .lss .i64 (.tmp 127) (.const (.int .i64 0))) (some (125, false)),
  .op (.pick 129 (.tmp 125) (.const (.bool true)) (.tmp 128)) none,
  .op (.mov 130 (.tmp 129)) none,
  .op (.faddr 131 5 (.tmp 1)) (some (130, false)),
  .op (.load 132 (.tmp 131)) (some (130, false)),
  .op (.ari 133 .gtr .i64 (.tmp 132) (.const (.int .i64 65535))) (some (130, false)),
  .op (.pick 134 (.tmp 130) (.const (.bool true)) (.tmp 133)) none,
  .keep [1, 134]]
def r11_7 : List G := [.op (.mov 2 (.const (.bool false))) none,
  .keep [2]]
def r11_8 : List G := [.op (.mov 4 (.const (.int .i64 0))) none,
  .keep [1, 4]]
def r11_9 : List G := [.op (.mov 135 (.tmp 4)) none,
  .op (.faddr 136 7 (.tmp 1)) none,
  .op (.load 137 (.tmp 136)) none,
  .op (.lenL 138 (.tmp 137)) none,
  .op (.ari 139 .lss .i64 (.tmp 135) (.tmp 138)) none,
  .keep [1, 4, 139]]
def r11_11 : List G := [.op (.faddr 142 7 (.tmp 1)) none,
  .op (.load 143 (.tmp 142)) none,
  .op (.mov 144 (.tmp 4)) none,
  .op (.iaddrL 145 3 (.tmp 143) (.tmp 144)) none,
  .op (.faddr 146 0 (.tmp 145)) none,
  .op (.load 147 (.tmp 146)) none,
  .op (.call (some 148) 23 [(.tmp 147)]) none,
  .op (.not 149 (.tmp 148)) none,
  .op (.mov 150 (.tmp 149)) none,
  .op (.faddr 151 7 (.tmp 1)) (some (150, false)),
  .op (.load 152 (.tmp 151)) (some (150, false)),
  .op (.mov 153 (.tmp 4)) (some (150, false)),
  .op (.iaddrL 154 3 (.tmp 152) (.tmp 153)) (some (150, false)),
  .op (.faddr 155 1 (.tmp 154)) (some (150, false)),
  .op (.load 156 (.tmp 155)) (some (150, false)),
  .op (.call (some 157) 23 [(.tmp 156)]) (some (150, false)),
  .op (.not 158 (.tmp 157)) (some (150, false)),
  .op (.pick 159 (.tmp 150) (.const (.bool true)) (.tmp 158)) none,
  .op (.mov 160 (.tmp 159)) none,
  .op (.faddr 161 7 (.tmp 1)) (some (160, false)),
  .op (.load 162 (.tmp 161)) (some (160, false)),
  .op (.mov 163 (.tmp 4)) (some (160, false)),
  .op (.iaddrL 164 3 (.tmp 162) (.tmp 163)) (some (160, false)),
  .op (.faddr 165 2 (.tmp 164)) (some (160, false)),
  .op (.load 166 (.tmp 165)) (some (160, false)),
  .op (.lenS 167 (.tmp 166)) (some (160, false)),
  .op (.ari 168 .gtr .i64 (.tmp 167) (.const (.int .i64 255))) (some (160, false)),
  .op (.pick 169 (.tmp 160) (.const (.bool true)) (.tmp 168)) none,
  .keep [1, 4, 169]]
def r11_12 : List G := [.op (.mov 2 (.const (.bool false))) none,
  .keep [2]]
def r11_10 : List G := [.op (.mov 140 (.tmp 4)) none,
  .op (.ari 141 .add .i64 (.tmp 140) (.const (.int .i64 1))) none,
  .op (.mov 4 (.tmp 141)) none,
  .keep [1, 4]]
def r11_13 : List G := [.op (.loadN 170 8 (.tmp 1)) none,
  .op (.call (some 171) 22 [(.tmp 170)]) none,
  .op (.lenS 172 (.tmp 171)) none,
  .op (.ari 173 .leq .i64 (.tmp 172) (.const (.int .i64 16781312))) none,
  .op (.mov 2 (.tmp 173)) none,
  .keep [2]]
def c11 : C := (.seq (.region r11_0) (.seq (.seq (.region r11_1) (.cond (.tmp 22) (.seq (.region r11_2) .ret) .skip)) (.seq (.region r11_3) (.seq (.seq (.region r11_4) (.cond (.tmp 104) (.seq (.region r11_5) .ret) .skip)) (.seq (.seq (.region r11_6) (.cond (.tmp 134) (.seq (.region r11_7) .ret) .skip)) (.seq (.seq (.region r11_8) (.block 0 (.loop (.seq (.seq (.region r11_9) (.cond (.tmp 139) .skip (.exit 0))) (.seq (.block 1 (.seq (.region r11_11) (.cond (.tmp 169) (.seq (.region r11_12) .ret) .skip))) (.region r11_10)))))) (.seq (.region r11_13) .ret)))))))
theorem x11 : (∀ (K : Env → World → Prop) (pan : List PanicEntry → World → Prop) (e : Env) (w : World), vcOps Tryd.prog r11_0 K pan e w = vcOps Tryd.prog [.op (.box 1 25 (.tmp 0)) none, .op (.mov 2 (.const (.bool false))) none, .keep [1]] K pan e w) ∧
  (∀ (K : Env → World → Prop) (pan : List PanicEntry → World → Prop) (e : Env) (w : World), vcOps Tryd.prog r11_1 K pan e w = vcOps Tryd.prog [.op (.faddr 5 0 (.tmp 1)) none, .op (.load 6 (.tmp 5)) none, .op (.ari 7 .lss .i64 (.tmp 6) (.const (.int .i64 0))) none, .op (.mov 8 (.tmp 7)) none, .op (.faddr 9 0 (.tmp 1)) (some (8, false)), .op (.load 10 (.tmp 9)) (some (8, false)), .op (.ari 11 .gtr .i64 (.tmp 10) (.const (.int .i64 6))) (some (8, false)), .op (.pick 12 (.tmp 8) (.const (.bool true)) (.tmp 11)) none, .op (.mov 13 (.tmp 12)) none, .op (.faddr 14 1 (.tmp 1)) (some (13, false)), .op (.load 15 (.tmp 14)) (some (13, false)), .op (.ari 16 .lss .i64 (.tmp 15) (.const (.int .i64 0))) (some (13, false)), .op (.pick 17 (.tmp 13) (.const (.bool true)) (.tmp 16)) none, .op (.mov 18 (.tmp 17)) none, .op (.faddr 19 1 (.tmp 1)) (some (18, false)), .op (.load 20 (.tmp 19)) (some (18, false)), .op (.ari 21 .gtr .i64 (.tmp 20) (.const (.int .i64 255))) (some (18, false)), .op (.pick 22 (.tmp 18) (.const (.bool true)) (.tmp 21)) none, .keep [1, 22]] K pan e w) ∧
  (∀ (K : Env → World → Prop) (pan : List PanicEntry → World → Prop) (e : Env) (w : World), vcOps Tryd.prog r11_2 K pan e w = vcOps Tryd.prog [.op (.mov 2 (.const (.bool false))) none, .keep [2]] K pan e w) ∧
  (∀ (K : Env → World → Prop) (pan : List PanicEntry → World → Prop) (e : Env) (w : World), vcOps Tryd.prog r11_3 K pan e w = vcOps Tryd.prog [.op (.faddr 23 1 (.tmp 1)) none, .op (.load 24 (.tmp 23)) none, .op (.ari 25 .eql .i64 (.tmp 24) (.const (.int .i64 0))) none, .op (.mov 3 (.tmp 25)) none, .keep [1, 3]] K pan e w) ∧
  (∀ (K : Env → World → Prop) (pan : List PanicEntry → World → Prop) (e : Env) (w : World), vcOps Tryd.prog r11_4 K pan e w = vcOps Tryd.prog [.op (.faddr 26 2 (.tmp 1)) none, .op (.load 27 (.tmp 26)) none, .op (.ari 28 .neq .i64 (.tmp 27) (.const (.int .i64 0))) none, .op (.mov 29 (.tmp 28)) none, .op (.mov 30 (.tmp 3)) (some (29, true)), .op (.not 31 (.tmp 30)) (some (29, true)), .op (.mov 32 (.tmp 31)) (some (29, true)), .op (.faddr 33 0 (.tmp 1)) (some (32, false)), .op (.load 34 (.tmp 33)) (some (32, false)), .op (.ari 35 .eql .i64 (.tmp 34) (.const (.int .i64 6))) (some (32, false)), .op (.pick 36 (.tmp 32) (.const (.bool true)) (.tmp 35)) (some (29, true)), .op (.pick 37 (.tmp 29) (.tmp 36) (.const (.bool false))) none, .keep [1, 3, 37], .op (.mov 38 (.tmp 37)) none, .op (.faddr 39 3 (.tmp 1)) (some (38, false)), .op (.load 40 (.tmp 39)) (some (38, false)), .op (.ari 41 .neq .i64 (.tmp 40) (.const (.int .i64 0))) (some (38, false)), .op (.mov 42 (.tmp 41)) (some (38, false)), .op (.mov 43 (.tmp 3)) (some (42, true)), .op (.not 44 (.tmp 43)) (some (42, true)), .op (.mov 45 (.tmp 44)) (some (42, true)), .op (.faddr 46 0 (.tmp 1)) (some (45, false)), .op (.load 47 (.tmp 46)) (some (45, false)), .op (.ari 48 .gtr .i64 (.tmp 47) (.const (.int .i64 4))) (some (45, false)), .op (.pick 49 (.tmp 45) (.const (.bool true)) (.tmp 48)) (some (42, true)), .op (.pick 50 (.tmp 42) (.tmp 49) (.const (.bool false))) (some (38, false)), .op (.pick 51 (.tmp 38) (.const (.bool true)) (.tmp 50)) none, .keep [1, 3, 51], .op (.mov 52 (.tmp 51)) none, .op (.faddr 53 4 (.tmp 1)) (some (52, false)), .op (.load 54 (.tmp 53)) (some (52, false)), .op (.ari 55 .neq .i64 (.tmp 54) (.const (.int .i64 0))) (some (52, false)), .op (.mov 56 (.tmp 55)) (some (52, false)), .op (.faddr 57 5 (.tmp 1)) (some (56, false)), .op (.load 58 (.tmp 57)) (some (56, false)), .op (.ari 59 .neq .i64 (.tmp 58) (.const (.int .i64 0))) (some (56, false)), .op (.pick 60 (.tmp 56) (.const (.bool true)) (.tmp 59)) (some (52, false)), .keep [1, 3, 52, 60], .op (.mov 61 (.tmp 60)) (some (52, false)), .op (.mov 62 (.tmp 3)) (some (61, true)), .op (.not 63 (.tmp 62)) (some (61, true)), .op (.mov 64 (.tmp 63)) (some (61, true)), .op (.faddr 65 0 (.tmp 1)) (some (64, false)), .op (.load 66 (.tmp 65)) (some (64, false)), .op (.ari 67 .neq .i64 (.tmp 66) (.const (.int .i64 4))) (some (64, false)), .op (.pick 68 (.tmp 64) (.const (.bool true)) (.tmp 67)) (some (61, true)), .op (.pick 69 (.tmp 61) (.tmp 68) (.const (.bool false))) (some (52, false)), .op (.pick 70 (.tmp 52) (.const (.bool true)) (.tmp 69)) none, .keep [1, 3, 70], .op (.mov 71 (.tmp 70)) none, .op (.faddr 72 6 (.tmp 1)) (some (71, false)), .op (.load 73 (.tmp 72)) (some (71, false)), .op (.sop 74 .neq (.tmp 73) (.const (.string { data := #[] }))) (some (71, false)), .op (.mov 75 (.tmp 74)) (some (71, false)), .op (.mov 76 (.tmp 3)) (some (75, true)), .keep [1, 3, 71, 75, 76], .op (.not 77 (.tmp 76)) (some (75, true)), .op (.mov 78 (.tmp 77)) (some (75, true)), .op (.faddr 79 0 (.tmp 1)) (some (78, false)), .op (.load 80 (.tmp 79)) (some (78, false)), .op (.ari 81 .neq .i64 (.tmp 80) (.const (.int .i64 3))) (some (78, false)), .op (.mov 82 (.tmp 81)) (some (78, false)), .op (.faddr 83 0 (.tmp 1)) (some (82, true)), .op (.load 84 (.tmp 83)) (some (82, true)), .op (.ari 85 .neq .i64 (.tmp 84) (.const (.int .i64 4))) (some (82, true)), .op (.pick 86 (.tmp 82) (.tmp 85) (.const (.bool false))) (some (78, false)), .op (.pick 87 (.tmp 78) (.const (.bool true)) (.tmp 86)) (some (75, true)), .op (.pick 88 (.tmp 75) (.tmp 87) (.const (.bool false))) (some (71, false)), .op (.pick 89 (.tmp 71) (.const (.bool true)) (.tmp 88)) none, .keep [1, 3, 89], .op (.mov 90 (.tmp 89)) none, .op (.faddr 91 7 (.tmp 1)) (some (90, false)), .op (.load 92 (.tmp 91)) (some (90, false)), .op (.lenL 93 (.tmp 92)) (some (90, false)), .op (.ari 94 .gtr .i64 (.tmp 93) (.const (.int .i64 0))) (some (90, false)), .op (.mov 95 (.tmp 94)) (some (90, false)), .op (.mov 96 (.tmp 3)) (some (95, true)), .op (.not 97 (.tmp 96)) (some (95, true)), .op (.mov 98 (.tmp 97)) (some (95, true)), .op (.faddr 99 0 (.tmp 1)) (some (98, false)), .op (.load 100 (.tmp 99)) (some (98, false)), .op (.ari 101 .neq .i64 (.tmp 100) (.const (.int .i64 6))) (some (98, false)), .op (.pick 102 (.tmp 98) (.const (.bool true)) (.tmp 101)) (some (95, true)), .op (.pick 103 (.tmp 95) (.tmp 102) (.const (.bool false))) (some (90, false)), .op (.pick 104 (.tmp 90) (.const (.bool true)) (.tmp 103)) none, .keep [1, 104]] K pan e w) ∧
  (∀ (K : Env → World → Prop) (pan : List PanicEntry → World → Prop) (e : Env) (w : World), vcOps Tryd.prog r11_5 K pan e w = vcOps Tryd.prog [.op (.mov 2 (.const (.bool false))) none, .keep [2]] K pan e w) ∧
  (∀ (K : Env → World → Prop) (pan : List PanicEntry → World → Prop) (e : Env) (w : World), vcOps Tryd.prog r11_6 K pan e w = vcOps Tryd.prog [.op (.faddr 105 2 (.tmp 1)) none, .op (.load 106 (.tmp 105)) none, .op (.call (some 107) 23 [(.tmp 106)]) none, .op (.not 108 (.tmp 107)) none, .op (.mov 109 (.tmp 108)) none, .op (.faddr 110 3 (.tmp 1)) (some (109, false)), .op (.load 111 (.tmp 110)) (some (109, false)), .op (.call (some 112) 23 [(.tmp 111)]) (some (109, false)), .op (.not 113 (.tmp 112)) (some (109, false)), .op (.pick 114 (.tmp 109) (.const (.bool true)) (.tmp 113)) none, .op (.mov 115 (.tmp 114)) none, .op (.faddr 116 4 (.tmp 1)) (some (115, false)), .op (.load 117 (.tmp 116)) (some (115, false)), .op (.ari 118 .lss .i64 (.tmp 117) (.const (.int .i64 0))) (some (115, false)), .op (.pick 119 (.tmp 115) (.const (.bool true)) (.tmp 118)) none, .op (.mov 120 (.tmp 119)) none, .op (.faddr 121 4 (.tmp 1)) (some (120, false)), .op (.load 122 (.tmp 121)) (some (120, false)), .op (.ari 123 .gtr .i64 (.tmp 122) (.const (.int .i64 65535))) (some (120, false)), .op (.pick 124 (.tmp 120) (.const (.bool true)) (.tmp 123)) none, .op (.mov 125 (.tmp 124)) none, .op (.faddr 126 5 (.tmp 1)) (some (125, false)), .op (.load 127 (.tmp 126)) (some (125, false)), .op (.ari 128 .lss .i64 (.tmp 127) (.const (.int .i64 0))) (some (125, false)), .op (.pick 129 (.tmp 125) (.const (.bool true)) (.tmp 128)) none, .op (.mov 130 (.tmp 129)) none, .op (.faddr 131 5 (.tmp 1)) (some (130, false)), .op (.load 132 (.tmp 131)) (some (130, false)), .op (.ari 133 .gtr .i64 (.tmp 132) (.const (.int .i64 65535))) (some (130, false)), .op (.pick 134 (.tmp 130) (.const (.bool true)) (.tmp 133)) none, .keep [1, 134]] K pan e w) ∧
  (∀ (K : Env → World → Prop) (pan : List PanicEntry → World → Prop) (e : Env) (w : World), vcOps Tryd.prog r11_7 K pan e w = vcOps Tryd.prog [.op (.mov 2 (.const (.bool false))) none, .keep [2]] K pan e w) ∧
  (∀ (K : Env → World → Prop) (pan : List PanicEntry → World → Prop) (e : Env) (w : World), vcOps Tryd.prog r11_8 K pan e w = vcOps Tryd.prog [.op (.mov 4 (.const (.int .i64 0))) none, .keep [1, 4]] K pan e w) ∧
  (∀ (K : Env → World → Prop) (pan : List PanicEntry → World → Prop) (e : Env) (w : World), vcOps Tryd.prog r11_9 K pan e w = vcOps Tryd.prog [.op (.mov 135 (.tmp 4)) none, .op (.faddr 136 7 (.tmp 1)) none, .op (.load 137 (.tmp 136)) none, .op (.lenL 138 (.tmp 137)) none, .op (.ari 139 .lss .i64 (.tmp 135) (.tmp 138)) none, .keep [1, 4, 139]] K pan e w) ∧
  (∀ (K : Env → World → Prop) (pan : List PanicEntry → World → Prop) (e : Env) (w : World), vcOps Tryd.prog r11_11 K pan e w = vcOps Tryd.prog [.op (.faddr 142 7 (.tmp 1)) none, .op (.load 143 (.tmp 142)) none, .op (.mov 144 (.tmp 4)) none, .op (.iaddrL 145 3 (.tmp 143) (.tmp 144)) none, .op (.faddr 146 0 (.tmp 145)) none, .op (.load 147 (.tmp 146)) none, .op (.call (some 148) 23 [(.tmp 147)]) none, .op (.not 149 (.tmp 148)) none, .op (.mov 150 (.tmp 149)) none, .op (.faddr 151 7 (.tmp 1)) (some (150, false)), .op (.load 152 (.tmp 151)) (some (150, false)), .op (.mov 153 (.tmp 4)) (some (150, false)), .op (.iaddrL 154 3 (.tmp 152) (.tmp 153)) (some (150, false)), .op (.faddr 155 1 (.tmp 154)) (some (150, false)), .op (.load 156 (.tmp 155)) (some (150, false)), .op (.call (some 157) 23 [(.tmp 156)]) (some (150, false)), .op (.not 158 (.tmp 157)) (some (150, false)), .op (.pick 159 (.tmp 150) (.const (.bool true)) (.tmp 158)) none, .op (.mov 160 (.tmp 159)) none, .op (.faddr 161 7 (.tmp 1)) (some (160, false)), .op (.load 162 (.tmp 161)) (some (160, false)), .op (.mov 163 (.tmp 4)) (some (160, false)), .op (.iaddrL 164 3 (.tmp 162) (.tmp 163)) (some (160, false)), .op (.faddr 165 2 (.tmp 164)) (some (160, false)), .op (.load 166 (.tmp 165)) (some (160, false)), .op (.lenS 167 (.tmp 166)) (some (160, false)), .op (.ari 168 .gtr .i64 (.tmp 167) (.const (.int .i64 255))) (some (160, false)), .op (.pick 169 (.tmp 160) (.const (.bool true)) (.tmp 168)) none, .keep [1, 4, 169]] K pan e w) ∧
  (∀ (K : Env → World → Prop) (pan : List PanicEntry → World → Prop) (e : Env) (w : World), vcOps Tryd.prog r11_12 K pan e w = vcOps Tryd.prog [.op (.mov 2 (.const (.bool false))) none, .keep [2]] K pan e w) ∧
  (∀ (K : Env → World → Prop) (pan : List PanicEntry → World → Prop) (e : Env) (w : World), vcOps Tryd.prog r11_10 K pan e w = vcOps Tryd.prog [.op (.mov 140 (.tmp 4)) none, .op (.ari 141 .add .i64 (.tmp 140) (.const (.int .i64 1))) none, .op (.mov 4 (.tmp 141)) none, .keep [1, 4]] K pan e w) ∧
  (∀ (K : Env → World → Prop) (pan : List PanicEntry → World → Prop) (e : Env) (w : World), vcOps Tryd.prog r11_13 K pan e w = vcOps Tryd.prog [.op (.loadN 170 8 (.tmp 1)) none, .op (.call (some 171) 22 [(.tmp 170)]) none, .op (.lenS 172 (.tmp 171)) none, .op (.ari 173 .leq .i64 (.tmp 172) (.const (.int .i64 16781312))) none, .op (.mov 2 (.tmp 173)) none, .keep [2]] K pan e w) := ⟨fun _ _ _ _ => rfl, fun _ _ _ _ => rfl, fun _ _ _ _ => rfl, fun _ _ _ _ => rfl, fun _ _ _ _ => rfl, fun _ _ _ _ => rfl, fun _ _ _ _ => rfl, fun _ _ _ _ => rfl, fun _ _ _ _ => rfl, fun _ _ _ _ => rfl, fun _ _ _ _ => rfl, fun _ _ _ _ => rfl, fun _ _ _ _ => rfl, fun _ _ _ _ => rfl⟩
theorem low11 : Tryd.f11.body.bind (lowerC Tryd.prog 174 (fun _ => none)) = some c11.erase := by kernel_rfl
theorem enter11 {args : List Value} {w : World} {R : Ending → World → Prop} (ha : args.length ≤ 174) (h : vc Tryd.prog c11 (endPost [.t 2] R) (argEnv 0 args) w) : Calls Tryd.prog 11 args.toArray w R :=
  calls_of_vc Tryd.func11 rfl low11 rfl ha h
/-- The code of aquatint/aquatintref24.replyBytes. -/
def r22_0 : List G := [.op (.box 1 25 (.tmp 0)) none,
  .op (.mov 2 (.const (.string { data := #[] }))) none,
  .keep [1]]
def r22_1 : List G := [.op (.faddr 6 0 (.tmp 1)) none,
  .op (.load 7 (.tmp 6)) none,
  .op (.conv 8 .u8 (.tmp 7)) none,
  .op (.faddr 9 1 (.tmp 1)) none,
  .op (.load 10 (.tmp 9)) none,
  .op (.conv 11 .u8 (.tmp 10)) none,
  .op (.bslice 12 5 2 1 [(0, 1, (.tmp 8)), (1, 1, (.tmp 11))]) none,
  .op (.conBS 13 (.tmp 12)) none,
  .op (.mov 3 (.tmp 13)) none,
  .keep [1, 3]]
def r22_2 : List G := [.op (.faddr 14 1 (.tmp 1)) none,
  .op (.load 15 (.tmp 14)) none,
  .op (.ari 16 .neq .i64 (.tmp 15) (.const (.int .i64 0))) none,
  .keep [1, 3, 16]]
def r22_3 : List G := [.op (.mov 17 (.tmp 3)) none,
  .op (.mov 2 (.tmp 17)) none,
  .keep [2]]
def r22_4 : List G := [.op (.faddr 18 0 (.tmp 1)) none,
  .op (.load 19 (.tmp 18)) none,
  .op (.ari 20 .lss .i64 (.tmp 19) (.const (.int .i64 6))) none,
  .keep [1, 3, 20]]
def r22_5 : List G := [.op (.mov 21 (.tmp 3)) none,
  .op (.faddr 22 2 (.tmp 1)) none,
  .op (.load 23 (.tmp 22)) none,
  .op (.call (some 24) 32 [(.tmp 23), (.const (.int .i64 4))]) none,
  .op (.sop 25 .add (.tmp 21) (.tmp 24)) none,
  .op (.mov 3 (.tmp 25)) none,
  .keep [1, 3]]
def r22_6 : List G := [.op (.faddr 26 0 (.tmp 1)) none,
  .op (.load 27 (.tmp 26)) none,
  .op (.ari 28 .lss .i64 (.tmp 27) (.const (.int .i64 5))) none,
  .keep [1, 3, 28]]
def r22_7 : List G := [.op (.mov 29 (.tmp 3)) none,
  .op (.faddr 30 3 (.tmp 1)) none,
  .op (.load 31 (.tmp 30)) none,
  .op (.call (some 32) 32 [(.tmp 31), (.const (.int .i64 4))]) none,
  .op (.sop 33 .add (.tmp 29) (.tmp 32)) none,
  .op (.mov 3 (.tmp 33)) none,
  .keep [1, 3]]
def r22_8 : List G := [.op (.faddr 34 0 (.tmp 1)) none,
  .op (.load 35 (.tmp 34)) none,
  .op (.ari 36 .eql .i64 (.tmp 35) (.const (.int .i64 4))) none,
  .keep [1, 3, 36]]
def r22_9 : List (Nat × G) := [(0, .op (.mov 37 (.tmp 3)) none),
  (0, .op (.faddr 38 4 (.tmp 1)) none),
  (0, .op (.load 39 (.tmp 38)) none),
  (0, .op (.faddr 42 5 (.tmp 1)) none),
  (1, .op (.load 43 (.tmp 42)) none),
  (2, .op (.call (some 40) 32 [(.tmp 39), (.const (.int .i64 2))]) none),
  (0, .op (.sop 41 .add (.tmp 37) (.tmp 40)) none),
  (0, .op (.call (some 44) 32 [(.tmp 43), (.const (.int .i64 2))]) none),
  (0, .op (.sop 45 .add (.tmp 41) (.tmp 44)) none),
  (0, .op (.mov 3 (.tmp 45)) none),
  (0, .keep [1, 3])]
def r22_10 : List G := [.op (.mov 46 (.tmp 3)) none,
  .op (.faddr 47 6 (.tmp 1)) none,
  .op (.load 48 (.tmp 47)) none,
  .op (.sop 49 .add (.tmp 46) (.tmp 48)) none,
  .op (.mov 3 (.tmp 49)) none,
  .keep [1, 3]]
def r22_11 : List G := [.op (.mov 4 (.const (.int .i64 0))) none,
  .keep [1, 3, 4]]
def r22_12 : List G := [.op (.mov 50 (.tmp 4)) none,
  .op (.faddr 51 7 (.tmp 1)) none,
  .op (.load 52 (.tmp 51)) none,
  .op (.lenL 53 (.tmp 52)) none,
  .op (.ari 54 .lss .i64 (.tmp 50) (.tmp 53)) none,
  .keep [1, 3, 4, 54]]
def r22_14 : List G := [.op (.faddr 57 7 (.tmp 1)) none,
  .op (.load 58 (.tmp 57)) none,
  .op (.mov 59 (.tmp 4)) none,
  .op (.iaddrL 60 3 (.tmp 58) (.tmp 59)) none,
  .op (.loadN 61 3 (.tmp 60)) none,
  .op (.alloc 5 52) none,
  .op (.storeN 3 (.tmp 5) (.tmp 61)) none,
  .keep [1, 3, 4, 5]]
def r22_15 : GT := .fork [(0, .op (.mov 62 (.tmp 3)) none),
  (0, .op (.faddr 63 0 (.tmp 5)) none),
  (1, .op (.load 64 (.tmp 63)) none),
  (0, .op (.faddr 67 1 (.tmp 5)) none),
  (1, .op (.load 68 (.tmp 67)) none),
  (0, .op (.faddr 71 2 (.tmp 5)) none),
  (1, .op (.load 72 (.tmp 71)) none),
  (0, .op (.lenS 73 (.tmp 72)) none),
  (0, .op (.conv 74 .u8 (.tmp 73)) none),
  (0, .op (.faddr 78 2 (.tmp 5)) none),
  (1, .op (.load 79 (.tmp 78)) none)] (.fork [(2, .op (.call (some 65) 32 [(.tmp 64), (.const (.int .i64 4))]) none),
  (0, .op (.sop 66 .add (.tmp 62) (.tmp 65)) none)] (.fin [(2, .op (.call (some 69) 32 [(.tmp 68), (.const (.int .i64 4))]) none),
  (0, .op (.sop 70 .add (.tmp 66) (.tmp 69)) none),
  (2, .op (.bslice 75 5 1 1 [(0, 1, (.tmp 74))]) none),
  (1, .op (.conBS 76 (.tmp 75)) none),
  (0, .op (.sop 77 .add (.tmp 70) (.tmp 76)) none),
  (0, .op (.sop 80 .add (.tmp 77) (.tmp 79)) none),
  (0, .op (.mov 3 (.tmp 80)) none),
  (0, .keep [1, 3, 4])]) (.fin [(2, .op (.bslice 75 5 1 1 [(0, 1, (.tmp 74))]) none),
  (1, .op (.conBS 76 (.tmp 75)) none),
  (2, .op (.call (some 69) 32 [(.tmp 68), (.const (.int .i64 4))]) none),
  (0, .op (.sop 70 .add (.tmp 66) (.tmp 69)) none),
  (0, .op (.sop 77 .add (.tmp 70) (.tmp 76)) none),
  (0, .op (.sop 80 .add (.tmp 77) (.tmp 79)) none),
  (0, .op (.mov 3 (.tmp 80)) none),
  (0, .keep [1, 3, 4])])) (.fin [(2, .op (.bslice 75 5 1 1 [(0, 1, (.tmp 74))]) none),
  (1, .op (.conBS 76 (.tmp 75)) none),
  (2, .op (.call (some 65) 32 [(.tmp 64), (.const (.int .i64 4))]) none),
  (0, .op (.sop 66 .add (.tmp 62) (.tmp 65)) none),
  (2, .op (.call (some 69) 32 [(.tmp 68), (.const (.int .i64 4))]) none),
  (0, .op (.sop 70 .add (.tmp 66) (.tmp 69)) none),
  (0, .op (.sop 77 .add (.tmp 70) (.tmp 76)) none),
  (0, .op (.sop 80 .add (.tmp 77) (.tmp 79)) none),
  (0, .op (.mov 3 (.tmp 80)) none),
  (0, .keep [1, 3, 4])])
def r22_13 : List G := [.op (.mov 55 (.tmp 4)) none,
  .op (.ari 56 .add .i64 (.tmp 55) (.const (.int .i64 1))) none,
  .op (.mov 4 (.tmp 56)) none,
  .keep [1, 3, 4]]
def r22_16 : List G := [.op (.mov 81 (.tmp 3)) none,
  .op (.mov 2 (.tmp 81)) none,
  .keep [2]]
def c22 : C := (.seq (.region r22_0) (.seq (.region r22_1) (.seq (.seq (.region r22_2) (.cond (.tmp 16) (.seq (.region r22_3) .ret) .skip)) (.seq (.seq (.region r22_4) (.cond (.tmp 20) (.region r22_5) .skip)) (.seq (.seq (.region r22_6) (.cond (.tmp 28) (.region r22_7) .skip)) (.seq (.seq (.region r22_8) (.cond (.tmp 36) (.regionW r22_9) .skip)) (.seq (.region r22_10) (.seq (.seq (.region r22_11) (.block 0 (.loop (.seq (.seq (.region r22_12) (.cond (.tmp 54) .skip (.exit 0))) (.seq (.block 1 (.seq (.region r22_14) (.regionT r22_15))) (.region r22_13)))))) (.seq (.region r22_16) .ret)))))))))
theorem x22 : (∀ (K : Env → World → Prop) (pan : List PanicEntry → World → Prop) (e : Env) (w : World), vcOps Tryd.prog r22_0 K pan e w = vcOps Tryd.prog [.op (.box 1 25 (.tmp 0)) none, .op (.mov 2 (.const (.string { data := #[] }))) none, .keep [1]] K pan e w) ∧
  (∀ (K : Env → World → Prop) (pan : List PanicEntry → World → Prop) (e : Env) (w : World), vcOps Tryd.prog r22_1 K pan e w = vcOps Tryd.prog [.op (.faddr 6 0 (.tmp 1)) none, .op (.load 7 (.tmp 6)) none, .op (.conv 8 .u8 (.tmp 7)) none, .op (.faddr 9 1 (.tmp 1)) none, .op (.load 10 (.tmp 9)) none, .op (.conv 11 .u8 (.tmp 10)) none, .op (.bslice 12 5 2 1 [(0, 1, (.tmp 8)), (1, 1, (.tmp 11))]) none, .op (.conBS 13 (.tmp 12)) none, .op (.mov 3 (.tmp 13)) none, .keep [1, 3]] K pan e w) ∧
  (∀ (K : Env → World → Prop) (pan : List PanicEntry → World → Prop) (e : Env) (w : World), vcOps Tryd.prog r22_2 K pan e w = vcOps Tryd.prog [.op (.faddr 14 1 (.tmp 1)) none, .op (.load 15 (.tmp 14)) none, .op (.ari 16 .neq .i64 (.tmp 15) (.const (.int .i64 0))) none, .keep [1, 3, 16]] K pan e w) ∧
  (∀ (K : Env → World → Prop) (pan : List PanicEntry → World → Prop) (e : Env) (w : World), vcOps Tryd.prog r22_3 K pan e w = vcOps Tryd.prog [.op (.mov 17 (.tmp 3)) none, .op (.mov 2 (.tmp 17)) none, .keep [2]] K pan e w) ∧
  (∀ (K : Env → World → Prop) (pan : List PanicEntry → World → Prop) (e : Env) (w : World), vcOps Tryd.prog r22_4 K pan e w = vcOps Tryd.prog [.op (.faddr 18 0 (.tmp 1)) none, .op (.load 19 (.tmp 18)) none, .op (.ari 20 .lss .i64 (.tmp 19) (.const (.int .i64 6))) none, .keep [1, 3, 20]] K pan e w) ∧
  (∀ (K : Env → World → Prop) (pan : List PanicEntry → World → Prop) (e : Env) (w : World), vcOps Tryd.prog r22_5 K pan e w = vcOps Tryd.prog [.op (.mov 21 (.tmp 3)) none, .op (.faddr 22 2 (.tmp 1)) none, .op (.load 23 (.tmp 22)) none, .op (.call (some 24) 32 [(.tmp 23), (.const (.int .i64 4))]) none, .op (.sop 25 .add (.tmp 21) (.tmp 24)) none, .op (.mov 3 (.tmp 25)) none, .keep [1, 3]] K pan e w) ∧
  (∀ (K : Env → World → Prop) (pan : List PanicEntry → World → Prop) (e : Env) (w : World), vcOps Tryd.prog r22_6 K pan e w = vcOps Tryd.prog [.op (.faddr 26 0 (.tmp 1)) none, .op (.load 27 (.tmp 26)) none, .op (.ari 28 .lss .i64 (.tmp 27) (.const (.int .i64 5))) none, .keep [1, 3, 28]] K pan e w) ∧
  (∀ (K : Env → World → Prop) (pan : List PanicEntry → World → Prop) (e : Env) (w : World), vcOps Tryd.prog r22_7 K pan e w = vcOps Tryd.prog [.op (.mov 29 (.tmp 3)) none, .op (.faddr 30 3 (.tmp 1)) none, .op (.load 31 (.tmp 30)) none, .op (.call (some 32) 32 [(.tmp 31), (.const (.int .i64 4))]) none, .op (.sop 33 .add (.tmp 29) (.tmp 32)) none, .op (.mov 3 (.tmp 33)) none, .keep [1, 3]] K pan e w) ∧
  (∀ (K : Env → World → Prop) (pan : List PanicEntry → World → Prop) (e : Env) (w : World), vcOps Tryd.prog r22_8 K pan e w = vcOps Tryd.prog [.op (.faddr 34 0 (.tmp 1)) none, .op (.load 35 (.tmp 34)) none, .op (.ari 36 .eql .i64 (.tmp 35) (.const (.int .i64 4))) none, .keep [1, 3, 36]] K pan e w) ∧
  (∀ (W : World → Prop) (K : (World → Prop) → Env → World → Prop) (pan : List PanicEntry → World → Prop) (e : Env) (w : World), vcW Tryd.prog W r22_9 K pan e w = vcW Tryd.prog W [(0, .op (.mov 37 (.tmp 3)) none), (0, .op (.faddr 38 4 (.tmp 1)) none), (0, .op (.load 39 (.tmp 38)) none), (0, .op (.faddr 42 5 (.tmp 1)) none), (1, .op (.load 43 (.tmp 42)) none), (2, .op (.call (some 40) 32 [(.tmp 39), (.const (.int .i64 2))]) none), (0, .op (.sop 41 .add (.tmp 37) (.tmp 40)) none), (0, .op (.call (some 44) 32 [(.tmp 43), (.const (.int .i64 2))]) none), (0, .op (.sop 45 .add (.tmp 41) (.tmp 44)) none), (0, .op (.mov 3 (.tmp 45)) none), (0, .keep [1, 3])] K pan e w) ∧
  (∀ (K : Env → World → Prop) (pan : List PanicEntry → World → Prop) (e : Env) (w : World), vcOps Tryd.prog r22_10 K pan e w = vcOps Tryd.prog [.op (.mov 46 (.tmp 3)) none, .op (.faddr 47 6 (.tmp 1)) none, .op (.load 48 (.tmp 47)) none, .op (.sop 49 .add (.tmp 46) (.tmp 48)) none, .op (.mov 3 (.tmp 49)) none, .keep [1, 3]] K pan e w) ∧
  (∀ (K : Env → World → Prop) (pan : List PanicEntry → World → Prop) (e : Env) (w : World), vcOps Tryd.prog r22_11 K pan e w = vcOps Tryd.prog [.op (.mov 4 (.const (.int .i64 0))) none, .keep [1, 3, 4]] K pan e w) ∧
  (∀ (K : Env → World → Prop) (pan : List PanicEntry → World → Prop) (e : Env) (w : World), vcOps Tryd.prog r22_12 K pan e w = vcOps Tryd.prog [.op (.mov 50 (.tmp 4)) none, .op (.faddr 51 7 (.tmp 1)) none, .op (.load 52 (.tmp 51)) none, .op (.lenL 53 (.tmp 52)) none, .op (.ari 54 .lss .i64 (.tmp 50) (.tmp 53)) none, .keep [1, 3, 4, 54]] K pan e w) ∧
  (∀ (K : Env → World → Prop) (pan : List PanicEntry → World → Prop) (e : Env) (w : World), vcOps Tryd.prog r22_14 K pan e w = vcOps Tryd.prog [.op (.faddr 57 7 (.tmp 1)) none, .op (.load 58 (.tmp 57)) none, .op (.mov 59 (.tmp 4)) none, .op (.iaddrL 60 3 (.tmp 58) (.tmp 59)) none, .op (.loadN 61 3 (.tmp 60)) none, .op (.alloc 5 52) none, .op (.storeN 3 (.tmp 5) (.tmp 61)) none, .keep [1, 3, 4, 5]] K pan e w) ∧
  (∀ (W : World → Prop) (K : Env → World → Prop) (pan : List PanicEntry → World → Prop) (e : Env) (w : World), vcT Tryd.prog W r22_15 K pan e w = vcT Tryd.prog W (.fork [(0, .op (.mov 62 (.tmp 3)) none),
  (0, .op (.faddr 63 0 (.tmp 5)) none),
  (1, .op (.load 64 (.tmp 63)) none),
  (0, .op (.faddr 67 1 (.tmp 5)) none),
  (1, .op (.load 68 (.tmp 67)) none),
  (0, .op (.faddr 71 2 (.tmp 5)) none),
  (1, .op (.load 72 (.tmp 71)) none),
  (0, .op (.lenS 73 (.tmp 72)) none),
  (0, .op (.conv 74 .u8 (.tmp 73)) none),
  (0, .op (.faddr 78 2 (.tmp 5)) none),
  (1, .op (.load 79 (.tmp 78)) none)] (.fork [(2, .op (.call (some 65) 32 [(.tmp 64), (.const (.int .i64 4))]) none),
  (0, .op (.sop 66 .add (.tmp 62) (.tmp 65)) none)] (.fin [(2, .op (.call (some 69) 32 [(.tmp 68), (.const (.int .i64 4))]) none),
  (0, .op (.sop 70 .add (.tmp 66) (.tmp 69)) none),
  (2, .op (.bslice 75 5 1 1 [(0, 1, (.tmp 74))]) none),
  (1, .op (.conBS 76 (.tmp 75)) none),
  (0, .op (.sop 77 .add (.tmp 70) (.tmp 76)) none),
  (0, .op (.sop 80 .add (.tmp 77) (.tmp 79)) none),
  (0, .op (.mov 3 (.tmp 80)) none),
  (0, .keep [1, 3, 4])]) (.fin [(2, .op (.bslice 75 5 1 1 [(0, 1, (.tmp 74))]) none),
  (1, .op (.conBS 76 (.tmp 75)) none),
  (2, .op (.call (some 69) 32 [(.tmp 68), (.const (.int .i64 4))]) none),
  (0, .op (.sop 70 .add (.tmp 66) (.tmp 69)) none),
  (0, .op (.sop 77 .add (.tmp 70) (.tmp 76)) none),
  (0, .op (.sop 80 .add (.tmp 77) (.tmp 79)) none),
  (0, .op (.mov 3 (.tmp 80)) none),
  (0, .keep [1, 3, 4])])) (.fin [(2, .op (.bslice 75 5 1 1 [(0, 1, (.tmp 74))]) none),
  (1, .op (.conBS 76 (.tmp 75)) none),
  (2, .op (.call (some 65) 32 [(.tmp 64), (.const (.int .i64 4))]) none),
  (0, .op (.sop 66 .add (.tmp 62) (.tmp 65)) none),
  (2, .op (.call (some 69) 32 [(.tmp 68), (.const (.int .i64 4))]) none),
  (0, .op (.sop 70 .add (.tmp 66) (.tmp 69)) none),
  (0, .op (.sop 77 .add (.tmp 70) (.tmp 76)) none),
  (0, .op (.sop 80 .add (.tmp 77) (.tmp 79)) none),
  (0, .op (.mov 3 (.tmp 80)) none),
  (0, .keep [1, 3, 4])])) K pan e w) ∧
  (∀ (K : Env → World → Prop) (pan : List PanicEntry → World → Prop) (e : Env) (w : World), vcOps Tryd.prog r22_13 K pan e w = vcOps Tryd.prog [.op (.mov 55 (.tmp 4)) none, .op (.ari 56 .add .i64 (.tmp 55) (.const (.int .i64 1))) none, .op (.mov 4 (.tmp 56)) none, .keep [1, 3, 4]] K pan e w) ∧
  (∀ (K : Env → World → Prop) (pan : List PanicEntry → World → Prop) (e : Env) (w : World), vcOps Tryd.prog r22_16 K pan e w = vcOps Tryd.prog [.op (.mov 81 (.tmp 3)) none, .op (.mov 2 (.tmp 81)) none, .keep [2]] K pan e w) := ⟨fun _ _ _ _ => rfl, fun _ _ _ _ => rfl, fun _ _ _ _ => rfl, fun _ _ _ _ => rfl, fun _ _ _ _ => rfl, fun _ _ _ _ => rfl, fun _ _ _ _ => rfl, fun _ _ _ _ => rfl, fun _ _ _ _ => rfl, fun _ _ _ _ _ => rfl, fun _ _ _ _ => rfl, fun _ _ _ _ => rfl, fun _ _ _ _ => rfl, fun _ _ _ _ => rfl, fun _ _ _ _ _ => rfl, fun _ _ _ _ => rfl, fun _ _ _ _ => rfl⟩
theorem low22 : Tryd.f22.body.bind (lowerC Tryd.prog 82 (fun i => List.lookup i [(9, .fin [(0, 0), (1, 0), (2, 0), (5, 0), (6, 1), (3, 2), (4, 0), (7, 0), (8, 0), (9, 0)]), (15, .fork [(0, 0), (1, 0), (2, 1), (5, 0), (6, 1), (9, 0), (10, 1), (11, 0), (12, 0), (16, 0), (17, 1)] (.fork [(3, 2), (4, 0)] (.fin [(7, 2), (8, 0), (13, 2), (14, 1), (15, 0), (18, 0), (19, 0)]) (.fin [(13, 2), (14, 1), (7, 2), (8, 0), (15, 0), (18, 0), (19, 0)])) (.fin [(13, 2), (14, 1), (3, 2), (4, 0), (7, 2), (8, 0), (15, 0), (18, 0), (19, 0)]))])) = some c22.erase := by kernel_rfl
theorem enter22 {args : List Value} {w : World} {R : Ending → World → Prop} (ha : args.length ≤ 82) (h : vc Tryd.prog c22 (endPost [.t 2] R) (argEnv 0 args) w) : Calls Tryd.prog 22 args.toArray w R :=
  calls_of_vc Tryd.func22 rfl low22 rfl ha h
/-- The code of aquatint/aquatintref24.wide. -/
def r23_0 : List G := [.op (.mov 2 (.const (.bool false))) none,
  .keep [0]]
def r23_1 : List G := [.op (.mov 3 (.tmp 0)) none,
  .op (.ari 4 .geq .i64 (.tmp 3) (.const (.int .i64 0))) none,
  .op (.mov 5 (.tmp 4)) none,
  .op (.mov 6 (.tmp 0)) (some (5, true)),
  .op (.ari 7 .leq .i64 (.tmp 6) (.const (.int .i64 4294967295))) (some (5, true)),
  .op (.pick 8 (.tmp 5) (.tmp 7) (.const (.bool false))) none,
  .op (.mov 2 (.tmp 8)) none,
  .keep [2]]
def c23 : C := (.seq (.region r23_0) (.seq (.region r23_1) .ret))
theorem x23 : (∀ (K : Env → World → Prop) (pan : List PanicEntry → World → Prop) (e : Env) (w : World), vcOps Tryd.prog r23_0 K pan e w = vcOps Tryd.prog [.op (.mov 2 (.const (.bool false))) none, .keep [0]] K pan e w) ∧
  (∀ (K : Env → World → Prop) (pan : List PanicEntry → World → Prop) (e : Env) (w : World), vcOps Tryd.prog r23_1 K pan e w = vcOps Tryd.prog [.op (.mov 3 (.tmp 0)) none, .op (.ari 4 .geq .i64 (.tmp 3) (.const (.int .i64 0))) none, .op (.mov 5 (.tmp 4)) none, .op (.mov 6 (.tmp 0)) (some (5, true)), .op (.ari 7 .leq .i64 (.tmp 6) (.const (.int .i64 4294967295))) (some (5, true)), .op (.pick 8 (.tmp 5) (.tmp 7) (.const (.bool false))) none, .op (.mov 2 (.tmp 8)) none, .keep [2]] K pan e w) := ⟨fun _ _ _ _ => rfl, fun _ _ _ _ => rfl⟩
theorem low23 : Tryd.f23.body.bind (lowerC Tryd.prog 9 (fun _ => none)) = some c23.erase := by kernel_rfl
theorem enter23 {args : List Value} {w : World} {R : Ending → World → Prop} (ha : args.length ≤ 9) (h : vc Tryd.prog c23 (endPost [.t 2] R) (argEnv 0 args) w) : Calls Tryd.prog 23 args.toArray w R :=
  calls_of_vc Tryd.func23 rfl low23 rfl ha h
/-- The code of aquatint/aquatintref02.Bytes. -/
def r32_0 : List G := [.op (.mov 4 (.const (.string { data := #[] }))) none,
  .keep [0, 1]]
def r32_1 : List G := [.op (.mov 5 (.const (.string { data := #[] }))) none,
  .keep [0, 1, 5]]
def r32_2 : List G := [.op (.mov 6 (.const (.int .i64 0))) none,
  .keep [0, 1, 5, 6]]
def r32_3 : List G := [.op (.mov 7 (.tmp 6)) none,
  .op (.mov 8 (.tmp 1)) none,
  .op (.ari 9 .lss .i64 (.tmp 7) (.tmp 8)) none,
  .keep [0, 1, 5, 6, 9]]
def r32_5 : List G := [.op (.mov 12 (.tmp 0)) none,
  .op (.ari 13 .rem .i64 (.tmp 12) (.const (.int .i64 256))) none,
  .op (.conv 14 .u8 (.tmp 13)) none,
  .op (.bslice 15 5 1 1 [(0, 1, (.tmp 14))]) none,
  .op (.conBS 16 (.tmp 15)) none,
  .op (.mov 17 (.tmp 5)) none,
  .op (.sop 18 .add (.tmp 16) (.tmp 17)) none,
  .op (.mov 5 (.tmp 18)) none,
  .keep [0, 1, 5, 6]]
def r32_6 : List G := [.op (.mov 19 (.tmp 0)) none,
  .op (.ari 20 .quo .i64 (.tmp 19) (.const (.int .i64 256))) none,
  .op (.mov 0 (.tmp 20)) none,
  .keep [0, 1, 5, 6]]
def r32_4 : List G := [.op (.mov 10 (.tmp 6)) none,
  .op (.ari 11 .add .i64 (.tmp 10) (.const (.int .i64 1))) none,
  .op (.mov 6 (.tmp 11)) none,
  .keep [0, 1, 5, 6]]
def r32_7 : List G := [.op (.mov 21 (.tmp 5)) none,
  .op (.mov 4 (.tmp 21)) none,
  .keep [4]]
def c32 : C := (.seq (.region r32_0) (.seq (.region r32_1) (.seq (.seq (.region r32_2) (.block 0 (.loop (.seq (.seq (.region r32_3) (.cond (.tmp 9) .skip (.exit 0))) (.seq (.block 1 (.seq (.region r32_5) (.region r32_6))) (.region r32_4)))))) (.seq (.region r32_7) .ret))))
theorem x32 : (∀ (K : Env → World → Prop) (pan : List PanicEntry → World → Prop) (e : Env) (w : World), vcOps Tryd.prog r32_0 K pan e w = vcOps Tryd.prog [.op (.mov 4 (.const (.string { data := #[] }))) none, .keep [0, 1]] K pan e w) ∧
  (∀ (K : Env → World → Prop) (pan : List PanicEntry → World → Prop) (e : Env) (w : World), vcOps Tryd.prog r32_1 K pan e w = vcOps Tryd.prog [.op (.mov 5 (.const (.string { data := #[] }))) none, .keep [0, 1, 5]] K pan e w) ∧
  (∀ (K : Env → World → Prop) (pan : List PanicEntry → World → Prop) (e : Env) (w : World), vcOps Tryd.prog r32_2 K pan e w = vcOps Tryd.prog [.op (.mov 6 (.const (.int .i64 0))) none, .keep [0, 1, 5, 6]] K pan e w) ∧
  (∀ (K : Env → World → Prop) (pan : List PanicEntry → World → Prop) (e : Env) (w : World), vcOps Tryd.prog r32_3 K pan e w = vcOps Tryd.prog [.op (.mov 7 (.tmp 6)) none, .op (.mov 8 (.tmp 1)) none, .op (.ari 9 .lss .i64 (.tmp 7) (.tmp 8)) none, .keep [0, 1, 5, 6, 9]] K pan e w) ∧
  (∀ (K : Env → World → Prop) (pan : List PanicEntry → World → Prop) (e : Env) (w : World), vcOps Tryd.prog r32_5 K pan e w = vcOps Tryd.prog [.op (.mov 12 (.tmp 0)) none, .op (.ari 13 .rem .i64 (.tmp 12) (.const (.int .i64 256))) none, .op (.conv 14 .u8 (.tmp 13)) none, .op (.bslice 15 5 1 1 [(0, 1, (.tmp 14))]) none, .op (.conBS 16 (.tmp 15)) none, .op (.mov 17 (.tmp 5)) none, .op (.sop 18 .add (.tmp 16) (.tmp 17)) none, .op (.mov 5 (.tmp 18)) none, .keep [0, 1, 5, 6]] K pan e w) ∧
  (∀ (K : Env → World → Prop) (pan : List PanicEntry → World → Prop) (e : Env) (w : World), vcOps Tryd.prog r32_6 K pan e w = vcOps Tryd.prog [.op (.mov 19 (.tmp 0)) none, .op (.ari 20 .quo .i64 (.tmp 19) (.const (.int .i64 256))) none, .op (.mov 0 (.tmp 20)) none, .keep [0, 1, 5, 6]] K pan e w) ∧
  (∀ (K : Env → World → Prop) (pan : List PanicEntry → World → Prop) (e : Env) (w : World), vcOps Tryd.prog r32_4 K pan e w = vcOps Tryd.prog [.op (.mov 10 (.tmp 6)) none, .op (.ari 11 .add .i64 (.tmp 10) (.const (.int .i64 1))) none, .op (.mov 6 (.tmp 11)) none, .keep [0, 1, 5, 6]] K pan e w) ∧
  (∀ (K : Env → World → Prop) (pan : List PanicEntry → World → Prop) (e : Env) (w : World), vcOps Tryd.prog r32_7 K pan e w = vcOps Tryd.prog [.op (.mov 21 (.tmp 5)) none, .op (.mov 4 (.tmp 21)) none, .keep [4]] K pan e w) := ⟨fun _ _ _ _ => rfl, fun _ _ _ _ => rfl, fun _ _ _ _ => rfl, fun _ _ _ _ => rfl, fun _ _ _ _ => rfl, fun _ _ _ _ => rfl, fun _ _ _ _ => rfl, fun _ _ _ _ => rfl⟩
theorem low32 : Tryd.f32.body.bind (lowerC Tryd.prog 22 (fun _ => none)) = some c32.erase := by kernel_rfl
theorem enter32 {args : List Value} {w : World} {R : Ending → World → Prop} (ha : args.length ≤ 22) (h : vc Tryd.prog c32 (endPost [.t 4] R) (argEnv 0 args) w) : Calls Tryd.prog 32 args.toArray w R :=
  calls_of_vc Tryd.func32 rfl low32 rfl ha h
/-- The code of aquatint/aquatintlaw24.shortReply. -/
def r7_0 : List G := [.op (.box 1 25 (.tmp 0)) none,
  .op (.mov 2 (.const (.bool false))) none,
  .keep [1]]
def r7_1 : List G := [.op (.faddr 4 6 (.tmp 1)) none,
  .op (.load 5 (.tmp 4)) none,
  .op (.lenS 6 (.tmp 5)) none,
  .op (.ari 7 .gtr .i64 (.tmp 6) (.const (.int .i64 6000))) none,
  .op (.mov 8 (.tmp 7)) none,
  .op (.faddr 9 7 (.tmp 1)) (some (8, false)),
  .op (.load 10 (.tmp 9)) (some (8, false)),
  .op (.lenL 11 (.tmp 10)) (some (8, false)),
  .op (.ari 12 .gtr .i64 (.tmp 11) (.const (.int .i64 60))) (some (8, false)),
  .op (.pick 13 (.tmp 8) (.const (.bool true)) (.tmp 12)) none,
  .keep [1, 13]]
def r7_2 : List G := [.op (.mov 2 (.const (.bool false))) none,
  .keep [2]]
def r7_3 : List G := [.op (.mov 3 (.const (.int .i64 0))) none,
  .keep [1, 3]]
def r7_4 : List G := [.op (.mov 14 (.tmp 3)) none,
  .op (.faddr 15 7 (.tmp 1)) none,
  .op (.load 16 (.tmp 15)) none,
  .op (.lenL 17 (.tmp 16)) none,
  .op (.ari 18 .lss .i64 (.tmp 14) (.tmp 17)) none,
  .keep [1, 3, 18]]
def r7_6 : List G := [.op (.faddr 21 7 (.tmp 1)) none,
  .op (.load 22 (.tmp 21)) none,
  .op (.mov 23 (.tmp 3)) none,
  .op (.iaddrL 24 3 (.tmp 22) (.tmp 23)) none,
  .op (.faddr 25 2 (.tmp 24)) none,
  .op (.load 26 (.tmp 25)) none,
  .op (.lenS 27 (.tmp 26)) none,
  .op (.ari 28 .gtr .i64 (.tmp 27) (.const (.int .i64 6000))) none,
  .keep [1, 3, 28]]
def r7_7 : List G := [.op (.mov 2 (.const (.bool false))) none,
  .keep [2]]
def r7_5 : List G := [.op (.mov 19 (.tmp 3)) none,
  .op (.ari 20 .add .i64 (.tmp 19) (.const (.int .i64 1))) none,
  .op (.mov 3 (.tmp 20)) none,
  .keep [1, 3]]
def r7_8 : List G := [.op (.mov 2 (.const (.bool true))) none,
  .keep [2]]
def c7 : C := (.seq (.region r7_0) (.seq (.seq (.region r7_1) (.cond (.tmp 13) (.seq (.region r7_2) .ret) .skip)) (.seq (.seq (.region r7_3) (.block 0 (.loop (.seq (.seq (.region r7_4) (.cond (.tmp 18) .skip (.exit 0))) (.seq (.block 1 (.seq (.region r7_6) (.cond (.tmp 28) (.seq (.region r7_7) .ret) .skip))) (.region r7_5)))))) (.seq (.region r7_8) .ret))))
theorem x7 : (∀ (K : Env → World → Prop) (pan : List PanicEntry → World → Prop) (e : Env) (w : World), vcOps Tryd.prog r7_0 K pan e w = vcOps Tryd.prog [.op (.box 1 25 (.tmp 0)) none, .op (.mov 2 (.const (.bool false))) none, .keep [1]] K pan e w) ∧
  (∀ (K : Env → World → Prop) (pan : List PanicEntry → World → Prop) (e : Env) (w : World), vcOps Tryd.prog r7_1 K pan e w = vcOps Tryd.prog [.op (.faddr 4 6 (.tmp 1)) none, .op (.load 5 (.tmp 4)) none, .op (.lenS 6 (.tmp 5)) none, .op (.ari 7 .gtr .i64 (.tmp 6) (.const (.int .i64 6000))) none, .op (.mov 8 (.tmp 7)) none, .op (.faddr 9 7 (.tmp 1)) (some (8, false)), .op (.load 10 (.tmp 9)) (some (8, false)), .op (.lenL 11 (.tmp 10)) (some (8, false)), .op (.ari 12 .gtr .i64 (.tmp 11) (.const (.int .i64 60))) (some (8, false)), .op (.pick 13 (.tmp 8) (.const (.bool true)) (.tmp 12)) none, .keep [1, 13]] K pan e w) ∧
  (∀ (K : Env → World → Prop) (pan : List PanicEntry → World → Prop) (e : Env) (w : World), vcOps Tryd.prog r7_2 K pan e w = vcOps Tryd.prog [.op (.mov 2 (.const (.bool false))) none, .keep [2]] K pan e w) ∧
  (∀ (K : Env → World → Prop) (pan : List PanicEntry → World → Prop) (e : Env) (w : World), vcOps Tryd.prog r7_3 K pan e w = vcOps Tryd.prog [.op (.mov 3 (.const (.int .i64 0))) none, .keep [1, 3]] K pan e w) ∧
  (∀ (K : Env → World → Prop) (pan : List PanicEntry → World → Prop) (e : Env) (w : World), vcOps Tryd.prog r7_4 K pan e w = vcOps Tryd.prog [.op (.mov 14 (.tmp 3)) none, .op (.faddr 15 7 (.tmp 1)) none, .op (.load 16 (.tmp 15)) none, .op (.lenL 17 (.tmp 16)) none, .op (.ari 18 .lss .i64 (.tmp 14) (.tmp 17)) none, .keep [1, 3, 18]] K pan e w) ∧
  (∀ (K : Env → World → Prop) (pan : List PanicEntry → World → Prop) (e : Env) (w : World), vcOps Tryd.prog r7_6 K pan e w = vcOps Tryd.prog [.op (.faddr 21 7 (.tmp 1)) none, .op (.load 22 (.tmp 21)) none, .op (.mov 23 (.tmp 3)) none, .op (.iaddrL 24 3 (.tmp 22) (.tmp 23)) none, .op (.faddr 25 2 (.tmp 24)) none, .op (.load 26 (.tmp 25)) none, .op (.lenS 27 (.tmp 26)) none, .op (.ari 28 .gtr .i64 (.tmp 27) (.const (.int .i64 6000))) none, .keep [1, 3, 28]] K pan e w) ∧
  (∀ (K : Env → World → Prop) (pan : List PanicEntry → World → Prop) (e : Env) (w : World), vcOps Tryd.prog r7_7 K pan e w = vcOps Tryd.prog [.op (.mov 2 (.const (.bool false))) none, .keep [2]] K pan e w) ∧
  (∀ (K : Env → World → Prop) (pan : List PanicEntry → World → Prop) (e : Env) (w : World), vcOps Tryd.prog r7_5 K pan e w = vcOps Tryd.prog [.op (.mov 19 (.tmp 3)) none, .op (.ari 20 .add .i64 (.tmp 19) (.const (.int .i64 1))) none, .op (.mov 3 (.tmp 20)) none, .keep [1, 3]] K pan e w) ∧
  (∀ (K : Env → World → Prop) (pan : List PanicEntry → World → Prop) (e : Env) (w : World), vcOps Tryd.prog r7_8 K pan e w = vcOps Tryd.prog [.op (.mov 2 (.const (.bool true))) none, .keep [2]] K pan e w) := ⟨fun _ _ _ _ => rfl, fun _ _ _ _ => rfl, fun _ _ _ _ => rfl, fun _ _ _ _ => rfl, fun _ _ _ _ => rfl, fun _ _ _ _ => rfl, fun _ _ _ _ => rfl, fun _ _ _ _ => rfl, fun _ _ _ _ => rfl⟩
theorem low7 : Tryd.f7.body.bind (lowerC Tryd.prog 29 (fun _ => none)) = some c7.erase := by kernel_rfl
theorem enter7 {args : List Value} {w : World} {R : Ending → World → Prop} (ha : args.length ≤ 29) (h : vc Tryd.prog c7 (endPost [.t 2] R) (argEnv 0 args) w) : Calls Tryd.prog 7 args.toArray w R :=
  calls_of_vc Tryd.func7 rfl low7 rfl ha h
/-- The code of aquatint/aquatintlaw24.WireReplies. -/
def r3_0 : List G := [.op (.box 1 25 (.tmp 0)) none,
  .op (.mov 2 (.const (.bool false))) none,
  .keep [1]]
def r3_1 : List G := [.op (.call (some 7) 6 []) none,
  .op (.not 8 (.tmp 7)) none,
  .op (.mov 9 (.tmp 8)) none,
  .op (.loadN 10 8 (.tmp 1)) (some (9, false)),
  .op (.call (some 11) 7 [(.tmp 10)]) (some (9, false)),
  .op (.not 12 (.tmp 11)) (some (9, false)),
  .op (.pick 13 (.tmp 9) (.const (.bool true)) (.tmp 12)) none,
  .keep [1, 13]]
def r3_2 : List G := [.op (.call (some 14) 6 []) none,
  .op (.mov 2 (.tmp 14)) none,
  .keep [2]]
def r3_3 : List G := [.op (.loadN 16 8 (.tmp 1)) none,
  .op (.call (some 17) 8 [(.tmp 16)]) none,
  .op (.mov 15 (.tmp 17)) none,
  .op (.ext 18 0 (.tmp 15)) none,
  .op (.ext 19 1 (.tmp 15)) none,
  .op (.mov 3 (.tmp 18)) none,
  .op (.mov 4 (.tmp 19)) none,
  .keep [1, 3, 4]]
def r3_4 : List G := [.op (.loadN 21 8 (.tmp 1)) none,
  .op (.call (some 22) 9 [(.tmp 21)]) none,
  .op (.mov 20 (.tmp 22)) none,
  .op (.ext 23 0 (.tmp 20)) none,
  .op (.ext 24 1 (.tmp 20)) none,
  .op (.mov 5 (.tmp 23)) none,
  .op (.mov 6 (.tmp 24)) none,
  .keep [1, 3, 4, 5, 6]]
def r3_5 : List (Nat × G) := [(0, .op (.loadN 25 8 (.tmp 1)) none),
  (1, .op (.loadN 27 8 (.tmp 1)) none),
  (2, .op (.call (some 26) 10 [(.tmp 25)]) none),
  (0, .op (.call (some 28) 11 [(.tmp 27)]) none),
  (0, .op (.beq 29 false (.tmp 26) (.tmp 28)) none),
  (0, .op (.mov 30 (.tmp 29)) none),
  (0, .op (.mov 31 (.tmp 3)) (some (30, true))),
  (0, .op (.mov 32 (.tmp 5)) (some (30, true))),
  (0, .op (.sop 33 .eql (.tmp 31) (.tmp 32)) (some (30, true))),
  (0, .op (.pick 34 (.tmp 30) (.tmp 33) (.const (.bool false))) none),
  (0, .op (.mov 35 (.tmp 34)) none),
  (0, .op (.mov 36 (.tmp 4)) (some (35, true))),
  (0, .op (.mov 37 (.tmp 6)) (some (35, true))),
  (0, .op (.ari 38 .eql .i64 (.tmp 36) (.tmp 37)) (some (35, true))),
  (0, .op (.pick 39 (.tmp 35) (.tmp 38) (.const (.bool false))) none),
  (0, .op (.mov 2 (.tmp 39)) none),
  (0, .keep [2])]
def c3 : C := (.seq (.region r3_0) (.seq (.seq (.region r3_1) (.cond (.tmp 13) (.seq (.region r3_2) .ret) .skip)) (.seq (.region r3_3) (.seq (.region r3_4) (.seq (.regionW r3_5) .ret)))))
theorem x3 : (∀ (K : Env → World → Prop) (pan : List PanicEntry → World → Prop) (e : Env) (w : World), vcOps Tryd.prog r3_0 K pan e w = vcOps Tryd.prog [.op (.box 1 25 (.tmp 0)) none, .op (.mov 2 (.const (.bool false))) none, .keep [1]] K pan e w) ∧
  (∀ (K : Env → World → Prop) (pan : List PanicEntry → World → Prop) (e : Env) (w : World), vcOps Tryd.prog r3_1 K pan e w = vcOps Tryd.prog [.op (.call (some 7) 6 []) none, .op (.not 8 (.tmp 7)) none, .op (.mov 9 (.tmp 8)) none, .op (.loadN 10 8 (.tmp 1)) (some (9, false)), .op (.call (some 11) 7 [(.tmp 10)]) (some (9, false)), .op (.not 12 (.tmp 11)) (some (9, false)), .op (.pick 13 (.tmp 9) (.const (.bool true)) (.tmp 12)) none, .keep [1, 13]] K pan e w) ∧
  (∀ (K : Env → World → Prop) (pan : List PanicEntry → World → Prop) (e : Env) (w : World), vcOps Tryd.prog r3_2 K pan e w = vcOps Tryd.prog [.op (.call (some 14) 6 []) none, .op (.mov 2 (.tmp 14)) none, .keep [2]] K pan e w) ∧
  (∀ (K : Env → World → Prop) (pan : List PanicEntry → World → Prop) (e : Env) (w : World), vcOps Tryd.prog r3_3 K pan e w = vcOps Tryd.prog [.op (.loadN 16 8 (.tmp 1)) none, .op (.call (some 17) 8 [(.tmp 16)]) none, .op (.mov 15 (.tmp 17)) none, .op (.ext 18 0 (.tmp 15)) none, .op (.ext 19 1 (.tmp 15)) none, .op (.mov 3 (.tmp 18)) none, .op (.mov 4 (.tmp 19)) none, .keep [1, 3, 4]] K pan e w) ∧
  (∀ (K : Env → World → Prop) (pan : List PanicEntry → World → Prop) (e : Env) (w : World), vcOps Tryd.prog r3_4 K pan e w = vcOps Tryd.prog [.op (.loadN 21 8 (.tmp 1)) none, .op (.call (some 22) 9 [(.tmp 21)]) none, .op (.mov 20 (.tmp 22)) none, .op (.ext 23 0 (.tmp 20)) none, .op (.ext 24 1 (.tmp 20)) none, .op (.mov 5 (.tmp 23)) none, .op (.mov 6 (.tmp 24)) none, .keep [1, 3, 4, 5, 6]] K pan e w) ∧
  (∀ (W : World → Prop) (K : (World → Prop) → Env → World → Prop) (pan : List PanicEntry → World → Prop) (e : Env) (w : World), vcW Tryd.prog W r3_5 K pan e w = vcW Tryd.prog W [(0, .op (.loadN 25 8 (.tmp 1)) none), (1, .op (.loadN 27 8 (.tmp 1)) none), (2, .op (.call (some 26) 10 [(.tmp 25)]) none), (0, .op (.call (some 28) 11 [(.tmp 27)]) none), (0, .op (.beq 29 false (.tmp 26) (.tmp 28)) none), (0, .op (.mov 30 (.tmp 29)) none), (0, .op (.mov 31 (.tmp 3)) (some (30, true))), (0, .op (.mov 32 (.tmp 5)) (some (30, true))), (0, .op (.sop 33 .eql (.tmp 31) (.tmp 32)) (some (30, true))), (0, .op (.pick 34 (.tmp 30) (.tmp 33) (.const (.bool false))) none), (0, .op (.mov 35 (.tmp 34)) none), (0, .op (.mov 36 (.tmp 4)) (some (35, true))), (0, .op (.mov 37 (.tmp 6)) (some (35, true))), (0, .op (.ari 38 .eql .i64 (.tmp 36) (.tmp 37)) (some (35, true))), (0, .op (.pick 39 (.tmp 35) (.tmp 38) (.const (.bool false))) none), (0, .op (.mov 2 (.tmp 39)) none), (0, .keep [2])] K pan e w) := ⟨fun _ _ _ _ => rfl, fun _ _ _ _ => rfl, fun _ _ _ _ => rfl, fun _ _ _ _ => rfl, fun _ _ _ _ => rfl, fun _ _ _ _ _ => rfl⟩
theorem low3 : Tryd.f3.body.bind (lowerC Tryd.prog 40 (fun i => List.lookup i [(5, .fin [(0, 0), (2, 1), (1, 2), (3, 0), (4, 0), (5, 0), (6, 0), (7, 0), (8, 0), (9, 0), (10, 0), (11, 0), (12, 0), (13, 0), (14, 0), (15, 0)])])) = some c3.erase := by kernel_rfl
theorem enter3 {args : List Value} {w : World} {R : Ending → World → Prop} (ha : args.length ≤ 40) (h : vc Tryd.prog c3 (endPost [.t 2] R) (argEnv 0 args) w) : Calls Tryd.prog 3 args.toArray w R :=
  calls_of_vc Tryd.func3 rfl low3 rfl ha h
/-- The code of aquatint/aquatintlaw24.WirePieces. -/
def r4_0 : List G := [.op (.mov 4 (.const (.bool false))) none,
  .keep [0, 1]]
def r4_1 : List G := [.op (.call (some 19) 6 []) none,
  .op (.not 20 (.tmp 19)) none,
  .op (.mov 21 (.tmp 20)) none,
  .op (.mov 22 (.tmp 0)) (some (21, false)),
  .op (.lenL 23 (.tmp 22)) (some (21, false)),
  .op (.ari 24 .gtr .i64 (.tmp 23) (.const (.int .i64 60))) (some (21, false)),
  .op (.pick 25 (.tmp 21) (.const (.bool true)) (.tmp 24)) none,
  .op (.mov 26 (.tmp 25)) none,
  .op (.mov 27 (.tmp 1)) (some (26, false)),
  .op (.lenL 28 (.tmp 27)) (some (26, false)),
  .op (.ari 29 .gtr .i64 (.tmp 28) (.const (.int .i64 1000))) (some (26, false)),
  .op (.pick 30 (.tmp 26) (.const (.bool true)) (.tmp 29)) none,
  .keep [0, 1, 30]]
def r4_2 : List G := [.op (.call (some 31) 6 []) none,
  .op (.mov 4 (.tmp 31)) none,
  .keep [4]]
def r4_3 : List G := [.op (.mov 5 (.const (.string { data := #[] }))) none,
  .keep [0, 1, 5]]
def r4_4 : List G := [.op (.mov 6 (.const (.int .i64 0))) none,
  .keep [0, 1, 5, 6]]
def r4_5 : List G := [.op (.mov 32 (.tmp 6)) none,
  .op (.mov 33 (.tmp 0)) none,
  .op (.lenL 34 (.tmp 33)) none,
  .op (.ari 35 .lss .i64 (.tmp 32) (.tmp 34)) none,
  .keep [0, 1, 5, 6, 35]]
def r4_7 : List G := [.op (.mov 38 (.tmp 0)) none,
  .op (.mov 39 (.tmp 6)) none,
  .op (.iaddrL 40 1 (.tmp 38) (.tmp 39)) none,
  .op (.load 41 (.tmp 40)) none,
  .op (.lenS 42 (.tmp 41)) none,
  .op (.ari 43 .gtr .i64 (.tmp 42) (.const (.int .i64 500))) none,
  .keep [0, 1, 5, 6, 43]]
def r4_8 : List G := [.op (.mov 4 (.const (.bool true))) none,
  .keep [4]]
def r4_9 : List G := [.op (.mov 45 (.tmp 0)) none,
  .op (.mov 46 (.tmp 6)) none,
  .op (.iaddrL 47 1 (.tmp 45) (.tmp 46)) none,
  .op (.load 48 (.tmp 47)) none,
  .op (.call (some 49) 12 [(.tmp 48)]) none,
  .op (.mov 44 (.tmp 49)) none,
  .op (.ext 50 0 (.tmp 44)) none,
  .op (.ext 51 1 (.tmp 44)) none,
  .op (.mov 7 (.tmp 50)) none,
  .op (.mov 8 (.tmp 51)) none,
  .keep [0, 1, 5, 6, 7, 8]]
def r4_10 : List G := [.op (.mov 52 (.tmp 8)) none,
  .op (.ari 53 .neq .i64 (.tmp 52) (.const (.int .i64 0))) none,
  .keep [0, 1, 5, 6, 7, 53]]
def r4_11 : List G := [.op (.mov 4 (.const (.bool false))) none,
  .keep [4]]
def r4_12 : List G := [.op (.mov 54 (.tmp 5)) none,
  .op (.mov 55 (.tmp 7)) none,
  .op (.sop 56 .add (.tmp 54) (.tmp 55)) none,
  .op (.mov 5 (.tmp 56)) none,
  .keep [0, 1, 5, 6]]
def r4_6 : List G := [.op (.mov 36 (.tmp 6)) none,
  .op (.ari 37 .add .i64 (.tmp 36) (.const (.int .i64 1))) none,
  .op (.mov 6 (.tmp 37)) none,
  .keep [0, 1, 5, 6]]
def r4_13 : List G := [.op (.call (some 57) 13 []) none,
  .op (.mov 9 (.tmp 57)) none,
  .keep [0, 1, 5, 9]]
def r4_14 : List G := [.op (.mov 10 (.const (.int .i64 0))) none,
  .keep [0, 1, 5, 9, 10]]
def r4_15 : List G := [.op (.mov 11 (.const (.int .i64 0))) none,
  .keep [0, 1, 5, 9, 10, 11]]
def r4_16 : List G := [.op (.mov 58 (.tmp 11)) none,
  .op (.mov 59 (.tmp 1)) none,
  .op (.lenL 60 (.tmp 59)) none,
  .op (.ari 61 .lss .i64 (.tmp 58) (.tmp 60)) none,
  .keep [0, 1, 5, 9, 10, 11, 61]]
def r4_18 : List G := [.op (.mov 64 (.tmp 1)) none,
  .op (.mov 65 (.tmp 11)) none,
  .op (.iaddrL 66 1 (.tmp 64) (.tmp 65)) none,
  .op (.load 67 (.tmp 66)) none,
  .op (.conv 68 .i64 (.tmp 67)) none,
  .op (.mov 69 (.tmp 5)) none,
  .op (.lenS 70 (.tmp 69)) none,
  .op (.mm 71 false (.tmp 68) (.tmp 70)) none,
  .op (.mov 12 (.tmp 71)) none,
  .keep [0, 1, 5, 9, 10, 11, 12]]
def r4_19 : List G := [.op (.mov 72 (.tmp 9)) none,
  .op (.mov 73 (.tmp 5)) none,
  .op (.mov 74 (.tmp 12)) none,
  .op (.sliceS 75 (.tmp 73) none (some (.tmp 74))) none,
  .op (.call (some 76) 14 [(.tmp 72), (.tmp 75)]) none,
  .op (.ari 77 .neq .i64 (.tmp 76) (.const (.int .i64 0))) none,
  .keep [0, 1, 5, 9, 10, 11, 12, 77]]
def r4_20 : List G := [.op (.mov 4 (.const (.bool false))) none,
  .keep [4]]
def r4_21 : List G := [.op (.mov 78 (.tmp 5)) none,
  .op (.mov 79 (.tmp 12)) none,
  .op (.sliceS 80 (.tmp 78) (some (.tmp 79)) none) none,
  .op (.mov 5 (.tmp 80)) none,
  .keep [0, 1, 5, 9, 10, 11]]
def r4_22 : List G := [.op (.mov 82 (.tmp 9)) none,
  .op (.call (some 83) 15 [(.tmp 82)]) none,
  .op (.mov 81 (.tmp 83)) none,
  .op (.ext 84 0 (.tmp 81)) none,
  .op (.ext 85 1 (.tmp 81)) none,
  .op (.mov 13 (.tmp 84)) none,
  .op (.mov 14 (.tmp 85)) none,
  .keep [0, 1, 5, 9, 10, 11, 13, 14]]
def r4_23 : List G := [.op (.mov 86 (.tmp 14)) none,
  .op (.mov 87 (.tmp 86)) none,
  .op (.mov 88 (.tmp 10)) (some (87, true)),
  .op (.mov 89 (.tmp 0)) (some (87, true)),
  .op (.lenL 90 (.tmp 89)) (some (87, true)),
  .op (.ari 91 .geq .i64 (.tmp 88) (.tmp 90)) (some (87, true)),
  .op (.mov 92 (.tmp 91)) (some (87, true)),
  .op (.mov 93 (.tmp 13)) (some (92, false)),
  .op (.mov 94 (.tmp 0)) (some (92, false)),
  .op (.mov 95 (.tmp 10)) (some (92, false)),
  .op (.iaddrL 96 1 (.tmp 94) (.tmp 95)) (some (92, false)),
  .op (.load 97 (.tmp 96)) (some (92, false)),
  .op (.sop 98 .neq (.tmp 93) (.tmp 97)) (some (92, false)),
  .op (.pick 99 (.tmp 92) (.const (.bool true)) (.tmp 98)) (some (87, true)),
  .op (.pick 100 (.tmp 87) (.tmp 99) (.const (.bool false))) none,
  .keep [0, 1, 5, 9, 10, 11, 14, 100]]
def r4_24 : List G := [.op (.mov 4 (.const (.bool false))) none,
  .keep [4]]
def r4_25 : List G := [.op (.mov 101 (.tmp 14)) none,
  .keep [0, 1, 5, 9, 10, 11, 101]]
def r4_26 : List G := [.op (.mov 102 (.tmp 10)) none,
  .op (.ari 103 .add .i64 (.tmp 102) (.const (.int .i64 1))) none,
  .op (.mov 10 (.tmp 103)) none,
  .keep [0, 1, 5, 9, 10, 11]]
def r4_17 : List G := [.op (.mov 62 (.tmp 11)) none,
  .op (.ari 63 .add .i64 (.tmp 62) (.const (.int .i64 1))) none,
  .op (.mov 11 (.tmp 63)) none,
  .keep [0, 1, 5, 9, 10, 11]]
def r4_27 : List G := [.op (.mov 104 (.tmp 9)) none,
  .op (.mov 105 (.tmp 5)) none,
  .op (.call (some 106) 14 [(.tmp 104), (.tmp 105)]) none,
  .op (.ari 107 .neq .i64 (.tmp 106) (.const (.int .i64 0))) none,
  .keep [0, 9, 10, 107]]
def r4_28 : List G := [.op (.mov 4 (.const (.bool false))) none,
  .keep [4]]
def r4_29 : List G := [.op (.mov 108 (.tmp 10)) none,
  .op (.mov 109 (.tmp 0)) none,
  .op (.lenL 110 (.tmp 109)) none,
  .op (.ari 111 .lss .i64 (.tmp 108) (.tmp 110)) none,
  .keep [0, 9, 10, 111]]
def r4_30 : List G := [.op (.mov 113 (.tmp 9)) none,
  .op (.call (some 114) 15 [(.tmp 113)]) none,
  .op (.mov 112 (.tmp 114)) none,
  .op (.ext 115 0 (.tmp 112)) none,
  .op (.ext 116 1 (.tmp 112)) none,
  .op (.mov 15 (.tmp 115)) none,
  .op (.mov 16 (.tmp 116)) none,
  .keep [0, 9, 10, 15, 16]]
def r4_31 : List G := [.op (.mov 117 (.tmp 16)) none,
  .op (.not 118 (.tmp 117)) none,
  .op (.mov 119 (.tmp 118)) none,
  .op (.mov 120 (.tmp 15)) (some (119, false)),
  .op (.mov 121 (.tmp 0)) (some (119, false)),
  .op (.mov 122 (.tmp 10)) (some (119, false)),
  .op (.iaddrL 123 1 (.tmp 121) (.tmp 122)) (some (119, false)),
  .op (.load 124 (.tmp 123)) (some (119, false)),
  .op (.sop 125 .neq (.tmp 120) (.tmp 124)) (some (119, false)),
  .op (.pick 126 (.tmp 119) (.const (.bool true)) (.tmp 125)) none,
  .keep [0, 9, 10, 126]]
def r4_32 : List G := [.op (.mov 4 (.const (.bool false))) none,
  .keep [4]]
def r4_33 : List G := [.op (.mov 127 (.tmp 10)) none,
  .op (.ari 128 .add .i64 (.tmp 127) (.const (.int .i64 1))) none,
  .op (.mov 10 (.tmp 128)) none,
  .keep [0, 9, 10]]
def r4_34 : List G := [.op (.mov 130 (.tmp 9)) none,
  .op (.call (some 131) 15 [(.tmp 130)]) none,
  .op (.mov 129 (.tmp 131)) none,
  .op (.ext 132 0 (.tmp 129)) none,
  .op (.ext 133 1 (.tmp 129)) none,
  .op (.mov 17 (.tmp 132)) none,
  .op (.mov 18 (.tmp 133)) none,
  .keep [9, 18]]
def r4_35 : List G := [.op (.mov 134 (.tmp 18)) none,
  .op (.not 135 (.tmp 134)) none,
  .op (.mov 136 (.tmp 135)) none,
  .op (.mov 137 (.tmp 9)) (some (136, true)),
  .op (.call (some 138) 16 [(.tmp 137)]) (some (136, true)),
  .op (.ari 139 .eql .i64 (.tmp 138) (.const (.int .i64 0))) (some (136, true)),
  .op (.pick 140 (.tmp 136) (.tmp 139) (.const (.bool false))) none,
  .op (.mov 4 (.tmp 140)) none,
  .keep [4]]
def c4 : C := (.seq (.region r4_0) (.seq (.seq (.region r4_1) (.cond (.tmp 30) (.seq (.region r4_2) .ret) .skip)) (.seq (.region r4_3) (.seq (.seq (.region r4_4) (.block 0 (.loop (.seq (.seq (.region r4_5) (.cond (.tmp 35) .skip (.exit 0))) (.seq (.block 1 (.seq (.seq (.region r4_7) (.cond (.tmp 43) (.seq (.region r4_8) .ret) .skip)) (.seq (.region r4_9) (.seq (.seq (.region r4_10) (.cond (.tmp 53) (.seq (.region r4_11) .ret) .skip)) (.region r4_12))))) (.region r4_6)))))) (.seq (.region r4_13) (.seq (.region r4_14) (.seq (.seq (.region r4_15) (.block 2 (.loop (.seq (.seq (.region r4_16) (.cond (.tmp 61) .skip (.exit 2))) (.seq (.block 3 (.seq (.region r4_18) (.seq (.seq (.region r4_19) (.cond (.tmp 77) (.seq (.region r4_20) .ret) .skip)) (.seq (.region r4_21) (.seq (.region r4_22) (.seq (.seq (.region r4_23) (.cond (.tmp 100) (.seq (.region r4_24) .ret) .skip)) (.seq (.region r4_25) (.cond (.tmp 101) (.region r4_26) .skip)))))))) (.region r4_17)))))) (.seq (.seq (.region r4_27) (.cond (.tmp 107) (.seq (.region r4_28) .ret) .skip)) (.seq (.block 4 (.loop (.seq (.seq (.region r4_29) (.cond (.tmp 111) .skip (.exit 4))) (.block 5 (.seq (.region r4_30) (.seq (.seq (.region r4_31) (.cond (.tmp 126) (.seq (.region r4_32) .ret) .skip)) (.region r4_33))))))) (.seq (.region r4_34) (.seq (.region r4_35) .ret)))))))))))
theorem x4 : (∀ (K : Env → World → Prop) (pan : List PanicEntry → World → Prop) (e : Env) (w : World), vcOps Tryd.prog r4_0 K pan e w = vcOps Tryd.prog [.op (.mov 4 (.const (.bool false))) none, .keep [0, 1]] K pan e w) ∧
  (∀ (K : Env → World → Prop) (pan : List PanicEntry → World → Prop) (e : Env) (w : World), vcOps Tryd.prog r4_1 K pan e w = vcOps Tryd.prog [.op (.call (some 19) 6 []) none, .op (.not 20 (.tmp 19)) none, .op (.mov 21 (.tmp 20)) none, .op (.mov 22 (.tmp 0)) (some (21, false)), .op (.lenL 23 (.tmp 22)) (some (21, false)), .op (.ari 24 .gtr .i64 (.tmp 23) (.const (.int .i64 60))) (some (21, false)), .op (.pick 25 (.tmp 21) (.const (.bool true)) (.tmp 24)) none, .op (.mov 26 (.tmp 25)) none, .op (.mov 27 (.tmp 1)) (some (26, false)), .op (.lenL 28 (.tmp 27)) (some (26, false)), .op (.ari 29 .gtr .i64 (.tmp 28) (.const (.int .i64 1000))) (some (26, false)), .op (.pick 30 (.tmp 26) (.const (.bool true)) (.tmp 29)) none, .keep [0, 1, 30]] K pan e w) ∧
  (∀ (K : Env → World → Prop) (pan : List PanicEntry → World → Prop) (e : Env) (w : World), vcOps Tryd.prog r4_2 K pan e w = vcOps Tryd.prog [.op (.call (some 31) 6 []) none, .op (.mov 4 (.tmp 31)) none, .keep [4]] K pan e w) ∧
  (∀ (K : Env → World → Prop) (pan : List PanicEntry → World → Prop) (e : Env) (w : World), vcOps Tryd.prog r4_3 K pan e w = vcOps Tryd.prog [.op (.mov 5 (.const (.string { data := #[] }))) none, .keep [0, 1, 5]] K pan e w) ∧
  (∀ (K : Env → World → Prop) (pan : List PanicEntry → World → Prop) (e : Env) (w : World), vcOps Tryd.prog r4_4 K pan e w = vcOps Tryd.prog [.op (.mov 6 (.const (.int .i64 0))) none, .keep [0, 1, 5, 6]] K pan e w) ∧
  (∀ (K : Env → World → Prop) (pan : List PanicEntry → World → Prop) (e : Env) (w : World), vcOps Tryd.prog r4_5 K pan e w = vcOps Tryd.prog [.op (.mov 32 (.tmp 6)) none, .op (.mov 33 (.tmp 0)) none, .op (.lenL 34 (.tmp 33)) none, .op (.ari 35 .lss .i64 (.tmp 32) (.tmp 34)) none, .keep [0, 1, 5, 6, 35]] K pan e w) ∧
  (∀ (K : Env → World → Prop) (pan : List PanicEntry → World → Prop) (e : Env) (w : World), vcOps Tryd.prog r4_7 K pan e w = vcOps Tryd.prog [.op (.mov 38 (.tmp 0)) none, .op (.mov 39 (.tmp 6)) none, .op (.iaddrL 40 1 (.tmp 38) (.tmp 39)) none, .op (.load 41 (.tmp 40)) none, .op (.lenS 42 (.tmp 41)) none, .op (.ari 43 .gtr .i64 (.tmp 42) (.const (.int .i64 500))) none, .keep [0, 1, 5, 6, 43]] K pan e w) ∧
  (∀ (K : Env → World → Prop) (pan : List PanicEntry → World → Prop) (e : Env) (w : World), vcOps Tryd.prog r4_8 K pan e w = vcOps Tryd.prog [.op (.mov 4 (.const (.bool true))) none, .keep [4]] K pan e w) ∧
  (∀ (K : Env → World → Prop) (pan : List PanicEntry → World → Prop) (e : Env) (w : World), vcOps Tryd.prog r4_9 K pan e w = vcOps Tryd.prog [.op (.mov 45 (.tmp 0)) none, .op (.mov 46 (.tmp 6)) none, .op (.iaddrL 47 1 (.tmp 45) (.tmp 46)) none, .op (.load 48 (.tmp 47)) none, .op (.call (some 49) 12 [(.tmp 48)]) none, .op (.mov 44 (.tmp 49)) none, .op (.ext 50 0 (.tmp 44)) none, .op (.ext 51 1 (.tmp 44)) none, .op (.mov 7 (.tmp 50)) none, .op (.mov 8 (.tmp 51)) none, .keep [0, 1, 5, 6, 7, 8]] K pan e w) ∧
  (∀ (K : Env → World → Prop) (pan : List PanicEntry → World → Prop) (e : Env) (w : World), vcOps Tryd.prog r4_10 K pan e w = vcOps Tryd.prog [.op (.mov 52 (.tmp 8)) none, .op (.ari 53 .neq .i64 (.tmp 52) (.const (.int .i64 0))) none, .keep [0, 1, 5, 6, 7, 53]] K pan e w) ∧
  (∀ (K : Env → World → Prop) (pan : List PanicEntry → World → Prop) (e : Env) (w : World), vcOps Tryd.prog r4_11 K pan e w = vcOps Tryd.prog [.op (.mov 4 (.const (.bool false))) none, .keep [4]] K pan e w) ∧
  (∀ (K : Env → World → Prop) (pan : List PanicEntry → World → Prop) (e : Env) (w : World), vcOps Tryd.prog r4_12 K pan e w = vcOps Tryd.prog [.op (.mov 54 (.tmp 5)) none, .op (.mov 55 (.tmp 7)) none, .op (.sop 56 .add (.tmp 54) (.tmp 55)) none, .op (.mov 5 (.tmp 56)) none, .keep [0, 1, 5, 6]] K pan e w) ∧
  (∀ (K : Env → World → Prop) (pan : List PanicEntry → World → Prop) (e : Env) (w : World), vcOps Tryd.prog r4_6 K pan e w = vcOps Tryd.prog [.op (.mov 36 (.tmp 6)) none, .op (.ari 37 .add .i64 (.tmp 36) (.const (.int .i64 1))) none, .op (.mov 6 (.tmp 37)) none, .keep [0, 1, 5, 6]] K pan e w) ∧
  (∀ (K : Env → World → Prop) (pan : List PanicEntry → World → Prop) (e : Env) (w : World), vcOps Tryd.prog r4_13 K pan e w = vcOps Tryd.prog [.op (.call (some 57) 13 []) none, .op (.mov 9 (.tmp 57)) none, .keep [0, 1, 5, 9]] K pan e w) ∧
  (∀ (K : Env → World → Prop) (pan : List PanicEntry → World → Prop) (e : Env) (w : World), vcOps Tryd.prog r4_14 K pan e w = vcOps Tryd.prog [.op (.mov 10 (.const (.int .i64 0))) none, .keep [0, 1, 5, 9, 10]] K pan e w) ∧
  (∀ (K : Env → World → Prop) (pan : List PanicEntry → World → Prop) (e : Env) (w : World), vcOps Tryd.prog r4_15 K pan e w = vcOps Tryd.prog [.op (.mov 11 (.const (.int .i64 0))) none, .keep [0, 1, 5, 9, 10, 11]] K pan e w) ∧
  (∀ (K : Env → World → Prop) (pan : List PanicEntry → World → Prop) (e : Env) (w : World), vcOps Tryd.prog r4_16 K pan e w = vcOps Tryd.prog [.op (.mov 58 (.tmp 11)) none, .op (.mov 59 (.tmp 1)) none, .op (.lenL 60 (.tmp 59)) none, .op (.ari 61 .lss .i64 (.tmp 58) (.tmp 60)) none, .keep [0, 1, 5, 9, 10, 11, 61]] K pan e w) ∧
  (∀ (K : Env → World → Prop) (pan : List PanicEntry → World → Prop) (e : Env) (w : World), vcOps Tryd.prog r4_18 K pan e w = vcOps Tryd.prog [.op (.mov 64 (.tmp 1)) none, .op (.mov 65 (.tmp 11)) none, .op (.iaddrL 66 1 (.tmp 64) (.tmp 65)) none, .op (.load 67 (.tmp 66)) none, .op (.conv 68 .i64 (.tmp 67)) none, .op (.mov 69 (.tmp 5)) none, .op (.lenS 70 (.tmp 69)) none, .op (.mm 71 false (.tmp 68) (.tmp 70)) none, .op (.mov 12 (.tmp 71)) none, .keep [0, 1, 5, 9, 10, 11, 12]] K pan e w) ∧
  (∀ (K : Env → World → Prop) (pan : List PanicEntry → World → Prop) (e : Env) (w : World), vcOps Tryd.prog r4_19 K pan e w = vcOps Tryd.prog [.op (.mov 72 (.tmp 9)) none, .op (.mov 73 (.tmp 5)) none, .op (.mov 74 (.tmp 12)) none, .op (.sliceS 75 (.tmp 73) none (some (.tmp 74))) none, .op (.call (some 76) 14 [(.tmp 72), (.tmp 75)]) none, .op (.ari 77 .neq .i64 (.tmp 76) (.const (.int .i64 0))) none, .keep [0, 1, 5, 9, 10, 11, 12, 77]] K pan e w) ∧
  (∀ (K : Env → World → Prop) (pan : List PanicEntry → World → Prop) (e : Env) (w : World), vcOps Tryd.prog r4_20 K pan e w = vcOps Tryd.prog [.op (.mov 4 (.const (.bool false))) none, .keep [4]] K pan e w) ∧
  (∀ (K : Env → World → Prop) (pan : List PanicEntry → World → Prop) (e : Env) (w : World), vcOps Tryd.prog r4_21 K pan e w = vcOps Tryd.prog [.op (.mov 78 (.tmp 5)) none, .op (.mov 79 (.tmp 12)) none, .op (.sliceS 80 (.tmp 78) (some (.tmp 79)) none) none, .op (.mov 5 (.tmp 80)) none, .keep [0, 1, 5, 9, 10, 11]] K pan e w) ∧
  (∀ (K : Env → World → Prop) (pan : List PanicEntry → World → Prop) (e : Env) (w : World), vcOps Tryd.prog r4_22 K pan e w = vcOps Tryd.prog [.op (.mov 82 (.tmp 9)) none, .op (.call (some 83) 15 [(.tmp 82)]) none, .op (.mov 81 (.tmp 83)) none, .op (.ext 84 0 (.tmp 81)) none, .op (.ext 85 1 (.tmp 81)) none, .op (.mov 13 (.tmp 84)) none, .op (.mov 14 (.tmp 85)) none, .keep [0, 1, 5, 9, 10, 11, 13, 14]] K pan e w) ∧
  (∀ (K : Env → World → Prop) (pan : List PanicEntry → World → Prop) (e : Env) (w : World), vcOps Tryd.prog r4_23 K pan e w = vcOps Tryd.prog [.op (.mov 86 (.tmp 14)) none, .op (.mov 87 (.tmp 86)) none, .op (.mov 88 (.tmp 10)) (some (87, true)), .op (.mov 89 (.tmp 0)) (some (87, true)), .op (.lenL 90 (.tmp 89)) (some (87, true)), .op (.ari 91 .geq .i64 (.tmp 88) (.tmp 90)) (some (87, true)), .op (.mov 92 (.tmp 91)) (some (87, true)), .op (.mov 93 (.tmp 13)) (some (92, false)), .op (.mov 94 (.tmp 0)) (some (92, false)), .op (.mov 95 (.tmp 10)) (some (92, false)), .op (.iaddrL 96 1 (.tmp 94) (.tmp 95)) (some (92, false)), .op (.load 97 (.tmp 96)) (some (92, false)), .op (.sop 98 .neq (.tmp 93) (.tmp 97)) (some (92, false)), .op (.pick 99 (.tmp 92) (.const (.bool true)) (.tmp 98)) (some (87, true)), .op (.pick 100 (.tmp 87) (.tmp 99) (.const (.bool false))) none, .keep [0, 1, 5, 9, 10, 11, 14, 100]] K pan e w) ∧
  (∀ (K : Env → World → Prop) (pan : List PanicEntry → World → Prop) (e : Env) (w : World), vcOps Tryd.prog r4_24 K pan e w = vcOps Tryd.prog [.op (.mov 4 (.const (.bool false))) none, .keep [4]] K pan e w) ∧
  (∀ (K : Env → World → Prop) (pan : List PanicEntry → World → Prop) (e : Env) (w : World), vcOps Tryd.prog r4_25 K pan e w = vcOps Tryd.prog [.op (.mov 101 (.tmp 14)) none, .keep [0, 1, 5, 9, 10, 11, 101]] K pan e w) ∧
  (∀ (K : Env → World → Prop) (pan : List PanicEntry → World → Prop) (e : Env) (w : World), vcOps Tryd.prog r4_26 K pan e w = vcOps Tryd.prog [.op (.mov 102 (.tmp 10)) none, .op (.ari 103 .add .i64 (.tmp 102) (.const (.int .i64 1))) none, .op (.mov 10 (.tmp 103)) none, .keep [0, 1, 5, 9, 10, 11]] K pan e w) ∧
  (∀ (K : Env → World → Prop) (pan : List PanicEntry → World → Prop) (e : Env) (w : World), vcOps Tryd.prog r4_17 K pan e w = vcOps Tryd.prog [.op (.mov 62 (.tmp 11)) none, .op (.ari 63 .add .i64 (.tmp 62) (.const (.int .i64 1))) none, .op (.mov 11 (.tmp 63)) none, .keep [0, 1, 5, 9, 10, 11]] K pan e w) ∧
  (∀ (K : Env → World → Prop) (pan : List PanicEntry → World → Prop) (e : Env) (w : World), vcOps Tryd.prog r4_27 K pan e w = vcOps Tryd.prog [.op (.mov 104 (.tmp 9)) none, .op (.mov 105 (.tmp 5)) none, .op (.call (some 106) 14 [(.tmp 104), (.tmp 105)]) none, .op (.ari 107 .neq .i64 (.tmp 106) (.const (.int .i64 0))) none, .keep [0, 9, 10, 107]] K pan e w) ∧
  (∀ (K : Env → World → Prop) (pan : List PanicEntry → World → Prop) (e : Env) (w : World), vcOps Tryd.prog r4_28 K pan e w = vcOps Tryd.prog [.op (.mov 4 (.const (.bool false))) none, .keep [4]] K pan e w) ∧
  (∀ (K : Env → World → Prop) (pan : List PanicEntry → World → Prop) (e : Env) (w : World), vcOps Tryd.prog r4_29 K pan e w = vcOps Tryd.prog [.op (.mov 108 (.tmp 10)) none, .op (.mov 109 (.tmp 0)) none, .op (.lenL 110 (.tmp 109)) none, .op (.ari 111 .lss .i64 (.tmp 108) (.tmp 110)) none, .keep [0, 9, 10, 111]] K pan e w) ∧
  (∀ (K : Env → World → Prop) (pan : List PanicEntry → World → Prop) (e : Env) (w : World), vcOps Tryd.prog r4_30 K pan e w = vcOps Tryd.prog [.op (.mov 113 (.tmp 9)) none, .op (.call (some 114) 15 [(.tmp 113)]) none, .op (.mov 112 (.tmp 114)) none, .op (.ext 115 0 (.tmp 112)) none, .op (.ext 116 1 (.tmp 112)) none, .op (.mov 15 (.tmp 115)) none, .op (.mov 16 (.tmp 116)) none, .keep [0, 9, 10, 15, 16]] K pan e w) ∧
  (∀ (K : Env → World → Prop) (pan : List PanicEntry → World → Prop) (e : Env) (w : World), vcOps Tryd.prog r4_31 K pan e w = vcOps Tryd.prog [.op (.mov 117 (.tmp 16)) none, .op (.not 118 (.tmp 117)) none, .op (.mov 119 (.tmp 118)) none, .op (.mov 120 (.tmp 15)) (some (119, false)), .op (.mov 121 (.tmp 0)) (some (119, false)), .op (.mov 122 (.tmp 10)) (some (119, false)), .op (.iaddrL 123 1 (.tmp 121) (.tmp 122)) (some (119, false)), .op (.load 124 (.tmp 123)) (some (119, false)), .op (.sop 125 .neq (.tmp 120) (.tmp 124)) (some (119, false)), .op (.pick 126 (.tmp 119) (.const (.bool true)) (.tmp 125)) none, .keep [0, 9, 10, 126]] K pan e w) ∧
  (∀ (K : Env → World → Prop) (pan : List PanicEntry → World → Prop) (e : Env) (w : World), vcOps Tryd.prog r4_32 K pan e w = vcOps Tryd.prog [.op (.mov 4 (.const (.bool false))) none, .keep [4]] K pan e w) ∧
  (∀ (K : Env → World → Prop) (pan : List PanicEntry → World → Prop) (e : Env) (w : World), vcOps Tryd.prog r4_33 K pan e w = vcOps Tryd.prog [.op (.mov 127 (.tmp 10)) none, .op (.ari 128 .add .i64 (.tmp 127) (.const (.int .i64 1))) none, .op (.mov 10 (.tmp 128)) none, .keep [0, 9, 10]] K pan e w) ∧
  (∀ (K : Env → World → Prop) (pan : List PanicEntry → World → Prop) (e : Env) (w : World), vcOps Tryd.prog r4_34 K pan e w = vcOps Tryd.prog [.op (.mov 130 (.tmp 9)) none, .op (.call (some 131) 15 [(.tmp 130)]) none, .op (.mov 129 (.tmp 131)) none, .op (.ext 132 0 (.tmp 129)) none, .op (.ext 133 1 (.tmp 129)) none, .op (.mov 17 (.tmp 132)) none, .op (.mov 18 (.tmp 133)) none, .keep [9, 18]] K pan e w) ∧
  (∀ (K : Env → World → Prop) (pan : List PanicEntry → World → Prop) (e : Env) (w : World), vcOps Tryd.prog r4_35 K pan e w = vcOps Tryd.prog [.op (.mov 134 (.tmp 18)) none, .op (.not 135 (.tmp 134)) none, .op (.mov 136 (.tmp 135)) none, .op (.mov 137 (.tmp 9)) (some (136, true)), .op (.call (some 138) 16 [(.tmp 137)]) (some (136, true)), .op (.ari 139 .eql .i64 (.tmp 138) (.const (.int .i64 0))) (some (136, true)), .op (.pick 140 (.tmp 136) (.tmp 139) (.const (.bool false))) none, .op (.mov 4 (.tmp 140)) none, .keep [4]] K pan e w) := ⟨fun _ _ _ _ => rfl, fun _ _ _ _ => rfl, fun _ _ _ _ => rfl, fun _ _ _ _ => rfl, fun _ _ _ _ => rfl, fun _ _ _ _ => rfl, fun _ _ _ _ => rfl, fun _ _ _ _ => rfl, fun _ _ _ _ => rfl, fun _ _ _ _ => rfl, fun _ _ _ _ => rfl, fun _ _ _ _ => rfl, fun _ _ _ _ => rfl, fun _ _ _ _ => rfl, fun _ _ _ _ => rfl, fun _ _ _ _ => rfl, fun _ _ _ _ => rfl, fun _ _ _ _ => rfl, fun _ _ _ _ => rfl, fun _ _ _ _ => rfl, fun _ _ _ _ => rfl, fun _ _ _ _ => rfl, fun _ _ _ _ => rfl, fun _ _ _ _ => rfl, fun _ _ _ _ => rfl, fun _ _ _ _ => rfl, fun _ _ _ _ => rfl, fun _ _ _ _ => rfl, fun _ _ _ _ => rfl, fun _ _ _ _ => rfl, fun _ _ _ _ => rfl, fun _ _ _ _ => rfl, fun _ _ _ _ => rfl, fun _ _ _ _ => rfl, fun _ _ _ _ => rfl, fun _ _ _ _ => rfl⟩
theorem low4 : Tryd.f4.body.bind (lowerC Tryd.prog 141 (fun _ => none)) = some c4.erase := by kernel_rfl
theorem enter4 {args : List Value} {w : World} {R : Ending → World → Prop} (ha : args.length ≤ 141) (h : vc Tryd.prog c4 (endPost [.t 4] R) (argEnv 0 args) w) : Calls Tryd.prog 4 args.toArray w R :=
  calls_of_vc Tryd.func4 rfl low4 rfl ha h
/-- The code of aquatint/aquatintlaw24.WireBuffers. -/
def r5_0 : List G := [.op (.mov 4 (.const (.bool false))) none,
  .keep [0, 1]]
def r5_1 : List G := [.op (.call (some 14) 6 []) none,
  .op (.not 15 (.tmp 14)) none,
  .op (.mov 16 (.tmp 15)) none,
  .op (.mov 17 (.tmp 0)) (some (16, false)),
  .op (.lenL 18 (.tmp 17)) (some (16, false)),
  .op (.ari 19 .gtr .i64 (.tmp 18) (.const (.int .i64 60))) (some (16, false)),
  .op (.pick 20 (.tmp 16) (.const (.bool true)) (.tmp 19)) none,
  .op (.mov 21 (.tmp 20)) none,
  .op (.mov 22 (.tmp 1)) (some (21, false)),
  .op (.lenL 23 (.tmp 22)) (some (21, false)),
  .op (.mov 24 (.tmp 0)) (some (21, false)),
  .op (.lenL 25 (.tmp 24)) (some (21, false)),
  .op (.ari 26 .lss .i64 (.tmp 23) (.tmp 25)) (some (21, false)),
  .op (.pick 27 (.tmp 21) (.const (.bool true)) (.tmp 26)) none,
  .keep [0, 1, 27]]
def r5_2 : List G := [.op (.call (some 28) 6 []) none,
  .op (.mov 4 (.tmp 28)) none,
  .keep [4]]
def r5_3 : List G := [.op (.call (some 29) 13 []) none,
  .op (.mov 5 (.tmp 29)) none,
  .keep [0, 1, 5]]
def r5_4 : List G := [.op (.build 30 44 []) none,
  .op (.box 31 44 (.tmp 30)) none,
  .op (.mov 6 (.tmp 31)) none,
  .keep [0, 1, 5, 6]]
def r5_5 : List G := [.op (.mov 7 (.const (.int .i64 0))) none,
  .keep [0, 1, 5, 6, 7]]
def r5_6 : List G := [.op (.mov 32 (.tmp 7)) none,
  .op (.mov 33 (.tmp 0)) none,
  .op (.lenL 34 (.tmp 33)) none,
  .op (.ari 35 .lss .i64 (.tmp 32) (.tmp 34)) none,
  .keep [0, 1, 5, 6, 7, 35]]
def r5_8 : List G := [.op (.mov 38 (.tmp 0)) none,
  .op (.mov 39 (.tmp 7)) none,
  .op (.iaddrL 40 1 (.tmp 38) (.tmp 39)) none,
  .op (.load 41 (.tmp 40)) none,
  .op (.lenS 42 (.tmp 41)) none,
  .op (.ari 43 .gtr .i64 (.tmp 42) (.const (.int .i64 500))) none,
  .keep [0, 1, 5, 6, 7, 43]]
def r5_9 : List G := [.op (.mov 4 (.const (.bool true))) none,
  .keep [4]]
def r5_10 : List (Nat × G) := [(0, .op (.mov 44 (.tmp 5)) none),
  (0, .op (.mov 45 (.tmp 0)) none),
  (0, .op (.mov 46 (.tmp 7)) none),
  (0, .op (.iaddrL 47 1 (.tmp 45) (.tmp 46)) none),
  (0, .op (.load 48 (.tmp 47)) none),
  (0, .op (.mov 50 (.tmp 6)) none),
  (0, .op (.mov 51 (.tmp 0)) none),
  (0, .op (.mov 52 (.tmp 7)) none),
  (0, .op (.iaddrL 53 1 (.tmp 51) (.tmp 52)) none),
  (1, .op (.load 54 (.tmp 53)) none),
  (2, .op (.call (some 49) 14 [(.tmp 44), (.tmp 48)]) none),
  (0, .op (.call (some 55) 17 [(.tmp 50), (.tmp 54)]) none),
  (0, .op (.ari 56 .neq .i64 (.tmp 49) (.tmp 55)) none),
  (0, .op (.mov 57 (.tmp 56)) none),
  (0, .op (.mov 58 (.tmp 5)) (some (57, false))),
  (0, .op (.mov 60 (.tmp 6)) (some (57, false))),
  (0, .op (.call (some 59) 16 [(.tmp 58)]) (some (57, false))),
  (0, .op (.call (some 61) 18 [(.tmp 60)]) (some (57, false))),
  (0, .op (.ari 62 .neq .i64 (.tmp 59) (.tmp 61)) (some (57, false))),
  (0, .op (.pick 63 (.tmp 57) (.const (.bool true)) (.tmp 62)) none),
  (0, .keep [0, 1, 5, 6, 7, 63])]
def r5_11 : List G := [.op (.mov 4 (.const (.bool false))) none,
  .keep [4]]
def r5_12 : List G := [.op (.mov 8 (.const (.int .i64 0))) none,
  .keep [0, 1, 5, 6, 7, 8]]
def r5_13 : List G := [.op (.mov 64 (.tmp 8)) none,
  .op (.mov 65 (.tmp 1)) none,
  .op (.mov 66 (.tmp 7)) none,
  .op (.iaddrL 67 1 (.tmp 65) (.tmp 66)) none,
  .op (.load 68 (.tmp 67)) none,
  .op (.ari 69 .rem .u8 (.tmp 68) (.const (.int .u8 4))) none,
  .op (.conv 70 .i64 (.tmp 69)) none,
  .op (.ari 71 .lss .i64 (.tmp 64) (.tmp 70)) none,
  .keep [0, 1, 5, 6, 7, 8, 71]]
def r5_15 : List G := [.op (.mov 75 (.tmp 5)) none,
  .op (.call (some 76) 15 [(.tmp 75)]) none,
  .op (.mov 74 (.tmp 76)) none,
  .op (.ext 77 0 (.tmp 74)) none,
  .op (.ext 78 1 (.tmp 74)) none,
  .op (.mov 9 (.tmp 77)) none,
  .op (.mov 10 (.tmp 78)) none,
  .keep [0, 1, 5, 6, 7, 8, 9, 10]]
def r5_16 : List G := [.op (.mov 79 (.tmp 10)) none,
  .op (.mov 80 (.tmp 6)) none,
  .op (.nilCheck 81 (.tmp 80)) none,
  .op (.faddr 82 1 (.tmp 81)) none,
  .op (.load 83 (.tmp 82)) none,
  .op (.lenL 84 (.tmp 83)) none,
  .op (.ari 85 .gtr .i64 (.tmp 84) (.const (.int .i64 0))) none,
  .op (.beq 86 true (.tmp 79) (.tmp 85)) none,
  .op (.mov 87 (.tmp 86)) none,
  .op (.mov 88 (.tmp 10)) (some (87, false)),
  .op (.mov 89 (.tmp 88)) (some (87, false)),
  .op (.mov 90 (.tmp 9)) (some (89, true)),
  .op (.mov 91 (.tmp 6)) (some (89, true)),
  .op (.nilCheck 92 (.tmp 91)) (some (89, true)),
  .op (.faddr 93 1 (.tmp 92)) (some (89, true)),
  .op (.load 94 (.tmp 93)) (some (89, true)),
  .op (.iaddrL 95 1 (.tmp 94) (.const (.int .i64 0))) (some (89, true)),
  .op (.load 96 (.tmp 95)) (some (89, true)),
  .op (.sop 97 .neq (.tmp 90) (.tmp 96)) (some (89, true)),
  .op (.pick 98 (.tmp 89) (.tmp 97) (.const (.bool false))) (some (87, false)),
  .op (.pick 99 (.tmp 87) (.const (.bool true)) (.tmp 98)) none,
  .keep [0, 1, 5, 6, 7, 8, 10, 99]]
def r5_17 : List G := [.op (.mov 4 (.const (.bool false))) none,
  .keep [4]]
def r5_18 : List G := [.op (.mov 100 (.tmp 10)) none,
  .keep [0, 1, 5, 6, 7, 8, 100]]
def r5_19 : List G := [.op (.mov 101 (.tmp 6)) none,
  .op (.mov 102 (.tmp 6)) none,
  .op (.nilCheck 103 (.tmp 102)) none,
  .op (.faddr 104 1 (.tmp 103)) none,
  .op (.load 105 (.tmp 104)) none,
  .op (.sliceL 106 1 (.tmp 105) (some (.const (.int .i64 1))) none none) none,
  .op (.nilCheck 107 (.tmp 101)) none,
  .op (.faddr 108 1 (.tmp 107)) none,
  .op (.store (.tmp 108) (.tmp 106)) none,
  .keep [0, 1, 5, 6, 7, 8]]
def r5_20 : List G := [.op (.mov 109 (.tmp 5)) none,
  .op (.call (some 110) 16 [(.tmp 109)]) none,
  .op (.mov 111 (.tmp 6)) none,
  .op (.call (some 112) 18 [(.tmp 111)]) none,
  .op (.ari 113 .neq .i64 (.tmp 110) (.tmp 112)) none,
  .keep [0, 1, 5, 6, 7, 8, 113]]
def r5_21 : List G := [.op (.mov 4 (.const (.bool false))) none,
  .keep [4]]
def r5_14 : List G := [.op (.mov 72 (.tmp 8)) none,
  .op (.ari 73 .add .i64 (.tmp 72) (.const (.int .i64 1))) none,
  .op (.mov 8 (.tmp 73)) none,
  .keep [0, 1, 5, 6, 7, 8]]
def r5_7 : List G := [.op (.mov 36 (.tmp 7)) none,
  .op (.ari 37 .add .i64 (.tmp 36) (.const (.int .i64 1))) none,
  .op (.mov 7 (.tmp 37)) none,
  .keep [0, 1, 5, 6, 7]]
def r5_22 : List G := [.op (.mov 11 (.const (.pointer none))) none,
  .keep [11]]
def r5_23 : List G := [.op (.mov 115 (.tmp 11)) none,
  .op (.call (some 116) 15 [(.tmp 115)]) none,
  .op (.mov 114 (.tmp 116)) none,
  .op (.ext 117 0 (.tmp 114)) none,
  .op (.ext 118 1 (.tmp 114)) none,
  .op (.mov 12 (.tmp 117)) none,
  .op (.mov 13 (.tmp 118)) none,
  .keep [11, 13]]
def r5_24 : List G := [.op (.mov 119 (.tmp 11)) none,
  .op (.call (some 120) 14 [(.tmp 119), (.const (.string { data := #[120] }))]) none,
  .op (.ari 121 .eql .i64 (.tmp 120) (.const (.int .i64 1))) none,
  .op (.mov 122 (.tmp 121)) none,
  .op (.mov 123 (.tmp 13)) (some (122, true)),
  .op (.not 124 (.tmp 123)) (some (122, true)),
  .op (.pick 125 (.tmp 122) (.tmp 124) (.const (.bool false))) none,
  .op (.mov 126 (.tmp 125)) none,
  .op (.mov 127 (.tmp 11)) (some (126, true)),
  .op (.call (some 128) 16 [(.tmp 127)]) (some (126, true)),
  .op (.ari 129 .eql .i64 (.tmp 128) (.const (.int .i64 0))) (some (126, true)),
  .op (.pick 130 (.tmp 126) (.tmp 129) (.const (.bool false))) none,
  .op (.mov 4 (.tmp 130)) none,
  .keep [4]]
def c5 : C := (.seq (.region r5_0) (.seq (.seq (.region r5_1) (.cond (.tmp 27) (.seq (.region r5_2) .ret) .skip)) (.seq (.region r5_3) (.seq (.region r5_4) (.seq (.seq (.region r5_5) (.block 0 (.loop (.seq (.seq (.region r5_6) (.cond (.tmp 35) .skip (.exit 0))) (.seq (.block 1 (.seq (.seq (.region r5_8) (.cond (.tmp 43) (.seq (.region r5_9) .ret) .skip)) (.seq (.seq (.regionW r5_10) (.cond (.tmp 63) (.seq (.region r5_11) .ret) .skip)) (.seq (.region r5_12) (.block 2 (.loop (.seq (.seq (.region r5_13) (.cond (.tmp 71) .skip (.exit 2))) (.seq (.block 3 (.seq (.region r5_15) (.seq (.seq (.region r5_16) (.cond (.tmp 99) (.seq (.region r5_17) .ret) .skip)) (.seq (.seq (.region r5_18) (.cond (.tmp 100) (.region r5_19) .skip)) (.seq (.region r5_20) (.cond (.tmp 113) (.seq (.region r5_21) .ret) .skip)))))) (.region r5_14))))))))) (.region r5_7)))))) (.seq (.region r5_22) (.seq (.region r5_23) (.seq (.region r5_24) .ret))))))))
theorem x5 : (∀ (K : Env → World → Prop) (pan : List PanicEntry → World → Prop) (e : Env) (w : World), vcOps Tryd.prog r5_0 K pan e w = vcOps Tryd.prog [.op (.mov 4 (.const (.bool false))) none, .keep [0, 1]] K pan e w) ∧
  (∀ (K : Env → World → Prop) (pan : List PanicEntry → World → Prop) (e : Env) (w : World), vcOps Tryd.prog r5_1 K pan e w = vcOps Tryd.prog [.op (.call (some 14) 6 []) none, .op (.not 15 (.tmp 14)) none, .op (.mov 16 (.tmp 15)) none, .op (.mov 17 (.tmp 0)) (some (16, false)), .op (.lenL 18 (.tmp 17)) (some (16, false)), .op (.ari 19 .gtr .i64 (.tmp 18) (.const (.int .i64 60))) (some (16, false)), .op (.pick 20 (.tmp 16) (.const (.bool true)) (.tmp 19)) none, .op (.mov 21 (.tmp 20)) none, .op (.mov 22 (.tmp 1)) (some (21, false)), .op (.lenL 23 (.tmp 22)) (some (21, false)), .op (.mov 24 (.tmp 0)) (some (21, false)), .op (.lenL 25 (.tmp 24)) (some (21, false)), .op (.ari 26 .lss .i64 (.tmp 23) (.tmp 25)) (some (21, false)), .op (.pick 27 (.tmp 21) (.const (.bool true)) (.tmp 26)) none, .keep [0, 1, 27]] K pan e w) ∧
  (∀ (K : Env → World → Prop) (pan : List PanicEntry → World → Prop) (e : Env) (w : World), vcOps Tryd.prog r5_2 K pan e w = vcOps Tryd.prog [.op (.call (some 28) 6 []) none, .op (.mov 4 (.tmp 28)) none, .keep [4]] K pan e w) ∧
  (∀ (K : Env → World → Prop) (pan : List PanicEntry → World → Prop) (e : Env) (w : World), vcOps Tryd.prog r5_3 K pan e w = vcOps Tryd.prog [.op (.call (some 29) 13 []) none, .op (.mov 5 (.tmp 29)) none, .keep [0, 1, 5]] K pan e w) ∧
  (∀ (K : Env → World → Prop) (pan : List PanicEntry → World → Prop) (e : Env) (w : World), vcOps Tryd.prog r5_4 K pan e w = vcOps Tryd.prog [.op (.build 30 44 []) none, .op (.box 31 44 (.tmp 30)) none, .op (.mov 6 (.tmp 31)) none, .keep [0, 1, 5, 6]] K pan e w) ∧
  (∀ (K : Env → World → Prop) (pan : List PanicEntry → World → Prop) (e : Env) (w : World), vcOps Tryd.prog r5_5 K pan e w = vcOps Tryd.prog [.op (.mov 7 (.const (.int .i64 0))) none, .keep [0, 1, 5, 6, 7]] K pan e w) ∧
  (∀ (K : Env → World → Prop) (pan : List PanicEntry → World → Prop) (e : Env) (w : World), vcOps Tryd.prog r5_6 K pan e w = vcOps Tryd.prog [.op (.mov 32 (.tmp 7)) none, .op (.mov 33 (.tmp 0)) none, .op (.lenL 34 (.tmp 33)) none, .op (.ari 35 .lss .i64 (.tmp 32) (.tmp 34)) none, .keep [0, 1, 5, 6, 7, 35]] K pan e w) ∧
  (∀ (K : Env → World → Prop) (pan : List PanicEntry → World → Prop) (e : Env) (w : World), vcOps Tryd.prog r5_8 K pan e w = vcOps Tryd.prog [.op (.mov 38 (.tmp 0)) none, .op (.mov 39 (.tmp 7)) none, .op (.iaddrL 40 1 (.tmp 38) (.tmp 39)) none, .op (.load 41 (.tmp 40)) none, .op (.lenS 42 (.tmp 41)) none, .op (.ari 43 .gtr .i64 (.tmp 42) (.const (.int .i64 500))) none, .keep [0, 1, 5, 6, 7, 43]] K pan e w) ∧
  (∀ (K : Env → World → Prop) (pan : List PanicEntry → World → Prop) (e : Env) (w : World), vcOps Tryd.prog r5_9 K pan e w = vcOps Tryd.prog [.op (.mov 4 (.const (.bool true))) none, .keep [4]] K pan e w) ∧
  (∀ (W : World → Prop) (K : (World → Prop) → Env → World → Prop) (pan : List PanicEntry → World → Prop) (e : Env) (w : World), vcW Tryd.prog W r5_10 K pan e w = vcW Tryd.prog W [(0, .op (.mov 44 (.tmp 5)) none), (0, .op (.mov 45 (.tmp 0)) none), (0, .op (.mov 46 (.tmp 7)) none), (0, .op (.iaddrL 47 1 (.tmp 45) (.tmp 46)) none), (0, .op (.load 48 (.tmp 47)) none), (0, .op (.mov 50 (.tmp 6)) none), (0, .op (.mov 51 (.tmp 0)) none), (0, .op (.mov 52 (.tmp 7)) none), (0, .op (.iaddrL 53 1 (.tmp 51) (.tmp 52)) none), (1, .op (.load 54 (.tmp 53)) none), (2, .op (.call (some 49) 14 [(.tmp 44), (.tmp 48)]) none), (0, .op (.call (some 55) 17 [(.tmp 50), (.tmp 54)]) none), (0, .op (.ari 56 .neq .i64 (.tmp 49) (.tmp 55)) none), (0, .op (.mov 57 (.tmp 56)) none), (0, .op (.mov 58 (.tmp 5)) (some (57, false))), (0, .op (.mov 60 (.tmp 6)) (some (57, false))), (0, .op (.call (some 59) 16 [(.tmp 58)]) (some (57, false))), (0, .op (.call (some 61) 18 [(.tmp 60)]) (some (57, false))), (0, .op (.ari 62 .neq .i64 (.tmp 59) (.tmp 61)) (some (57, false))), (0, .op (.pick 63 (.tmp 57) (.const (.bool true)) (.tmp 62)) none), (0, .keep [0, 1, 5, 6, 7, 63])] K pan e w) ∧
  (∀ (K : Env → World → Prop) (pan : List PanicEntry → World → Prop) (e : Env) (w : World), vcOps Tryd.prog r5_11 K pan e w = vcOps Tryd.prog [.op (.mov 4 (.const (.bool false))) none, .keep [4]] K pan e w) ∧
  (∀ (K : Env → World → Prop) (pan : List PanicEntry → World → Prop) (e : Env) (w : World), vcOps Tryd.prog r5_12 K pan e w = vcOps Tryd.prog [.op (.mov 8 (.const (.int .i64 0))) none, .keep [0, 1, 5, 6, 7, 8]] K pan e w) ∧
  (∀ (K : Env → World → Prop) (pan : List PanicEntry → World → Prop) (e : Env) (w : World), vcOps Tryd.prog r5_13 K pan e w = vcOps Tryd.prog [.op (.mov 64 (.tmp 8)) none, .op (.mov 65 (.tmp 1)) none, .op (.mov 66 (.tmp 7)) none, .op (.iaddrL 67 1 (.tmp 65) (.tmp 66)) none, .op (.load 68 (.tmp 67)) none, .op (.ari 69 .rem .u8 (.tmp 68) (.const (.int .u8 4))) none, .op (.conv 70 .i64 (.tmp 69)) none, .op (.ari 71 .lss .i64 (.tmp 64) (.tmp 70)) none, .keep [0, 1, 5, 6, 7, 8, 71]] K pan e w) ∧
  (∀ (K : Env → World → Prop) (pan : List PanicEntry → World → Prop) (e : Env) (w : World), vcOps Tryd.prog r5_15 K pan e w = vcOps Tryd.prog [.op (.mov 75 (.tmp 5)) none, .op (.call (some 76) 15 [(.tmp 75)]) none, .op (.mov 74 (.tmp 76)) none, .op (.ext 77 0 (.tmp 74)) none, .op (.ext 78 1 (.tmp 74)) none, .op (.mov 9 (.tmp 77)) none, .op (.mov 10 (.tmp 78)) none, .keep [0, 1, 5, 6, 7, 8, 9, 10]] K pan e w) ∧
  (∀ (K : Env → World → Prop) (pan : List PanicEntry → World → Prop) (e : Env) (w : World), vcOps Tryd.prog r5_16 K pan e w = vcOps Tryd.prog [.op (.mov 79 (.tmp 10)) none, .op (.mov 80 (.tmp 6)) none, .op (.nilCheck 81 (.tmp 80)) none, .op (.faddr 82 1 (.tmp 81)) none, .op (.load 83 (.tmp 82)) none, .op (.lenL 84 (.tmp 83)) none, .op (.ari 85 .gtr .i64 (.tmp 84) (.const (.int .i64 0))) none, .op (.beq 86 true (.tmp 79) (.tmp 85)) none, .op (.mov 87 (.tmp 86)) none, .op (.mov 88 (.tmp 10)) (some (87, false)), .op (.mov 89 (.tmp 88)) (some (87, false)), .op (.mov 90 (.tmp 9)) (some (89, true)), .op (.mov 91 (.tmp 6)) (some (89, true)), .op (.nilCheck 92 (.tmp 91)) (some (89, true)), .op (.faddr 93 1 (.tmp 92)) (some (89, true)), .op (.load 94 (.tmp 93)) (some (89, true)), .op (.iaddrL 95 1 (.tmp 94) (.const (.int .i64 0))) (some (89, true)), .op (.load 96 (.tmp 95)) (some (89, true)), .op (.sop 97 .neq (.tmp 90) (.tmp 96)) (some (89, true)), .op (.pick 98 (.tmp 89) (.tmp 97) (.const (.bool false))) (some (87, false)), .op (.pick 99 (.tmp 87) (.const (.bool true)) (.tmp 98)) none, .keep [0, 1, 5, 6, 7, 8, 10, 99]] K pan e w) ∧
  (∀ (K : Env → World → Prop) (pan : List PanicEntry → World → Prop) (e : Env) (w : World), vcOps Tryd.prog r5_17 K pan e w = vcOps Tryd.prog [.op (.mov 4 (.const (.bool false))) none, .keep [4]] K pan e w) ∧
  (∀ (K : Env → World → Prop) (pan : List PanicEntry → World → Prop) (e : Env) (w : World), vcOps Tryd.prog r5_18 K pan e w = vcOps Tryd.prog [.op (.mov 100 (.tmp 10)) none, .keep [0, 1, 5, 6, 7, 8, 100]] K pan e w) ∧
  (∀ (K : Env → World → Prop) (pan : List PanicEntry → World → Prop) (e : Env) (w : World), vcOps Tryd.prog r5_19 K pan e w = vcOps Tryd.prog [.op (.mov 101 (.tmp 6)) none, .op (.mov 102 (.tmp 6)) none, .op (.nilCheck 103 (.tmp 102)) none, .op (.faddr 104 1 (.tmp 103)) none, .op (.load 105 (.tmp 104)) none, .op (.sliceL 106 1 (.tmp 105) (some (.const (.int .i64 1))) none none) none, .op (.nilCheck 107 (.tmp 101)) none, .op (.faddr 108 1 (.tmp 107)) none, .op (.store (.tmp 108) (.tmp 106)) none, .keep [0, 1, 5, 6, 7, 8]] K pan e w) ∧
  (∀ (K : Env → World → Prop) (pan : List PanicEntry → World → Prop) (e : Env) (w : World), vcOps Tryd.prog r5_20 K pan e w = vcOps Tryd.prog [.op (.mov 109 (.tmp 5)) none, .op (.call (some 110) 16 [(.tmp 109)]) none, .op (.mov 111 (.tmp 6)) none, .op (.call (some 112) 18 [(.tmp 111)]) none, .op (.ari 113 .neq .i64 (.tmp 110) (.tmp 112)) none, .keep [0, 1, 5, 6, 7, 8, 113]] K pan e w) ∧
  (∀ (K : Env → World → Prop) (pan : List PanicEntry → World → Prop) (e : Env) (w : World), vcOps Tryd.prog r5_21 K pan e w = vcOps Tryd.prog [.op (.mov 4 (.const (.bool false))) none, .keep [4]] K pan e w) ∧
  (∀ (K : Env → World → Prop) (pan : List PanicEntry → World → Prop) (e : Env) (w : World), vcOps Tryd.prog r5_14 K pan e w = vcOps Tryd.prog [.op (.mov 72 (.tmp 8)) none, .op (.ari 73 .add .i64 (.tmp 72) (.const (.int .i64 1))) none, .op (.mov 8 (.tmp 73)) none, .keep [0, 1, 5, 6, 7, 8]] K pan e w) ∧
  (∀ (K : Env → World → Prop) (pan : List PanicEntry → World → Prop) (e : Env) (w : World), vcOps Tryd.prog r5_7 K pan e w = vcOps Tryd.prog [.op (.mov 36 (.tmp 7)) none, .op (.ari 37 .add .i64 (.tmp 36) (.const (.int .i64 1))) none, .op (.mov 7 (.tmp 37)) none, .keep [0, 1, 5, 6, 7]] K pan e w) ∧
  (∀ (K : Env → World → Prop) (pan : List PanicEntry → World → Prop) (e : Env) (w : World), vcOps Tryd.prog r5_22 K pan e w = vcOps Tryd.prog [.op (.mov 11 (.const (.pointer none))) none, .keep [11]] K pan e w) ∧
  (∀ (K : Env → World → Prop) (pan : List PanicEntry → World → Prop) (e : Env) (w : World), vcOps Tryd.prog r5_23 K pan e w = vcOps Tryd.prog [.op (.mov 115 (.tmp 11)) none, .op (.call (some 116) 15 [(.tmp 115)]) none, .op (.mov 114 (.tmp 116)) none, .op (.ext 117 0 (.tmp 114)) none, .op (.ext 118 1 (.tmp 114)) none, .op (.mov 12 (.tmp 117)) none, .op (.mov 13 (.tmp 118)) none, .keep [11, 13]] K pan e w) ∧
  (∀ (K : Env → World → Prop) (pan : List PanicEntry → World → Prop) (e : Env) (w : World), vcOps Tryd.prog r5_24 K pan e w = vcOps Tryd.prog [.op (.mov 119 (.tmp 11)) none, .op (.call (some 120) 14 [(.tmp 119), (.const (.string { data := #[120] }))]) none, .op (.ari 121 .eql .i64 (.tmp 120) (.const (.int .i64 1))) none, .op (.mov 122 (.tmp 121)) none, .op (.mov 123 (.tmp 13)) (some (122, true)), .op (.not 124 (.tmp 123)) (some (122, true)), .op (.pick 125 (.tmp 122) (.tmp 124) (.const (.bool false))) none, .op (.mov 126 (.tmp 125)) none, .op (.mov 127 (.tmp 11)) (some (126, true)), .op (.call (some 128) 16 [(.tmp 127)]) (some (126, true)), .op (.ari 129 .eql .i64 (.tmp 128) (.const (.int .i64 0))) (some (126, true)), .op (.pick 130 (.tmp 126) (.tmp 129) (.const (.bool false))) none, .op (.mov 4 (.tmp 130)) none, .keep [4]] K pan e w) := ⟨fun _ _ _ _ => rfl, fun _ _ _ _ => rfl, fun _ _ _ _ => rfl, fun _ _ _ _ => rfl, fun _ _ _ _ => rfl, fun _ _ _ _ => rfl, fun _ _ _ _ => rfl, fun _ _ _ _ => rfl, fun _ _ _ _ => rfl, fun _ _ _ _ _ => rfl, fun _ _ _ _ => rfl, fun _ _ _ _ => rfl, fun _ _ _ _ => rfl, fun _ _ _ _ => rfl, fun _ _ _ _ => rfl, fun _ _ _ _ => rfl, fun _ _ _ _ => rfl, fun _ _ _ _ => rfl, fun _ _ _ _ => rfl, fun _ _ _ _ => rfl, fun _ _ _ _ => rfl, fun _ _ _ _ => rfl, fun _ _ _ _ => rfl, fun _ _ _ _ => rfl, fun _ _ _ _ => rfl⟩
theorem low5 : Tryd.f5.body.bind (lowerC Tryd.prog 131 (fun i => List.lookup i [(10, .fin [(0, 0), (1, 0), (2, 0), (3, 0), (4, 0), (6, 0), (7, 0), (8, 0), (9, 0), (10, 1), (5, 2), (11, 0), (12, 0), (13, 0), (14, 0), (16, 0), (15, 0), (17, 0), (18, 0), (19, 0)])])) = some c5.erase := by kernel_rfl
theorem enter5 {args : List Value} {w : World} {R : Ending → World → Prop} (ha : args.length ≤ 131) (h : vc Tryd.prog c5 (endPost [.t 4] R) (argEnv 0 args) w) : Calls Tryd.prog 5 args.toArray w R :=
  calls_of_vc Tryd.func5 rfl low5 rfl ha h
/-- The code of aquatint/wire.NewBuffer. -/
def r13_0 : List G := [.op (.mov 0 (.const (.pointer none))) none,
  .keep []]
def r13_1 : List G := [.op (.build 1 60 []) none,
  .op (.box 2 60 (.tmp 1)) none,
  .op (.mov 0 (.tmp 2)) none,
  .keep [0]]
def c13 : C := (.seq (.region r13_0) (.seq (.region r13_1) .ret))
theorem x13 : (∀ (K : Env → World → Prop) (pan : List PanicEntry → World → Prop) (e : Env) (w : World), vcOps Tryd.prog r13_0 K pan e w = vcOps Tryd.prog [.op (.mov 0 (.const (.pointer none))) none, .keep []] K pan e w) ∧
  (∀ (K : Env → World → Prop) (pan : List PanicEntry → World → Prop) (e : Env) (w : World), vcOps Tryd.prog r13_1 K pan e w = vcOps Tryd.prog [.op (.build 1 60 []) none, .op (.box 2 60 (.tmp 1)) none, .op (.mov 0 (.tmp 2)) none, .keep [0]] K pan e w) := ⟨fun _ _ _ _ => rfl, fun _ _ _ _ => rfl⟩
theorem low13 : Tryd.f13.body.bind (lowerC Tryd.prog 3 (fun _ => none)) = some c13.erase := by kernel_rfl
theorem enter13 {args : List Value} {w : World} {R : Ending → World → Prop} (ha : args.length ≤ 3) (h : vc Tryd.prog c13 (endPost [.t 0] R) (argEnv 0 args) w) : Calls Tryd.prog 13 args.toArray w R :=
  calls_of_vc Tryd.func13 rfl low13 rfl ha h
/-- The code of (*aquatint/wire.Buffer).Give. -/
def r14_0 : List G := [.op (.mov 4 (.const (.int .i64 0))) none,
  .keep [0, 1]]
def r14_1 : List G := [.op (.mov 8 (.tmp 0)) none,
  .op (.nilq 9 false (.tmp 8)) none,
  .op (.mov 7 (.tmp 9)) none,
  .keep [0, 1, 7]]
def r14_2 : List G := [.op (.mov 4 (.const (.int .i64 1))) none,
  .keep [4]]
def r14_3 : List G := [.op (.mov 11 (.tmp 0)) none,
  .op (.nilCheck 12 (.tmp 11)) none,
  .op (.faddr 13 2 (.tmp 12)) none,
  .op (.load 14 (.tmp 13)) none,
  .op (.mov 10 (.tmp 14)) none,
  .keep [0, 1, 10]]
def r14_4 : List G := [.op (.mov 4 (.const (.int .i64 20))) none,
  .keep [4]]
def r14_5 : List G := [.op (.mov 15 (.tmp 0)) none,
  .op (.nilCheck 16 (.tmp 15)) none,
  .op (.faddr 17 0 (.tmp 16)) none,
  .op (.load 18 (.tmp 17)) none,
  .op (.mov 19 (.tmp 1)) none,
  .op (.sop 20 .add (.tmp 18) (.tmp 19)) none,
  .op (.nilCheck 21 (.tmp 15)) none,
  .op (.faddr 22 0 (.tmp 21)) none,
  .op (.store (.tmp 22) (.tmp 20)) none,
  .keep [0]]
def r14_6 : List G := [.op (.mov 24 (.tmp 0)) none,
  .op (.mov 25 (.tmp 0)) none,
  .op (.nilCheck 26 (.tmp 25)) none,
  .op (.faddr 27 1 (.tmp 26)) none,
  .op (.load 28 (.tmp 27)) none,
  .op (.call (some 29) 25 [(.tmp 24), (.tmp 28)]) none,
  .op (.mov 23 (.tmp 29)) none,
  .op (.ext 30 0 (.tmp 23)) none,
  .op (.ext 31 1 (.tmp 23)) none,
  .op (.mov 5 (.tmp 30)) none,
  .op (.mov 6 (.tmp 31)) none,
  .keep [0, 5, 6]]
def r14_7 : List G := [.op (.mov 33 (.tmp 6)) none,
  .op (.mov 34 (.tmp 33)) none,
  .op (.mov 35 (.tmp 5)) (some (34, true)),
  .op (.ari 36 .gtr .i64 (.tmp 35) (.const (.int .i64 16781316))) (some (34, true)),
  .op (.pick 37 (.tmp 34) (.tmp 36) (.const (.bool false))) none,
  .op (.mov 32 (.tmp 37)) none,
  .keep [0, 5, 6, 32]]
def r14_8 : List G := [.op (.mov 38 (.tmp 0)) none,
  .op (.nilCheck 39 (.tmp 38)) none,
  .op (.faddr 40 2 (.tmp 39)) none,
  .op (.store (.tmp 40) (.const (.bool true))) none,
  .keep []]
def r14_9 : List G := [.op (.mov 4 (.const (.int .i64 11))) none,
  .keep [4]]
def r14_10 : List G := [.op (.mov 42 (.tmp 6)) none,
  .op (.not 43 (.tmp 42)) none,
  .op (.mov 44 (.tmp 43)) none,
  .op (.mov 45 (.tmp 5)) (some (44, false)),
  .op (.mov 46 (.tmp 0)) (some (44, false)),
  .op (.nilCheck 47 (.tmp 46)) (some (44, false)),
  .op (.faddr 48 0 (.tmp 47)) (some (44, false)),
  .op (.load 49 (.tmp 48)) (some (44, false)),
  .op (.lenS 50 (.tmp 49)) (some (44, false)),
  .op (.mov 51 (.tmp 0)) (some (44, false)),
  .op (.nilCheck 52 (.tmp 51)) (some (44, false)),
  .op (.faddr 53 1 (.tmp 52)) (some (44, false)),
  .op (.load 54 (.tmp 53)) (some (44, false)),
  .op (.ari 55 .sub .i64 (.tmp 50) (.tmp 54)) (some (44, false)),
  .op (.ari 56 .gtr .i64 (.tmp 45) (.tmp 55)) (some (44, false)),
  .op (.pick 57 (.tmp 44) (.const (.bool true)) (.tmp 56)) none,
  .op (.mov 41 (.tmp 57)) none,
  .keep [0, 5, 41]]
def r14_11 : List G := [.op (.mov 4 (.const (.int .i64 0))) none,
  .keep [4]]
def r14_12 : List G := [.op (.mov 58 (.tmp 0)) none,
  .op (.nilCheck 59 (.tmp 58)) none,
  .op (.faddr 60 1 (.tmp 59)) none,
  .op (.load 61 (.tmp 60)) none,
  .op (.mov 62 (.tmp 5)) none,
  .op (.ari 63 .add .i64 (.tmp 61) (.tmp 62)) none,
  .op (.nilCheck 64 (.tmp 58)) none,
  .op (.faddr 65 1 (.tmp 64)) none,
  .op (.store (.tmp 65) (.tmp 63)) none,
  .keep [0]]
def c14 : C := (.seq (.region r14_0) (.seq (.block 0 (.seq (.region r14_1) (.cond (.tmp 7) (.seq (.region r14_2) .ret) (.seq (.region r14_3) (.cond (.tmp 10) (.seq (.region r14_4) .ret) .skip))))) (.seq (.region r14_5) (.block 1 (.loop (.block 2 (.seq (.region r14_6) (.seq (.block 3 (.seq (.region r14_7) (.cond (.tmp 32) (.seq (.region r14_8) (.seq (.region r14_9) .ret)) (.seq (.regionD r14_10) (.cond (.tmp 41) (.seq (.region r14_11) .ret) .skip))))) (.region r14_12)))))))))
theorem x14 : (∀ (K : Env → World → Prop) (pan : List PanicEntry → World → Prop) (e : Env) (w : World), vcOps Tryd.prog r14_0 K pan e w = vcOps Tryd.prog [.op (.mov 4 (.const (.int .i64 0))) none, .keep [0, 1]] K pan e w) ∧
  (∀ (K : Env → World → Prop) (pan : List PanicEntry → World → Prop) (e : Env) (w : World), vcOps Tryd.prog r14_1 K pan e w = vcOps Tryd.prog [.op (.mov 8 (.tmp 0)) none, .op (.nilq 9 false (.tmp 8)) none, .op (.mov 7 (.tmp 9)) none, .keep [0, 1, 7]] K pan e w) ∧
  (∀ (K : Env → World → Prop) (pan : List PanicEntry → World → Prop) (e : Env) (w : World), vcOps Tryd.prog r14_2 K pan e w = vcOps Tryd.prog [.op (.mov 4 (.const (.int .i64 1))) none, .keep [4]] K pan e w) ∧
  (∀ (K : Env → World → Prop) (pan : List PanicEntry → World → Prop) (e : Env) (w : World), vcOps Tryd.prog r14_3 K pan e w = vcOps Tryd.prog [.op (.mov 11 (.tmp 0)) none, .op (.nilCheck 12 (.tmp 11)) none, .op (.faddr 13 2 (.tmp 12)) none, .op (.load 14 (.tmp 13)) none, .op (.mov 10 (.tmp 14)) none, .keep [0, 1, 10]] K pan e w) ∧
  (∀ (K : Env → World → Prop) (pan : List PanicEntry → World → Prop) (e : Env) (w : World), vcOps Tryd.prog r14_4 K pan e w = vcOps Tryd.prog [.op (.mov 4 (.const (.int .i64 20))) none, .keep [4]] K pan e w) ∧
  (∀ (K : Env → World → Prop) (pan : List PanicEntry → World → Prop) (e : Env) (w : World), vcOps Tryd.prog r14_5 K pan e w = vcOps Tryd.prog [.op (.mov 15 (.tmp 0)) none, .op (.nilCheck 16 (.tmp 15)) none, .op (.faddr 17 0 (.tmp 16)) none, .op (.load 18 (.tmp 17)) none, .op (.mov 19 (.tmp 1)) none, .op (.sop 20 .add (.tmp 18) (.tmp 19)) none, .op (.nilCheck 21 (.tmp 15)) none, .op (.faddr 22 0 (.tmp 21)) none, .op (.store (.tmp 22) (.tmp 20)) none, .keep [0]] K pan e w) ∧
  (∀ (K : Env → World → Prop) (pan : List PanicEntry → World → Prop) (e : Env) (w : World), vcOps Tryd.prog r14_6 K pan e w = vcOps Tryd.prog [.op (.mov 24 (.tmp 0)) none, .op (.mov 25 (.tmp 0)) none, .op (.nilCheck 26 (.tmp 25)) none, .op (.faddr 27 1 (.tmp 26)) none, .op (.load 28 (.tmp 27)) none, .op (.call (some 29) 25 [(.tmp 24), (.tmp 28)]) none, .op (.mov 23 (.tmp 29)) none, .op (.ext 30 0 (.tmp 23)) none, .op (.ext 31 1 (.tmp 23)) none, .op (.mov 5 (.tmp 30)) none, .op (.mov 6 (.tmp 31)) none, .keep [0, 5, 6]] K pan e w) ∧
  (∀ (K : Env → World → Prop) (pan : List PanicEntry → World → Prop) (e : Env) (w : World), vcOps Tryd.prog r14_7 K pan e w = vcOps Tryd.prog [.op (.mov 33 (.tmp 6)) none, .op (.mov 34 (.tmp 33)) none, .op (.mov 35 (.tmp 5)) (some (34, true)), .op (.ari 36 .gtr .i64 (.tmp 35) (.const (.int .i64 16781316))) (some (34, true)), .op (.pick 37 (.tmp 34) (.tmp 36) (.const (.bool false))) none, .op (.mov 32 (.tmp 37)) none, .keep [0, 5, 6, 32]] K pan e w) ∧
  (∀ (K : Env → World → Prop) (pan : List PanicEntry → World → Prop) (e : Env) (w : World), vcOps Tryd.prog r14_8 K pan e w = vcOps Tryd.prog [.op (.mov 38 (.tmp 0)) none, .op (.nilCheck 39 (.tmp 38)) none, .op (.faddr 40 2 (.tmp 39)) none, .op (.store (.tmp 40) (.const (.bool true))) none, .keep []] K pan e w) ∧
  (∀ (K : Env → World → Prop) (pan : List PanicEntry → World → Prop) (e : Env) (w : World), vcOps Tryd.prog r14_9 K pan e w = vcOps Tryd.prog [.op (.mov 4 (.const (.int .i64 11))) none, .keep [4]] K pan e w) ∧
  (∀ (K : Env → World → Prop) (pan : List PanicEntry → World → Prop) (e : Env) (w : World), vcOps Tryd.prog r14_10 K pan e w = vcOps Tryd.prog [.op (.mov 42 (.tmp 6)) none, .op (.not 43 (.tmp 42)) none, .op (.mov 44 (.tmp 43)) none, .op (.mov 45 (.tmp 5)) (some (44, false)), .op (.mov 46 (.tmp 0)) (some (44, false)), .op (.nilCheck 47 (.tmp 46)) (some (44, false)), .op (.faddr 48 0 (.tmp 47)) (some (44, false)), .op (.load 49 (.tmp 48)) (some (44, false)), .op (.lenS 50 (.tmp 49)) (some (44, false)), .op (.mov 51 (.tmp 0)) (some (44, false)), .op (.nilCheck 52 (.tmp 51)) (some (44, false)), .op (.faddr 53 1 (.tmp 52)) (some (44, false)), .op (.load 54 (.tmp 53)) (some (44, false)), .op (.ari 55 .sub .i64 (.tmp 50) (.tmp 54)) (some (44, false)), .op (.ari 56 .gtr .i64 (.tmp 45) (.tmp 55)) (some (44, false)), .op (.pick 57 (.tmp 44) (.const (.bool true)) (.tmp 56)) none, .op (.mov 41 (.tmp 57)) none, .keep [0, 5, 41]] K pan e w) ∧
  (∀ (K : Env → World → Prop) (pan : List PanicEntry → World → Prop) (e : Env) (w : World), vcOps Tryd.prog r14_11 K pan e w = vcOps Tryd.prog [.op (.mov 4 (.const (.int .i64 0))) none, .keep [4]] K pan e w) ∧
  (∀ (K : Env → World → Prop) (pan : List PanicEntry → World → Prop) (e : Env) (w : World), vcOps Tryd.prog r14_12 K pan e w = vcOps Tryd.prog [.op (.mov 58 (.tmp 0)) none, .op (.nilCheck 59 (.tmp 58)) none, .op (.faddr 60 1 (.tmp 59)) none, .op (.load 61 (.tmp 60)) none, .op (.mov 62 (.tmp 5)) none, .op (.ari 63 .add .i64 (.tmp 61) (.tmp 62)) none, .op (.nilCheck 64 (.tmp 58)) none, .op (.faddr 65 1 (.tmp 64)) none, .op (.store (.tmp 65) (.tmp 63)) none, .keep [0]] K pan e w) := ⟨fun _ _ _ _ => rfl, fun _ _ _ _ => rfl, fun _ _ _ _ => rfl, fun _ _ _ _ => rfl, fun _ _ _ _ => rfl, fun _ _ _ _ => rfl, fun _ _ _ _ => rfl, fun _ _ _ _ => rfl, fun _ _ _ _ => rfl, fun _ _ _ _ => rfl, fun _ _ _ _ => rfl, fun _ _ _ _ => rfl, fun _ _ _ _ => rfl⟩
theorem low14 : Tryd.f14.body.bind (lowerC Tryd.prog 66 (fun i => List.lookup i [(10, .fin [(0, 0), (1, 0), (2, 0), (3, 0), (4, 0), (5, 0), (6, 0), (7, 0), (8, 0), (9, 0), (10, 0), (11, 0), (12, 0), (13, 0), (14, 0), (15, 0), (16, 0)])])) = some c14.erase := by kernel_rfl
theorem enter14 {args : List Value} {w : World} {R : Ending → World → Prop} (ha : args.length ≤ 66) (h : vc Tryd.prog c14 (endPost [.t 4] R) (argEnv 0 args) w) : Calls Tryd.prog 14 args.toArray w R :=
  calls_of_vc Tryd.func14 rfl low14 rfl ha h
/-- The code of (*aquatint/wire.Buffer).Next. -/
def r15_0 : List G := [.op (.mov 2 (.const (.string { data := #[] }))) none,
  .op (.mov 3 (.const (.bool false))) none,
  .keep [0]]
def r15_1 : List G := [.op (.mov 7 (.tmp 0)) none,
  .op (.nilq 8 false (.tmp 7)) none,
  .op (.mov 9 (.tmp 8)) none,
  .op (.mov 10 (.tmp 0)) (some (9, false)),
  .op (.nilCheck 11 (.tmp 10)) (some (9, false)),
  .op (.faddr 12 1 (.tmp 11)) (some (9, false)),
  .op (.load 13 (.tmp 12)) (some (9, false)),
  .op (.ari 14 .eql .i64 (.tmp 13) (.const (.int .i64 0))) (some (9, false)),
  .op (.pick 15 (.tmp 9) (.const (.bool true)) (.tmp 14)) none,
  .keep [0, 15]]
def r15_2 : List G := [.op (.mov 2 (.const (.string { data := #[] }))) none,
  .op (.mov 3 (.const (.bool false))) none,
  .keep [2, 3]]
def r15_3 : List G := [.op (.mov 17 (.tmp 0)) none,
  .op (.call (some 18) 25 [(.tmp 17), (.const (.int .i64 0))]) none,
  .op (.mov 16 (.tmp 18)) none,
  .op (.ext 19 0 (.tmp 16)) none,
  .op (.ext 20 1 (.tmp 16)) none,
  .op (.mov 4 (.tmp 19)) none,
  .op (.mov 5 (.tmp 20)) none,
  .keep [0, 4]]
def r15_4 : List G := [.op (.mov 21 (.tmp 0)) none,
  .op (.nilCheck 22 (.tmp 21)) none,
  .op (.faddr 23 0 (.tmp 22)) none,
  .op (.load 24 (.tmp 23)) none,
  .op (.mov 25 (.tmp 4)) none,
  .op (.sliceS 26 (.tmp 24) (some (.const (.int .i64 4))) (some (.tmp 25))) none,
  .op (.mov 6 (.tmp 26)) none,
  .keep [0, 4, 6]]
def r15_5 : List G := [.op (.mov 27 (.tmp 0)) none,
  .op (.mov 28 (.tmp 0)) none,
  .op (.mov 29 (.tmp 0)) none,
  .op (.nilCheck 30 (.tmp 29)) none,
  .op (.faddr 31 0 (.tmp 30)) none,
  .op (.load 32 (.tmp 31)) none,
  .op (.mov 33 (.tmp 4)) none,
  .op (.sliceS 34 (.tmp 32) (some (.tmp 33)) none) none,
  .op (.mov 35 (.tmp 0)) none,
  .op (.nilCheck 36 (.tmp 35)) none,
  .op (.faddr 37 1 (.tmp 36)) none,
  .op (.load 38 (.tmp 37)) none,
  .op (.mov 39 (.tmp 4)) none,
  .op (.ari 40 .sub .i64 (.tmp 38) (.tmp 39)) none,
  .op (.nilCheck 41 (.tmp 27)) none,
  .op (.faddr 42 0 (.tmp 41)) none,
  .op (.store (.tmp 42) (.tmp 34)) none,
  .op (.nilCheck 43 (.tmp 28)) none,
  .op (.faddr 44 1 (.tmp 43)) none,
  .op (.store (.tmp 44) (.tmp 40)) none,
  .keep [6]]
def r15_6 : List G := [.op (.mov 45 (.tmp 6)) none,
  .op (.mov 2 (.tmp 45)) none,
  .op (.mov 3 (.const (.bool true))) none,
  .keep [2, 3]]
def c15 : C := (.seq (.region r15_0) (.seq (.seq (.region r15_1) (.cond (.tmp 15) (.seq (.region r15_2) .ret) .skip)) (.seq (.region r15_3) (.seq (.region r15_4) (.seq (.regionD r15_5) (.seq (.region r15_6) .ret))))))
theorem x15 : (∀ (K : Env → World → Prop) (pan : List PanicEntry → World → Prop) (e : Env) (w : World), vcOps Tryd.prog r15_0 K pan e w = vcOps Tryd.prog [.op (.mov 2 (.const (.string { data := #[] }))) none, .op (.mov 3 (.const (.bool false))) none, .keep [0]] K pan e w) ∧
  (∀ (K : Env → World → Prop) (pan : List PanicEntry → World → Prop) (e : Env) (w : World), vcOps Tryd.prog r15_1 K pan e w = vcOps Tryd.prog [.op (.mov 7 (.tmp 0)) none, .op (.nilq 8 false (.tmp 7)) none, .op (.mov 9 (.tmp 8)) none, .op (.mov 10 (.tmp 0)) (some (9, false)), .op (.nilCheck 11 (.tmp 10)) (some (9, false)), .op (.faddr 12 1 (.tmp 11)) (some (9, false)), .op (.load 13 (.tmp 12)) (some (9, false)), .op (.ari 14 .eql .i64 (.tmp 13) (.const (.int .i64 0))) (some (9, false)), .op (.pick 15 (.tmp 9) (.const (.bool true)) (.tmp 14)) none, .keep [0, 15]] K pan e w) ∧
  (∀ (K : Env → World → Prop) (pan : List PanicEntry → World → Prop) (e : Env) (w : World), vcOps Tryd.prog r15_2 K pan e w = vcOps Tryd.prog [.op (.mov 2 (.const (.string { data := #[] }))) none, .op (.mov 3 (.const (.bool false))) none, .keep [2, 3]] K pan e w) ∧
  (∀ (K : Env → World → Prop) (pan : List PanicEntry → World → Prop) (e : Env) (w : World), vcOps Tryd.prog r15_3 K pan e w = vcOps Tryd.prog [.op (.mov 17 (.tmp 0)) none, .op (.call (some 18) 25 [(.tmp 17), (.const (.int .i64 0))]) none, .op (.mov 16 (.tmp 18)) none, .op (.ext 19 0 (.tmp 16)) none, .op (.ext 20 1 (.tmp 16)) none, .op (.mov 4 (.tmp 19)) none, .op (.mov 5 (.tmp 20)) none, .keep [0, 4]] K pan e w) ∧
  (∀ (K : Env → World → Prop) (pan : List PanicEntry → World → Prop) (e : Env) (w : World), vcOps Tryd.prog r15_4 K pan e w = vcOps Tryd.prog [.op (.mov 21 (.tmp 0)) none, .op (.nilCheck 22 (.tmp 21)) none, .op (.faddr 23 0 (.tmp 22)) none, .op (.load 24 (.tmp 23)) none, .op (.mov 25 (.tmp 4)) none, .op (.sliceS 26 (.tmp 24) (some (.const (.int .i64 4))) (some (.tmp 25))) none, .op (.mov 6 (.tmp 26)) none, .keep [0, 4, 6]] K pan e w) ∧
  (∀ (K : Env → World → Prop) (pan : List PanicEntry → World → Prop) (e : Env) (w : World), vcOps Tryd.prog r15_5 K pan e w = vcOps Tryd.prog [.op (.mov 27 (.tmp 0)) none, .op (.mov 28 (.tmp 0)) none, .op (.mov 29 (.tmp 0)) none, .op (.nilCheck 30 (.tmp 29)) none, .op (.faddr 31 0 (.tmp 30)) none, .op (.load 32 (.tmp 31)) none, .op (.mov 33 (.tmp 4)) none, .op (.sliceS 34 (.tmp 32) (some (.tmp 33)) none) none, .op (.mov 35 (.tmp 0)) none, .op (.nilCheck 36 (.tmp 35)) none, .op (.faddr 37 1 (.tmp 36)) none, .op (.load 38 (.tmp 37)) none, .op (.mov 39 (.tmp 4)) none, .op (.ari 40 .sub .i64 (.tmp 38) (.tmp 39)) none, .op (.nilCheck 41 (.tmp 27)) none, .op (.faddr 42 0 (.tmp 41)) none, .op (.store (.tmp 42) (.tmp 34)) none, .op (.nilCheck 43 (.tmp 28)) none, .op (.faddr 44 1 (.tmp 43)) none, .op (.store (.tmp 44) (.tmp 40)) none, .keep [6]] K pan e w) ∧
  (∀ (K : Env → World → Prop) (pan : List PanicEntry → World → Prop) (e : Env) (w : World), vcOps Tryd.prog r15_6 K pan e w = vcOps Tryd.prog [.op (.mov 45 (.tmp 6)) none, .op (.mov 2 (.tmp 45)) none, .op (.mov 3 (.const (.bool true))) none, .keep [2, 3]] K pan e w) := ⟨fun _ _ _ _ => rfl, fun _ _ _ _ => rfl, fun _ _ _ _ => rfl, fun _ _ _ _ => rfl, fun _ _ _ _ => rfl, fun _ _ _ _ => rfl, fun _ _ _ _ => rfl⟩
theorem low15 : Tryd.f15.body.bind (lowerC Tryd.prog 46 (fun i => List.lookup i [(5, .fin [(0, 0), (1, 0), (2, 0), (3, 0), (4, 0), (5, 0), (6, 0), (7, 0), (8, 0), (9, 0), (10, 0), (11, 0), (12, 0), (13, 0), (14, 0), (15, 0), (16, 0), (17, 0), (18, 0), (19, 0)])])) = some c15.erase := by kernel_rfl
theorem enter15 {args : List Value} {w : World} {R : Ending → World → Prop} (ha : args.length ≤ 46) (h : vc Tryd.prog c15 (endPost [.t 2, .t 3] R) (argEnv 0 args) w) : Calls Tryd.prog 15 args.toArray w R :=
  calls_of_vc Tryd.func15 rfl low15 rfl ha h
/-- The code of (*aquatint/wire.Buffer).Left. -/
def r16_0 : List G := [.op (.mov 2 (.const (.int .i64 0))) none,
  .keep [0]]
def r16_1 : List G := [.op (.mov 3 (.tmp 0)) none,
  .op (.nilq 4 false (.tmp 3)) none,
  .keep [0, 4]]
def r16_2 : List G := [.op (.mov 2 (.const (.int .i64 0))) none,
  .keep [2]]
def r16_3 : List G := [.op (.mov 5 (.tmp 0)) none,
  .op (.nilCheck 6 (.tmp 5)) none,
  .op (.faddr 7 0 (.tmp 6)) none,
  .op (.load 8 (.tmp 7)) none,
  .op (.lenS 9 (.tmp 8)) none,
  .op (.mov 2 (.tmp 9)) none,
  .keep [2]]
def c16 : C := (.seq (.region r16_0) (.seq (.seq (.region r16_1) (.cond (.tmp 4) (.seq (.region r16_2) .ret) .skip)) (.seq (.region r16_3) .ret)))
theorem x16 : (∀ (K : Env → World → Prop) (pan : List PanicEntry → World → Prop) (e : Env) (w : World), vcOps Tryd.prog r16_0 K pan e w = vcOps Tryd.prog [.op (.mov 2 (.const (.int .i64 0))) none, .keep [0]] K pan e w) ∧
  (∀ (K : Env → World → Prop) (pan : List PanicEntry → World → Prop) (e : Env) (w : World), vcOps Tryd.prog r16_1 K pan e w = vcOps Tryd.prog [.op (.mov 3 (.tmp 0)) none, .op (.nilq 4 false (.tmp 3)) none, .keep [0, 4]] K pan e w) ∧
  (∀ (K : Env → World → Prop) (pan : List PanicEntry → World → Prop) (e : Env) (w : World), vcOps Tryd.prog r16_2 K pan e w = vcOps Tryd.prog [.op (.mov 2 (.const (.int .i64 0))) none, .keep [2]] K pan e w) ∧
  (∀ (K : Env → World → Prop) (pan : List PanicEntry → World → Prop) (e : Env) (w : World), vcOps Tryd.prog r16_3 K pan e w = vcOps Tryd.prog [.op (.mov 5 (.tmp 0)) none, .op (.nilCheck 6 (.tmp 5)) none, .op (.faddr 7 0 (.tmp 6)) none, .op (.load 8 (.tmp 7)) none, .op (.lenS 9 (.tmp 8)) none, .op (.mov 2 (.tmp 9)) none, .keep [2]] K pan e w) := ⟨fun _ _ _ _ => rfl, fun _ _ _ _ => rfl, fun _ _ _ _ => rfl, fun _ _ _ _ => rfl⟩
theorem low16 : Tryd.f16.body.bind (lowerC Tryd.prog 10 (fun _ => none)) = some c16.erase := by kernel_rfl
theorem enter16 {args : List Value} {w : World} {R : Ending → World → Prop} (ha : args.length ≤ 10) (h : vc Tryd.prog c16 (endPost [.t 2] R) (argEnv 0 args) w) : Calls Tryd.prog 16 args.toArray w R :=
  calls_of_vc Tryd.func16 rfl low16 rfl ha h
/-- The code of (*aquatint/aquatintref24.Buffer).Give. -/
def r17_0 : List G := [.op (.mov 4 (.const (.int .i64 0))) none,
  .keep [0, 1]]
def r17_1 : List G := [.op (.mov 6 (.tmp 0)) none,
  .op (.nilCheck 7 (.tmp 6)) none,
  .op (.faddr 8 2 (.tmp 7)) none,
  .op (.load 9 (.tmp 8)) none,
  .keep [0, 1, 9]]
def r17_2 : List G := [.op (.mov 4 (.const (.int .i64 20))) none,
  .keep [4]]
def r17_3 : List G := [.op (.mov 10 (.tmp 0)) none,
  .op (.mov 11 (.tmp 0)) none,
  .op (.nilCheck 12 (.tmp 11)) none,
  .op (.faddr 13 0 (.tmp 12)) none,
  .op (.load 14 (.tmp 13)) none,
  .op (.mov 15 (.tmp 1)) none,
  .op (.sop 16 .add (.tmp 14) (.tmp 15)) none,
  .op (.nilCheck 17 (.tmp 10)) none,
  .op (.faddr 18 0 (.tmp 17)) none,
  .op (.store (.tmp 18) (.tmp 16)) none,
  .keep [0]]
def r17_4 : List G := [.op (.mov 19 (.tmp 0)) none,
  .op (.nilCheck 20 (.tmp 19)) none,
  .op (.faddr 21 0 (.tmp 20)) none,
  .op (.load 22 (.tmp 21)) none,
  .op (.lenS 23 (.tmp 22)) none,
  .op (.ari 24 .geq .i64 (.tmp 23) (.const (.int .i64 4))) none,
  .keep [0, 24]]
def r17_5 : List G := [.op (.mov 25 (.tmp 0)) none,
  .op (.nilCheck 26 (.tmp 25)) none,
  .op (.faddr 27 0 (.tmp 26)) none,
  .op (.load 28 (.tmp 27)) none,
  .op (.sliceS 29 (.tmp 28) none (some (.const (.int .i64 4)))) none,
  .op (.call (some 30) 26 [(.tmp 29)]) none,
  .op (.mov 5 (.tmp 30)) none,
  .keep [0, 5]]
def r17_6 : List G := [.op (.mov 31 (.tmp 5)) none,
  .op (.ari 32 .gtr .i64 (.tmp 31) (.const (.int .i64 16781312))) none,
  .keep [0, 5, 32]]
def r17_7 : List G := [.op (.mov 33 (.tmp 0)) none,
  .op (.nilCheck 34 (.tmp 33)) none,
  .op (.faddr 35 2 (.tmp 34)) none,
  .op (.store (.tmp 35) (.const (.bool true))) none,
  .keep []]
def r17_8 : List G := [.op (.mov 4 (.const (.int .i64 11))) none,
  .keep [4]]
def r17_9 : List G := [.op (.mov 36 (.tmp 0)) none,
  .op (.nilCheck 37 (.tmp 36)) none,
  .op (.faddr 38 0 (.tmp 37)) none,
  .op (.load 39 (.tmp 38)) none,
  .op (.lenS 40 (.tmp 39)) none,
  .op (.ari 41 .sub .i64 (.tmp 40) (.const (.int .i64 4))) none,
  .op (.mov 42 (.tmp 5)) none,
  .op (.ari 43 .lss .i64 (.tmp 41) (.tmp 42)) none,
  .keep [0, 5, 43]]
def r17_10 : List (Nat × G) := [(0, .op (.mov 44 (.tmp 0)) none),
  (0, .op (.mov 45 (.tmp 0)) none),
  (0, .op (.nilCheck 46 (.tmp 45)) none),
  (0, .op (.faddr 47 1 (.tmp 46)) none),
  (1, .op (.load 48 (.tmp 47)) none),
  (0, .op (.mov 49 (.tmp 0)) none),
  (0, .op (.nilCheck 50 (.tmp 49)) none),
  (0, .op (.faddr 51 0 (.tmp 50)) none),
  (0, .op (.load 52 (.tmp 51)) none),
  (0, .op (.mov 53 (.tmp 5)) none),
  (0, .op (.ari 54 .add .i64 (.const (.int .i64 4)) (.tmp 53)) none),
  (0, .op (.sliceS 55 (.tmp 52) (some (.const (.int .i64 4))) (some (.tmp 54))) none),
  (2, .op (.bslice 56 9 1 1 [(0, 1, (.tmp 55))]) none),
  (0, .op (.append 57 9 1 16 (.tmp 48) (.tmp 56)) none),
  (0, .op (.nilCheck 58 (.tmp 44)) none),
  (0, .op (.faddr 59 1 (.tmp 58)) none),
  (0, .op (.store (.tmp 59) (.tmp 57)) none),
  (0, .keep [0, 5])]
def r17_11 : List G := [.op (.mov 60 (.tmp 0)) none,
  .op (.mov 61 (.tmp 0)) none,
  .op (.nilCheck 62 (.tmp 61)) none,
  .op (.faddr 63 0 (.tmp 62)) none,
  .op (.load 64 (.tmp 63)) none,
  .op (.mov 65 (.tmp 5)) none,
  .op (.ari 66 .add .i64 (.const (.int .i64 4)) (.tmp 65)) none,
  .op (.sliceS 67 (.tmp 64) (some (.tmp 66)) none) none,
  .op (.nilCheck 68 (.tmp 60)) none,
  .op (.faddr 69 0 (.tmp 68)) none,
  .op (.store (.tmp 69) (.tmp 67)) none,
  .keep [0]]
def r17_12 : List G := [.op (.mov 4 (.const (.int .i64 0))) none,
  .keep [4]]
def c17 : C := (.seq (.region r17_0) (.seq (.seq (.region r17_1) (.cond (.tmp 9) (.seq (.region r17_2) .ret) .skip)) (.seq (.region r17_3) (.seq (.block 0 (.loop (.seq (.seq (.region r17_4) (.cond (.tmp 24) .skip (.exit 0))) (.block 1 (.seq (.region r17_5) (.seq (.seq (.region r17_6) (.cond (.tmp 32) (.seq (.region r17_7) (.seq (.region r17_8) .ret)) .skip)) (.seq (.seq (.region r17_9) (.cond (.tmp 43) (.exit 0) .skip)) (.seq (.regionW r17_10) (.region r17_11))))))))) (.seq (.region r17_12) .ret)))))
theorem x17 : (∀ (K : Env → World → Prop) (pan : List PanicEntry → World → Prop) (e : Env) (w : World), vcOps Tryd.prog r17_0 K pan e w = vcOps Tryd.prog [.op (.mov 4 (.const (.int .i64 0))) none, .keep [0, 1]] K pan e w) ∧
  (∀ (K : Env → World → Prop) (pan : List PanicEntry → World → Prop) (e : Env) (w : World), vcOps Tryd.prog r17_1 K pan e w = vcOps Tryd.prog [.op (.mov 6 (.tmp 0)) none, .op (.nilCheck 7 (.tmp 6)) none, .op (.faddr 8 2 (.tmp 7)) none, .op (.load 9 (.tmp 8)) none, .keep [0, 1, 9]] K pan e w) ∧
  (∀ (K : Env → World → Prop) (pan : List PanicEntry → World → Prop) (e : Env) (w : World), vcOps Tryd.prog r17_2 K pan e w = vcOps Tryd.prog [.op (.mov 4 (.const (.int .i64 20))) none, .keep [4]] K pan e w) ∧
  (∀ (K : Env → World → Prop) (pan : List PanicEntry → World → Prop) (e : Env) (w : World), vcOps Tryd.prog r17_3 K pan e w = vcOps Tryd.prog [.op (.mov 10 (.tmp 0)) none, .op (.mov 11 (.tmp 0)) none, .op (.nilCheck 12 (.tmp 11)) none, .op (.faddr 13 0 (.tmp 12)) none, .op (.load 14 (.tmp 13)) none, .op (.mov 15 (.tmp 1)) none, .op (.sop 16 .add (.tmp 14) (.tmp 15)) none, .op (.nilCheck 17 (.tmp 10)) none, .op (.faddr 18 0 (.tmp 17)) none, .op (.store (.tmp 18) (.tmp 16)) none, .keep [0]] K pan e w) ∧
  (∀ (K : Env → World → Prop) (pan : List PanicEntry → World → Prop) (e : Env) (w : World), vcOps Tryd.prog r17_4 K pan e w = vcOps Tryd.prog [.op (.mov 19 (.tmp 0)) none, .op (.nilCheck 20 (.tmp 19)) none, .op (.faddr 21 0 (.tmp 20)) none, .op (.load 22 (.tmp 21)) none, .op (.lenS 23 (.tmp 22)) none, .op (.ari 24 .geq .i64 (.tmp 23) (.const (.int .i64 4))) none, .keep [0, 24]] K pan e w) ∧
  (∀ (K : Env → World → Prop) (pan : List PanicEntry → World → Prop) (e : Env) (w : World), vcOps Tryd.prog r17_5 K pan e w = vcOps Tryd.prog [.op (.mov 25 (.tmp 0)) none, .op (.nilCheck 26 (.tmp 25)) none, .op (.faddr 27 0 (.tmp 26)) none, .op (.load 28 (.tmp 27)) none, .op (.sliceS 29 (.tmp 28) none (some (.const (.int .i64 4)))) none, .op (.call (some 30) 26 [(.tmp 29)]) none, .op (.mov 5 (.tmp 30)) none, .keep [0, 5]] K pan e w) ∧
  (∀ (K : Env → World → Prop) (pan : List PanicEntry → World → Prop) (e : Env) (w : World), vcOps Tryd.prog r17_6 K pan e w = vcOps Tryd.prog [.op (.mov 31 (.tmp 5)) none, .op (.ari 32 .gtr .i64 (.tmp 31) (.const (.int .i64 16781312))) none, .keep [0, 5, 32]] K pan e w) ∧
  (∀ (K : Env → World → Prop) (pan : List PanicEntry → World → Prop) (e : Env) (w : World), vcOps Tryd.prog r17_7 K pan e w = vcOps Tryd.prog [.op (.mov 33 (.tmp 0)) none, .op (.nilCheck 34 (.tmp 33)) none, .op (.faddr 35 2 (.tmp 34)) none, .op (.store (.tmp 35) (.const (.bool true))) none, .keep []] K pan e w) ∧
  (∀ (K : Env → World → Prop) (pan : List PanicEntry → World → Prop) (e : Env) (w : World), vcOps Tryd.prog r17_8 K pan e w = vcOps Tryd.prog [.op (.mov 4 (.const (.int .i64 11))) none, .keep [4]] K pan e w) ∧
  (∀ (K : Env → World → Prop) (pan : List PanicEntry → World → Prop) (e : Env) (w : World), vcOps Tryd.prog r17_9 K pan e w = vcOps Tryd.prog [.op (.mov 36 (.tmp 0)) none, .op (.nilCheck 37 (.tmp 36)) none, .op (.faddr 38 0 (.tmp 37)) none, .op (.load 39 (.tmp 38)) none, .op (.lenS 40 (.tmp 39)) none, .op (.ari 41 .sub .i64 (.tmp 40) (.const (.int .i64 4))) none, .op (.mov 42 (.tmp 5)) none, .op (.ari 43 .lss .i64 (.tmp 41) (.tmp 42)) none, .keep [0, 5, 43]] K pan e w) ∧
  (∀ (W : World → Prop) (K : (World → Prop) → Env → World → Prop) (pan : List PanicEntry → World → Prop) (e : Env) (w : World), vcW Tryd.prog W r17_10 K pan e w = vcW Tryd.prog W [(0, .op (.mov 44 (.tmp 0)) none), (0, .op (.mov 45 (.tmp 0)) none), (0, .op (.nilCheck 46 (.tmp 45)) none), (0, .op (.faddr 47 1 (.tmp 46)) none), (1, .op (.load 48 (.tmp 47)) none), (0, .op (.mov 49 (.tmp 0)) none), (0, .op (.nilCheck 50 (.tmp 49)) none), (0, .op (.faddr 51 0 (.tmp 50)) none), (0, .op (.load 52 (.tmp 51)) none), (0, .op (.mov 53 (.tmp 5)) none), (0, .op (.ari 54 .add .i64 (.const (.int .i64 4)) (.tmp 53)) none), (0, .op (.sliceS 55 (.tmp 52) (some (.const (.int .i64 4))) (some (.tmp 54))) none), (2, .op (.bslice 56 9 1 1 [(0, 1, (.tmp 55))]) none), (0, .op (.append 57 9 1 16 (.tmp 48) (.tmp 56)) none), (0, .op (.nilCheck 58 (.tmp 44)) none), (0, .op (.faddr 59 1 (.tmp 58)) none), (0, .op (.store (.tmp 59) (.tmp 57)) none), (0, .keep [0, 5])] K pan e w) ∧
  (∀ (K : Env → World → Prop) (pan : List PanicEntry → World → Prop) (e : Env) (w : World), vcOps Tryd.prog r17_11 K pan e w = vcOps Tryd.prog [.op (.mov 60 (.tmp 0)) none, .op (.mov 61 (.tmp 0)) none, .op (.nilCheck 62 (.tmp 61)) none, .op (.faddr 63 0 (.tmp 62)) none, .op (.load 64 (.tmp 63)) none, .op (.mov 65 (.tmp 5)) none, .op (.ari 66 .add .i64 (.const (.int .i64 4)) (.tmp 65)) none, .op (.sliceS 67 (.tmp 64) (some (.tmp 66)) none) none, .op (.nilCheck 68 (.tmp 60)) none, .op (.faddr 69 0 (.tmp 68)) none, .op (.store (.tmp 69) (.tmp 67)) none, .keep [0]] K pan e w) ∧
  (∀ (K : Env → World → Prop) (pan : List PanicEntry → World → Prop) (e : Env) (w : World), vcOps Tryd.prog r17_12 K pan e w = vcOps Tryd.prog [.op (.mov 4 (.const (.int .i64 0))) none, .keep [4]] K pan e w) := ⟨fun _ _ _ _ => rfl, fun _ _ _ _ => rfl, fun _ _ _ _ => rfl, fun _ _ _ _ => rfl, fun _ _ _ _ => rfl, fun _ _ _ _ => rfl, fun _ _ _ _ => rfl, fun _ _ _ _ => rfl, fun _ _ _ _ => rfl, fun _ _ _ _ => rfl, fun _ _ _ _ _ => rfl, fun _ _ _ _ => rfl, fun _ _ _ _ => rfl⟩
theorem low17 : Tryd.f17.body.bind (lowerC Tryd.prog 70 (fun i => List.lookup i [(10, .fin [(0, 0), (1, 0), (2, 0), (3, 0), (4, 1), (5, 0), (6, 0), (7, 0), (8, 0), (9, 0), (10, 0), (11, 0), (12, 2), (13, 0), (14, 0), (15, 0), (16, 0)])])) = some c17.erase := by kernel_rfl
theorem enter17 {args : List Value} {w : World} {R : Ending → World → Prop} (ha : args.length ≤ 70) (h : vc Tryd.prog c17 (endPost [.t 4] R) (argEnv 0 args) w) : Calls Tryd.prog 17 args.toArray w R :=
  calls_of_vc Tryd.func17 rfl low17 rfl ha h
/-- The code of (*aquatint/aquatintref24.Buffer).Left. -/
def r18_0 : List G := [.op (.mov 2 (.const (.int .i64 0))) none,
  .keep [0]]
def r18_1 : List G := [.op (.mov 5 (.tmp 0)) none,
  .op (.nilCheck 6 (.tmp 5)) none,
  .op (.faddr 7 0 (.tmp 6)) none,
  .op (.load 8 (.tmp 7)) none,
  .op (.lenS 9 (.tmp 8)) none,
  .op (.mov 3 (.tmp 9)) none,
  .keep [0, 3]]
def r18_2 : List G := [.op (.mov 4 (.const (.int .i64 0))) none,
  .keep [0, 3, 4]]
def r18_3 : List G := [.op (.mov 10 (.tmp 4)) none,
  .op (.mov 11 (.tmp 0)) none,
  .op (.nilCheck 12 (.tmp 11)) none,
  .op (.faddr 13 1 (.tmp 12)) none,
  .op (.load 14 (.tmp 13)) none,
  .op (.lenL 15 (.tmp 14)) none,
  .op (.ari 16 .lss .i64 (.tmp 10) (.tmp 15)) none,
  .keep [0, 3, 4, 16]]
def r18_5 : List G := [.op (.mov 19 (.tmp 3)) none,
  .op (.ari 20 .add .i64 (.tmp 19) (.const (.int .i64 4))) none,
  .op (.mov 21 (.tmp 0)) none,
  .op (.nilCheck 22 (.tmp 21)) none,
  .op (.faddr 23 1 (.tmp 22)) none,
  .op (.load 24 (.tmp 23)) none,
  .op (.mov 25 (.tmp 4)) none,
  .op (.iaddrL 26 1 (.tmp 24) (.tmp 25)) none,
  .op (.load 27 (.tmp 26)) none,
  .op (.lenS 28 (.tmp 27)) none,
  .op (.ari 29 .add .i64 (.tmp 20) (.tmp 28)) none,
  .op (.mov 3 (.tmp 29)) none,
  .keep [0, 3, 4]]
def r18_4 : List G := [.op (.mov 17 (.tmp 4)) none,
  .op (.ari 18 .add .i64 (.tmp 17) (.const (.int .i64 1))) none,
  .op (.mov 4 (.tmp 18)) none,
  .keep [0, 3, 4]]
def r18_6 : List G := [.op (.mov 30 (.tmp 3)) none,
  .op (.mov 2 (.tmp 30)) none,
  .keep [2]]
def c18 : C := (.seq (.region r18_0) (.seq (.region r18_1) (.seq (.seq (.region r18_2) (.block 0 (.loop (.seq (.seq (.region r18_3) (.cond (.tmp 16) .skip (.exit 0))) (.seq (.block 1 (.region r18_5)) (.region r18_4)))))) (.seq (.region r18_6) .ret))))
theorem x18 : (∀ (K : Env → World → Prop) (pan : List PanicEntry → World → Prop) (e : Env) (w : World), vcOps Tryd.prog r18_0 K pan e w = vcOps Tryd.prog [.op (.mov 2 (.const (.int .i64 0))) none, .keep [0]] K pan e w) ∧
  (∀ (K : Env → World → Prop) (pan : List PanicEntry → World → Prop) (e : Env) (w : World), vcOps Tryd.prog r18_1 K pan e w = vcOps Tryd.prog [.op (.mov 5 (.tmp 0)) none, .op (.nilCheck 6 (.tmp 5)) none, .op (.faddr 7 0 (.tmp 6)) none, .op (.load 8 (.tmp 7)) none, .op (.lenS 9 (.tmp 8)) none, .op (.mov 3 (.tmp 9)) none, .keep [0, 3]] K pan e w) ∧
  (∀ (K : Env → World → Prop) (pan : List PanicEntry → World → Prop) (e : Env) (w : World), vcOps Tryd.prog r18_2 K pan e w = vcOps Tryd.prog [.op (.mov 4 (.const (.int .i64 0))) none, .keep [0, 3, 4]] K pan e w) ∧
  (∀ (K : Env → World → Prop) (pan : List PanicEntry → World → Prop) (e : Env) (w : World), vcOps Tryd.prog r18_3 K pan e w = vcOps Tryd.prog [.op (.mov 10 (.tmp 4)) none, .op (.mov 11 (.tmp 0)) none, .op (.nilCheck 12 (.tmp 11)) none, .op (.faddr 13 1 (.tmp 12)) none, .op (.load 14 (.tmp 13)) none, .op (.lenL 15 (.tmp 14)) none, .op (.ari 16 .lss .i64 (.tmp 10) (.tmp 15)) none, .keep [0, 3, 4, 16]] K pan e w) ∧
  (∀ (K : Env → World → Prop) (pan : List PanicEntry → World → Prop) (e : Env) (w : World), vcOps Tryd.prog r18_5 K pan e w = vcOps Tryd.prog [.op (.mov 19 (.tmp 3)) none, .op (.ari 20 .add .i64 (.tmp 19) (.const (.int .i64 4))) none, .op (.mov 21 (.tmp 0)) none, .op (.nilCheck 22 (.tmp 21)) none, .op (.faddr 23 1 (.tmp 22)) none, .op (.load 24 (.tmp 23)) none, .op (.mov 25 (.tmp 4)) none, .op (.iaddrL 26 1 (.tmp 24) (.tmp 25)) none, .op (.load 27 (.tmp 26)) none, .op (.lenS 28 (.tmp 27)) none, .op (.ari 29 .add .i64 (.tmp 20) (.tmp 28)) none, .op (.mov 3 (.tmp 29)) none, .keep [0, 3, 4]] K pan e w) ∧
  (∀ (K : Env → World → Prop) (pan : List PanicEntry → World → Prop) (e : Env) (w : World), vcOps Tryd.prog r18_4 K pan e w = vcOps Tryd.prog [.op (.mov 17 (.tmp 4)) none, .op (.ari 18 .add .i64 (.tmp 17) (.const (.int .i64 1))) none, .op (.mov 4 (.tmp 18)) none, .keep [0, 3, 4]] K pan e w) ∧
  (∀ (K : Env → World → Prop) (pan : List PanicEntry → World → Prop) (e : Env) (w : World), vcOps Tryd.prog r18_6 K pan e w = vcOps Tryd.prog [.op (.mov 30 (.tmp 3)) none, .op (.mov 2 (.tmp 30)) none, .keep [2]] K pan e w) := ⟨fun _ _ _ _ => rfl, fun _ _ _ _ => rfl, fun _ _ _ _ => rfl, fun _ _ _ _ => rfl, fun _ _ _ _ => rfl, fun _ _ _ _ => rfl, fun _ _ _ _ => rfl⟩
theorem low18 : Tryd.f18.body.bind (lowerC Tryd.prog 31 (fun _ => none)) = some c18.erase := by kernel_rfl
theorem enter18 {args : List Value} {w : World} {R : Ending → World → Prop} (ha : args.length ≤ 31) (h : vc Tryd.prog c18 (endPost [.t 2] R) (argEnv 0 args) w) : Calls Tryd.prog 18 args.toArray w R :=
  calls_of_vc Tryd.func18 rfl low18 rfl ha h
/-- The code of (*aquatint/wire.Buffer).frame. -/
def r25_0 : List G := [.op (.mov 4 (.const (.int .i64 0))) none,
  .op (.mov 5 (.const (.bool false))) none,
  .keep [0, 1]]
def r25_1 : List G := [.op (.mov 9 (.tmp 0)) none,
  .op (.nilCheck 10 (.tmp 9)) none,
  .op (.faddr 11 0 (.tmp 10)) none,
  .op (.load 12 (.tmp 11)) none,
  .op (.mov 13 (.tmp 1)) none,
  .op (.sliceS 14 (.tmp 12) (some (.tmp 13)) none) none,
  .op (.call (some 15) 34 [(.tmp 14)]) none,
  .op (.call (some 16) 35 [(.tmp 15), (.const (.int .i64 4))]) none,
  .op (.mov 8 (.tmp 16)) none,
  .op (.ext 17 0 (.tmp 8)) none,
  .op (.ext 18 1 (.tmp 8)) none,
  .op (.mov 6 (.tmp 17)) none,
  .op (.mov 7 (.tmp 18)) none,
  .keep [6, 7]]
def r25_2 : List G := [.op (.mov 19 (.tmp 6)) none,
  .op (.ari 20 .add .i64 (.tmp 19) (.const (.int .i64 4))) none,
  .op (.mov 21 (.tmp 7)) none,
  .op (.ari 22 .eql .i64 (.tmp 21) (.const (.int .i64 0))) none,
  .op (.mov 4 (.tmp 20)) none,
  .op (.mov 5 (.tmp 22)) none,
  .keep [4, 5]]
def c25 : C := (.seq (.region r25_0) (.seq (.region r25_1) (.seq (.region r25_2) .ret)))
theorem x25 : (∀ (K : Env → World → Prop) (pan : List PanicEntry → World → Prop) (e : Env) (w : World), vcOps Tryd.prog r25_0 K pan e w = vcOps Tryd.prog [.op (.mov 4 (.const (.int .i64 0))) none, .op (.mov 5 (.const (.bool false))) none, .keep [0, 1]] K pan e w) ∧
  (∀ (K : Env → World → Prop) (pan : List PanicEntry → World → Prop) (e : Env) (w : World), vcOps Tryd.prog r25_1 K pan e w = vcOps Tryd.prog [.op (.mov 9 (.tmp 0)) none, .op (.nilCheck 10 (.tmp 9)) none, .op (.faddr 11 0 (.tmp 10)) none, .op (.load 12 (.tmp 11)) none, .op (.mov 13 (.tmp 1)) none, .op (.sliceS 14 (.tmp 12) (some (.tmp 13)) none) none, .op (.call (some 15) 34 [(.tmp 14)]) none, .op (.call (some 16) 35 [(.tmp 15), (.const (.int .i64 4))]) none, .op (.mov 8 (.tmp 16)) none, .op (.ext 17 0 (.tmp 8)) none, .op (.ext 18 1 (.tmp 8)) none, .op (.mov 6 (.tmp 17)) none, .op (.mov 7 (.tmp 18)) none, .keep [6, 7]] K pan e w) ∧
  (∀ (K : Env → World → Prop) (pan : List PanicEntry → World → Prop) (e : Env) (w : World), vcOps Tryd.prog r25_2 K pan e w = vcOps Tryd.prog [.op (.mov 19 (.tmp 6)) none, .op (.ari 20 .add .i64 (.tmp 19) (.const (.int .i64 4))) none, .op (.mov 21 (.tmp 7)) none, .op (.ari 22 .eql .i64 (.tmp 21) (.const (.int .i64 0))) none, .op (.mov 4 (.tmp 20)) none, .op (.mov 5 (.tmp 22)) none, .keep [4, 5]] K pan e w) := ⟨fun _ _ _ _ => rfl, fun _ _ _ _ => rfl, fun _ _ _ _ => rfl⟩
theorem low25 : Tryd.f25.body.bind (lowerC Tryd.prog 23 (fun _ => none)) = some c25.erase := by kernel_rfl
theorem enter25 {args : List Value} {w : World} {R : Ending → World → Prop} (ha : args.length ≤ 23) (h : vc Tryd.prog c25 (endPost [.t 4, .t 5] R) (argEnv 0 args) w) : Calls Tryd.prog 25 args.toArray w R :=
  calls_of_vc Tryd.func25 rfl low25 rfl ha h
/-- The code of aquatint/aquatintref02.Num. -/
def r26_0 : List G := [.op (.mov 2 (.const (.int .i64 0))) none,
  .keep [0]]
def r26_1 : List G := [.op (.mov 3 (.const (.int .i64 0))) none,
  .keep [0, 3]]
def r26_2 : List G := [.op (.mov 4 (.const (.int .i64 0))) none,
  .keep [0, 3, 4]]
def r26_3 : List G := [.op (.mov 5 (.tmp 4)) none,
  .op (.mov 6 (.tmp 0)) none,
  .op (.lenS 7 (.tmp 6)) none,
  .op (.ari 8 .lss .i64 (.tmp 5) (.tmp 7)) none,
  .keep [0, 3, 4, 8]]
def r26_5 : List G := [.op (.mov 11 (.tmp 3)) none,
  .op (.ari 12 .mul .i64 (.tmp 11) (.const (.int .i64 256))) none,
  .op (.mov 13 (.tmp 0)) none,
  .op (.mov 14 (.tmp 4)) none,
  .op (.idxS 15 (.tmp 13) (.tmp 14)) none,
  .op (.conv 16 .i64 (.tmp 15)) none,
  .op (.ari 17 .add .i64 (.tmp 12) (.tmp 16)) none,
  .op (.mov 3 (.tmp 17)) none,
  .keep [0, 3, 4]]
def r26_4 : List G := [.op (.mov 9 (.tmp 4)) none,
  .op (.ari 10 .add .i64 (.tmp 9) (.const (.int .i64 1))) none,
  .op (.mov 4 (.tmp 10)) none,
  .keep [0, 3, 4]]
def r26_6 : List G := [.op (.mov 18 (.tmp 3)) none,
  .op (.mov 2 (.tmp 18)) none,
  .keep [2]]
def c26 : C := (.seq (.region r26_0) (.seq (.region r26_1) (.seq (.seq (.region r26_2) (.block 0 (.loop (.seq (.seq (.region r26_3) (.cond (.tmp 8) .skip (.exit 0))) (.seq (.block 1 (.region r26_5)) (.region r26_4)))))) (.seq (.region r26_6) .ret))))
theorem x26 : (∀ (K : Env → World → Prop) (pan : List PanicEntry → World → Prop) (e : Env) (w : World), vcOps Tryd.prog r26_0 K pan e w = vcOps Tryd.prog [.op (.mov 2 (.const (.int .i64 0))) none, .keep [0]] K pan e w) ∧
  (∀ (K : Env → World → Prop) (pan : List PanicEntry → World → Prop) (e : Env) (w : World), vcOps Tryd.prog r26_1 K pan e w = vcOps Tryd.prog [.op (.mov 3 (.const (.int .i64 0))) none, .keep [0, 3]] K pan e w) ∧
  (∀ (K : Env → World → Prop) (pan : List PanicEntry → World → Prop) (e : Env) (w : World), vcOps Tryd.prog r26_2 K pan e w = vcOps Tryd.prog [.op (.mov 4 (.const (.int .i64 0))) none, .keep [0, 3, 4]] K pan e w) ∧
  (∀ (K : Env → World → Prop) (pan : List PanicEntry → World → Prop) (e : Env) (w : World), vcOps Tryd.prog r26_3 K pan e w = vcOps Tryd.prog [.op (.mov 5 (.tmp 4)) none, .op (.mov 6 (.tmp 0)) none, .op (.lenS 7 (.tmp 6)) none, .op (.ari 8 .lss .i64 (.tmp 5) (.tmp 7)) none, .keep [0, 3, 4, 8]] K pan e w) ∧
  (∀ (K : Env → World → Prop) (pan : List PanicEntry → World → Prop) (e : Env) (w : World), vcOps Tryd.prog r26_5 K pan e w = vcOps Tryd.prog [.op (.mov 11 (.tmp 3)) none, .op (.ari 12 .mul .i64 (.tmp 11) (.const (.int .i64 256))) none, .op (.mov 13 (.tmp 0)) none, .op (.mov 14 (.tmp 4)) none, .op (.idxS 15 (.tmp 13) (.tmp 14)) none, .op (.conv 16 .i64 (.tmp 15)) none, .op (.ari 17 .add .i64 (.tmp 12) (.tmp 16)) none, .op (.mov 3 (.tmp 17)) none, .keep [0, 3, 4]] K pan e w) ∧
  (∀ (K : Env → World → Prop) (pan : List PanicEntry → World → Prop) (e : Env) (w : World), vcOps Tryd.prog r26_4 K pan e w = vcOps Tryd.prog [.op (.mov 9 (.tmp 4)) none, .op (.ari 10 .add .i64 (.tmp 9) (.const (.int .i64 1))) none, .op (.mov 4 (.tmp 10)) none, .keep [0, 3, 4]] K pan e w) ∧
  (∀ (K : Env → World → Prop) (pan : List PanicEntry → World → Prop) (e : Env) (w : World), vcOps Tryd.prog r26_6 K pan e w = vcOps Tryd.prog [.op (.mov 18 (.tmp 3)) none, .op (.mov 2 (.tmp 18)) none, .keep [2]] K pan e w) := ⟨fun _ _ _ _ => rfl, fun _ _ _ _ => rfl, fun _ _ _ _ => rfl, fun _ _ _ _ => rfl, fun _ _ _ _ => rfl, fun _ _ _ _ => rfl, fun _ _ _ _ => rfl⟩
theorem low26 : Tryd.f26.body.bind (lowerC Tryd.prog 19 (fun _ => none)) = some c26.erase := by kernel_rfl
theorem enter26 {args : List Value} {w : World} {R : Ending → World → Prop} (ha : args.length ≤ 19) (h : vc Tryd.prog c26 (endPost [.t 2] R) (argEnv 0 args) w) : Calls Tryd.prog 26 args.toArray w R :=
  calls_of_vc Tryd.func26 rfl low26 rfl ha h
/-- The code of aquatint/cursor.New. -/
def r34_0 : List G := [.op (.mov 2 (.const (.pointer none))) none,
  .keep [0]]
def r34_1 : List G := [.op (.mov 3 (.tmp 0)) none,
  .op (.build 4 86 [(0, 1, (.tmp 3))]) none,
  .op (.box 5 86 (.tmp 4)) none,
  .op (.mov 2 (.tmp 5)) none,
  .keep [2]]
def c34 : C := (.seq (.region r34_0) (.seq (.region r34_1) .ret))
theorem x34 : (∀ (K : Env → World → Prop) (pan : List PanicEntry → World → Prop) (e : Env) (w : World), vcOps Tryd.prog r34_0 K pan e w = vcOps Tryd.prog [.op (.mov 2 (.const (.pointer none))) none, .keep [0]] K pan e w) ∧
  (∀ (K : Env → World → Prop) (pan : List PanicEntry → World → Prop) (e : Env) (w : World), vcOps Tryd.prog r34_1 K pan e w = vcOps Tryd.prog [.op (.mov 3 (.tmp 0)) none, .op (.build 4 86 [(0, 1, (.tmp 3))]) none, .op (.box 5 86 (.tmp 4)) none, .op (.mov 2 (.tmp 5)) none, .keep [2]] K pan e w) := ⟨fun _ _ _ _ => rfl, fun _ _ _ _ => rfl⟩
theorem low34 : Tryd.f34.body.bind (lowerC Tryd.prog 6 (fun _ => none)) = some c34.erase := by kernel_rfl
theorem enter34 {args : List Value} {w : World} {R : Ending → World → Prop} (ha : args.length ≤ 6) (h : vc Tryd.prog c34 (endPost [.t 2] R) (argEnv 0 args) w) : Calls Tryd.prog 34 args.toArray w R :=
  calls_of_vc Tryd.func34 rfl low34 rfl ha h
/-- The code of (*aquatint/cursor.Cursor).Num. -/
def r35_0 : List G := [.op (.mov 4 (.const (.int .i64 0))) none,
  .op (.mov 5 (.const (.int .i64 0))) none,
  .keep [0, 1]]
def r35_1 : List G := [.op (.mov 8 (.tmp 1)) none,
  .op (.call (some 9) 33 [(.tmp 8)]) none,
  .op (.not 10 (.tmp 9)) none,
  .keep [0, 1, 10]]
def r35_2 : List G := [.op (.mov 4 (.const (.int .i64 0))) none,
  .op (.mov 5 (.const (.int .i64 1))) none,
  .keep [4, 5]]
def r35_3 : List G := [.op (.mov 12 (.tmp 0)) none,
  .op (.mov 13 (.tmp 1)) none,
  .op (.call (some 14) 40 [(.tmp 12), (.tmp 13)]) none,
  .op (.mov 11 (.tmp 14)) none,
  .op (.ext 15 0 (.tmp 11)) none,
  .op (.ext 16 1 (.tmp 11)) none,
  .op (.mov 6 (.tmp 15)) none,
  .op (.mov 7 (.tmp 16)) none,
  .keep [6, 7]]
def r35_4 : List G := [.op (.mov 17 (.tmp 6)) none,
  .op (.call (some 18) 41 [(.tmp 17)]) none,
  .op (.mov 19 (.tmp 7)) none,
  .op (.mov 4 (.tmp 18)) none,
  .op (.mov 5 (.tmp 19)) none,
  .keep [4, 5]]
def c35 : C := (.seq (.region r35_0) (.seq (.seq (.region r35_1) (.cond (.tmp 10) (.seq (.region r35_2) .ret) .skip)) (.seq (.region r35_3) (.seq (.region r35_4) .ret))))
theorem x35 : (∀ (K : Env → World → Prop) (pan : List PanicEntry → World → Prop) (e : Env) (w : World), vcOps Tryd.prog r35_0 K pan e w = vcOps Tryd.prog [.op (.mov 4 (.const (.int .i64 0))) none, .op (.mov 5 (.const (.int .i64 0))) none, .keep [0, 1]] K pan e w) ∧
  (∀ (K : Env → World → Prop) (pan : List PanicEntry → World → Prop) (e : Env) (w : World), vcOps Tryd.prog r35_1 K pan e w = vcOps Tryd.prog [.op (.mov 8 (.tmp 1)) none, .op (.call (some 9) 33 [(.tmp 8)]) none, .op (.not 10 (.tmp 9)) none, .keep [0, 1, 10]] K pan e w) ∧
  (∀ (K : Env → World → Prop) (pan : List PanicEntry → World → Prop) (e : Env) (w : World), vcOps Tryd.prog r35_2 K pan e w = vcOps Tryd.prog [.op (.mov 4 (.const (.int .i64 0))) none, .op (.mov 5 (.const (.int .i64 1))) none, .keep [4, 5]] K pan e w) ∧
  (∀ (K : Env → World → Prop) (pan : List PanicEntry → World → Prop) (e : Env) (w : World), vcOps Tryd.prog r35_3 K pan e w = vcOps Tryd.prog [.op (.mov 12 (.tmp 0)) none, .op (.mov 13 (.tmp 1)) none, .op (.call (some 14) 40 [(.tmp 12), (.tmp 13)]) none, .op (.mov 11 (.tmp 14)) none, .op (.ext 15 0 (.tmp 11)) none, .op (.ext 16 1 (.tmp 11)) none, .op (.mov 6 (.tmp 15)) none, .op (.mov 7 (.tmp 16)) none, .keep [6, 7]] K pan e w) ∧
  (∀ (K : Env → World → Prop) (pan : List PanicEntry → World → Prop) (e : Env) (w : World), vcOps Tryd.prog r35_4 K pan e w = vcOps Tryd.prog [.op (.mov 17 (.tmp 6)) none, .op (.call (some 18) 41 [(.tmp 17)]) none, .op (.mov 19 (.tmp 7)) none, .op (.mov 4 (.tmp 18)) none, .op (.mov 5 (.tmp 19)) none, .keep [4, 5]] K pan e w) := ⟨fun _ _ _ _ => rfl, fun _ _ _ _ => rfl, fun _ _ _ _ => rfl, fun _ _ _ _ => rfl, fun _ _ _ _ => rfl⟩
theorem low35 : Tryd.f35.body.bind (lowerC Tryd.prog 20 (fun _ => none)) = some c35.erase := by kernel_rfl
theorem enter35 {args : List Value} {w : World} {R : Ending → World → Prop} (ha : args.length ≤ 20) (h : vc Tryd.prog c35 (endPost [.t 4, .t 5] R) (argEnv 0 args) w) : Calls Tryd.prog 35 args.toArray w R :=
  calls_of_vc Tryd.func35 rfl low35 rfl ha h
/-- The code of (*aquatint/cursor.Cursor).Take. -/
def r40_0 : List G := [.op (.mov 4 (.const (.string { data := #[] }))) none,
  .op (.mov 5 (.const (.int .i64 0))) none,
  .keep [0, 1]]
def r40_1 : List G := [.op (.mov 7 (.tmp 0)) none,
  .op (.nilq 8 false (.tmp 7)) none,
  .op (.mov 9 (.tmp 8)) none,
  .op (.mov 10 (.tmp 1)) (some (9, false)),
  .op (.ari 11 .lss .i64 (.tmp 10) (.const (.int .i64 0))) (some (9, false)),
  .op (.pick 12 (.tmp 9) (.const (.bool true)) (.tmp 11)) none,
  .op (.mov 6 (.tmp 12)) none,
  .keep [0, 1, 6]]
def r40_2 : List G := [.op (.mov 4 (.const (.string { data := #[] }))) none,
  .op (.mov 5 (.const (.int .i64 1))) none,
  .keep [4, 5]]
def r40_3 : List G := [.op (.mov 14 (.tmp 1)) none,
  .op (.mov 15 (.tmp 0)) none,
  .op (.call (some 16) 47 [(.tmp 15)]) none,
  .op (.ari 17 .gtr .i64 (.tmp 14) (.tmp 16)) none,
  .op (.mov 13 (.tmp 17)) none,
  .keep [0, 1, 13]]
def r40_4 : List G := [.op (.mov 4 (.const (.string { data := #[] }))) none,
  .op (.mov 5 (.const (.int .i64 2))) none,
  .keep [4, 5]]
def r40_5 : List G := [.op (.mov 18 (.tmp 0)) none,
  .op (.nilCheck 19 (.tmp 18)) none,
  .op (.faddr 20 1 (.tmp 19)) none,
  .op (.load 21 (.tmp 20)) none,
  .op (.mov 22 (.tmp 1)) none,
  .op (.ari 23 .add .i64 (.tmp 21) (.tmp 22)) none,
  .op (.nilCheck 24 (.tmp 18)) none,
  .op (.faddr 25 1 (.tmp 24)) none,
  .op (.store (.tmp 25) (.tmp 23)) none,
  .keep [0, 1]]
def r40_6 : List G := [.op (.mov 26 (.tmp 0)) none,
  .op (.nilCheck 27 (.tmp 26)) none,
  .op (.faddr 28 0 (.tmp 27)) none,
  .op (.load 29 (.tmp 28)) none,
  .op (.mov 30 (.tmp 0)) none,
  .op (.nilCheck 31 (.tmp 30)) none,
  .op (.faddr 32 1 (.tmp 31)) none,
  .op (.load 33 (.tmp 32)) none,
  .op (.mov 34 (.tmp 1)) none,
  .op (.ari 35 .sub .i64 (.tmp 33) (.tmp 34)) none,
  .op (.mov 36 (.tmp 0)) none,
  .op (.nilCheck 37 (.tmp 36)) none,
  .op (.faddr 38 1 (.tmp 37)) none,
  .op (.load 39 (.tmp 38)) none,
  .op (.sliceS 40 (.tmp 29) (some (.tmp 35)) (some (.tmp 39))) none,
  .op (.mov 4 (.tmp 40)) none,
  .op (.mov 5 (.const (.int .i64 0))) none,
  .keep [4, 5]]
def c40 : C := (.seq (.region r40_0) (.seq (.block 0 (.seq (.region r40_1) (.cond (.tmp 6) (.seq (.region r40_2) .ret) (.seq (.region r40_3) (.cond (.tmp 13) (.seq (.region r40_4) .ret) .skip))))) (.seq (.region r40_5) (.seq (.regionD r40_6) .ret))))
theorem x40 : (∀ (K : Env → World → Prop) (pan : List PanicEntry → World → Prop) (e : Env) (w : World), vcOps Tryd.prog r40_0 K pan e w = vcOps Tryd.prog [.op (.mov 4 (.const (.string { data := #[] }))) none, .op (.mov 5 (.const (.int .i64 0))) none, .keep [0, 1]] K pan e w) ∧
  (∀ (K : Env → World → Prop) (pan : List PanicEntry → World → Prop) (e : Env) (w : World), vcOps Tryd.prog r40_1 K pan e w = vcOps Tryd.prog [.op (.mov 7 (.tmp 0)) none, .op (.nilq 8 false (.tmp 7)) none, .op (.mov 9 (.tmp 8)) none, .op (.mov 10 (.tmp 1)) (some (9, false)), .op (.ari 11 .lss .i64 (.tmp 10) (.const (.int .i64 0))) (some (9, false)), .op (.pick 12 (.tmp 9) (.const (.bool true)) (.tmp 11)) none, .op (.mov 6 (.tmp 12)) none, .keep [0, 1, 6]] K pan e w) ∧
  (∀ (K : Env → World → Prop) (pan : List PanicEntry → World → Prop) (e : Env) (w : World), vcOps Tryd.prog r40_2 K pan e w = vcOps Tryd.prog [.op (.mov 4 (.const (.string { data := #[] }))) none, .op (.mov 5 (.const (.int .i64 1))) none, .keep [4, 5]] K pan e w) ∧
  (∀ (K : Env → World → Prop) (pan : List PanicEntry → World → Prop) (e : Env) (w : World), vcOps Tryd.prog r40_3 K pan e w = vcOps Tryd.prog [.op (.mov 14 (.tmp 1)) none, .op (.mov 15 (.tmp 0)) none, .op (.call (some 16) 47 [(.tmp 15)]) none, .op (.ari 17 .gtr .i64 (.tmp 14) (.tmp 16)) none, .op (.mov 13 (.tmp 17)) none, .keep [0, 1, 13]] K pan e w) ∧
  (∀ (K : Env → World → Prop) (pan : List PanicEntry → World → Prop) (e : Env) (w : World), vcOps Tryd.prog r40_4 K pan e w = vcOps Tryd.prog [.op (.mov 4 (.const (.string { data := #[] }))) none, .op (.mov 5 (.const (.int .i64 2))) none, .keep [4, 5]] K pan e w) ∧
  (∀ (K : Env → World → Prop) (pan : List PanicEntry → World → Prop) (e : Env) (w : World), vcOps Tryd.prog r40_5 K pan e w = vcOps Tryd.prog [.op (.mov 18 (.tmp 0)) none, .op (.nilCheck 19 (.tmp 18)) none, .op (.faddr 20 1 (.tmp 19)) none, .op (.load 21 (.tmp 20)) none, .op (.mov 22 (.tmp 1)) none, .op (.ari 23 .add .i64 (.tmp 21) (.tmp 22)) none, .op (.nilCheck 24 (.tmp 18)) none, .op (.faddr 25 1 (.tmp 24)) none, .op (.store (.tmp 25) (.tmp 23)) none, .keep [0, 1]] K pan e w) ∧
  (∀ (K : Env → World → Prop) (pan : List PanicEntry → World → Prop) (e : Env) (w : World), vcOps Tryd.prog r40_6 K pan e w = vcOps Tryd.prog [.op (.mov 26 (.tmp 0)) none, .op (.nilCheck 27 (.tmp 26)) none, .op (.faddr 28 0 (.tmp 27)) none, .op (.load 29 (.tmp 28)) none, .op (.mov 30 (.tmp 0)) none, .op (.nilCheck 31 (.tmp 30)) none, .op (.faddr 32 1 (.tmp 31)) none, .op (.load 33 (.tmp 32)) none, .op (.mov 34 (.tmp 1)) none, .op (.ari 35 .sub .i64 (.tmp 33) (.tmp 34)) none, .op (.mov 36 (.tmp 0)) none, .op (.nilCheck 37 (.tmp 36)) none, .op (.faddr 38 1 (.tmp 37)) none, .op (.load 39 (.tmp 38)) none, .op (.sliceS 40 (.tmp 29) (some (.tmp 35)) (some (.tmp 39))) none, .op (.mov 4 (.tmp 40)) none, .op (.mov 5 (.const (.int .i64 0))) none, .keep [4, 5]] K pan e w) := ⟨fun _ _ _ _ => rfl, fun _ _ _ _ => rfl, fun _ _ _ _ => rfl, fun _ _ _ _ => rfl, fun _ _ _ _ => rfl, fun _ _ _ _ => rfl, fun _ _ _ _ => rfl⟩
theorem low40 : Tryd.f40.body.bind (lowerC Tryd.prog 41 (fun i => List.lookup i [(6, .fin [(0, 0), (1, 0), (2, 0), (3, 0), (4, 0), (5, 0), (6, 0), (7, 0), (8, 0), (9, 0), (10, 0), (11, 0), (12, 0), (13, 0), (14, 0), (15, 0), (16, 0)])])) = some c40.erase := by kernel_rfl
theorem enter40 {args : List Value} {w : World} {R : Ending → World → Prop} (ha : args.length ≤ 41) (h : vc Tryd.prog c40 (endPost [.t 4, .t 5] R) (argEnv 0 args) w) : Calls Tryd.prog 40 args.toArray w R :=
  calls_of_vc Tryd.func40 rfl low40 rfl ha h
/-- The code of aquatint/cursor.number. -/
def r41_0 : List G := [.op (.mov 2 (.const (.int .i64 0))) none,
  .keep [0]]
def r41_1 : List G := [.op (.mov 3 (.const (.int .i64 0))) none,
  .keep [0, 3]]
def r41_2 : List G := [.op (.mov 5 (.tmp 0)) none,
  .op (.lenS 6 (.tmp 5)) none,
  .op (.mov 7 (.const (.int .i64 0))) none,
  .keep [0, 3, 6, 7]]
def r41_3 : List G := [.op (.ari 8 .lss .i64 (.tmp 7) (.tmp 6)) none,
  .keep [0, 3, 6, 7, 8]]
def r41_4 : List G := [.op (.mov 9 (.tmp 7)) none,
  .op (.mov 4 (.tmp 9)) none,
  .keep [0, 3, 4, 6, 7]]
def r41_5 : List G := [.op (.mov 10 (.tmp 3)) none,
  .op (.shf 11 .shl .i64 (.tmp 10) (.const (.int .u64 8))) none,
  .op (.mov 12 (.tmp 0)) none,
  .op (.mov 13 (.tmp 4)) none,
  .op (.idxS 14 (.tmp 12) (.tmp 13)) none,
  .op (.conv 15 .i64 (.tmp 14)) none,
  .op (.ari 16 .or .i64 (.tmp 11) (.tmp 15)) none,
  .op (.mov 3 (.tmp 16)) none,
  .keep [0, 3, 6, 7]]
def r41_6 : List G := [.op (.ari 17 .add .i64 (.tmp 7) (.const (.int .i64 1))) none,
  .op (.mov 7 (.tmp 17)) none,
  .keep [0, 3, 6, 7]]
def r41_7 : List G := [.op (.mov 18 (.tmp 3)) none,
  .op (.mov 2 (.tmp 18)) none,
  .keep [2]]
def c41 : C := (.seq (.region r41_0) (.seq (.region r41_1) (.seq (.seq (.region r41_2) (.block 0 (.loop (.seq (.region r41_3) (.seq (.cond (.tmp 8) .skip (.exit 0)) (.seq (.block 1 (.seq (.region r41_4) (.region r41_5))) (.region r41_6))))))) (.seq (.region r41_7) .ret))))
theorem x41 : (∀ (K : Env → World → Prop) (pan : List PanicEntry → World → Prop) (e : Env) (w : World), vcOps Tryd.prog r41_0 K pan e w = vcOps Tryd.prog [.op (.mov 2 (.const (.int .i64 0))) none, .keep [0]] K pan e w) ∧
  (∀ (K : Env → World → Prop) (pan : List PanicEntry → World → Prop) (e : Env) (w : World), vcOps Tryd.prog r41_1 K pan e w = vcOps Tryd.prog [.op (.mov 3 (.const (.int .i64 0))) none, .keep [0, 3]] K pan e w) ∧
  (∀ (K : Env → World → Prop) (pan : List PanicEntry → World → Prop) (e : Env) (w : World), vcOps Tryd.prog r41_2 K pan e w = vcOps Tryd.prog [.op (.mov 5 (.tmp 0)) none, .op (.lenS 6 (.tmp 5)) none, .op (.mov 7 (.const (.int .i64 0))) none, .keep [0, 3, 6, 7]] K pan e w) ∧
  (∀ (K : Env → World → Prop) (pan : List PanicEntry → World → Prop) (e : Env) (w : World), vcOps Tryd.prog r41_3 K pan e w = vcOps Tryd.prog [.op (.ari 8 .lss .i64 (.tmp 7) (.tmp 6)) none, .keep [0, 3, 6, 7, 8]] K pan e w) ∧
  (∀ (K : Env → World → Prop) (pan : List PanicEntry → World → Prop) (e : Env) (w : World), vcOps Tryd.prog r41_4 K pan e w = vcOps Tryd.prog [.op (.mov 9 (.tmp 7)) none, .op (.mov 4 (.tmp 9)) none, .keep [0, 3, 4, 6, 7]] K pan e w) ∧
  (∀ (K : Env → World → Prop) (pan : List PanicEntry → World → Prop) (e : Env) (w : World), vcOps Tryd.prog r41_5 K pan e w = vcOps Tryd.prog [.op (.mov 10 (.tmp 3)) none, .op (.shf 11 .shl .i64 (.tmp 10) (.const (.int .u64 8))) none, .op (.mov 12 (.tmp 0)) none, .op (.mov 13 (.tmp 4)) none, .op (.idxS 14 (.tmp 12) (.tmp 13)) none, .op (.conv 15 .i64 (.tmp 14)) none, .op (.ari 16 .or .i64 (.tmp 11) (.tmp 15)) none, .op (.mov 3 (.tmp 16)) none, .keep [0, 3, 6, 7]] K pan e w) ∧
  (∀ (K : Env → World → Prop) (pan : List PanicEntry → World → Prop) (e : Env) (w : World), vcOps Tryd.prog r41_6 K pan e w = vcOps Tryd.prog [.op (.ari 17 .add .i64 (.tmp 7) (.const (.int .i64 1))) none, .op (.mov 7 (.tmp 17)) none, .keep [0, 3, 6, 7]] K pan e w) ∧
  (∀ (K : Env → World → Prop) (pan : List PanicEntry → World → Prop) (e : Env) (w : World), vcOps Tryd.prog r41_7 K pan e w = vcOps Tryd.prog [.op (.mov 18 (.tmp 3)) none, .op (.mov 2 (.tmp 18)) none, .keep [2]] K pan e w) := ⟨fun _ _ _ _ => rfl, fun _ _ _ _ => rfl, fun _ _ _ _ => rfl, fun _ _ _ _ => rfl, fun _ _ _ _ => rfl, fun _ _ _ _ => rfl, fun _ _ _ _ => rfl, fun _ _ _ _ => rfl⟩
theorem low41 : Tryd.f41.body.bind (lowerC Tryd.prog 19 (fun _ => none)) = some c41.erase := by kernel_rfl
theorem enter41 {args : List Value} {w : World} {R : Ending → World → Prop} (ha : args.length ≤ 19) (h : vc Tryd.prog c41 (endPost [.t 2] R) (argEnv 0 args) w) : Calls Tryd.prog 41 args.toArray w R :=
  calls_of_vc Tryd.func41 rfl low41 rfl ha h
/-- The code of (*aquatint/cursor.Cursor).Left. -/
def r47_0 : List G := [.op (.mov 2 (.const (.int .i64 0))) none,
  .keep [0]]
def r47_1 : List G := [.op (.mov 3 (.tmp 0)) none,
  .op (.nilq 4 false (.tmp 3)) none,
  .keep [0, 4]]
def r47_2 : List G := [.op (.mov 2 (.const (.int .i64 0))) none,
  .keep [2]]
def r47_3 : List G := [.op (.mov 5 (.tmp 0)) none,
  .op (.nilCheck 6 (.tmp 5)) none,
  .op (.faddr 7 0 (.tmp 6)) none,
  .op (.load 8 (.tmp 7)) none,
  .op (.lenS 9 (.tmp 8)) none,
  .op (.mov 10 (.tmp 0)) none,
  .op (.nilCheck 11 (.tmp 10)) none,
  .op (.faddr 12 1 (.tmp 11)) none,
  .op (.load 13 (.tmp 12)) none,
  .op (.ari 14 .sub .i64 (.tmp 9) (.tmp 13)) none,
  .op (.mov 2 (.tmp 14)) none,
  .keep [2]]
def c47 : C := (.seq (.region r47_0) (.seq (.seq (.region r47_1) (.cond (.tmp 4) (.seq (.region r47_2) .ret) .skip)) (.seq (.regionD r47_3) .ret)))
theorem x47 : (∀ (K : Env → World → Prop) (pan : List PanicEntry → World → Prop) (e : Env) (w : World), vcOps Tryd.prog r47_0 K pan e w = vcOps Tryd.prog [.op (.mov 2 (.const (.int .i64 0))) none, .keep [0]] K pan e w) ∧
  (∀ (K : Env → World → Prop) (pan : List PanicEntry → World → Prop) (e : Env) (w : World), vcOps Tryd.prog r47_1 K pan e w = vcOps Tryd.prog [.op (.mov 3 (.tmp 0)) none, .op (.nilq 4 false (.tmp 3)) none, .keep [0, 4]] K pan e w) ∧
  (∀ (K : Env → World → Prop) (pan : List PanicEntry → World → Prop) (e : Env) (w : World), vcOps Tryd.prog r47_2 K pan e w = vcOps Tryd.prog [.op (.mov 2 (.const (.int .i64 0))) none, .keep [2]] K pan e w) ∧
  (∀ (K : Env → World → Prop) (pan : List PanicEntry → World → Prop) (e : Env) (w : World), vcOps Tryd.prog r47_3 K pan e w = vcOps Tryd.prog [.op (.mov 5 (.tmp 0)) none, .op (.nilCheck 6 (.tmp 5)) none, .op (.faddr 7 0 (.tmp 6)) none, .op (.load 8 (.tmp 7)) none, .op (.lenS 9 (.tmp 8)) none, .op (.mov 10 (.tmp 0)) none, .op (.nilCheck 11 (.tmp 10)) none, .op (.faddr 12 1 (.tmp 11)) none, .op (.load 13 (.tmp 12)) none, .op (.ari 14 .sub .i64 (.tmp 9) (.tmp 13)) none, .op (.mov 2 (.tmp 14)) none, .keep [2]] K pan e w) := ⟨fun _ _ _ _ => rfl, fun _ _ _ _ => rfl, fun _ _ _ _ => rfl, fun _ _ _ _ => rfl⟩
theorem low47 : Tryd.f47.body.bind (lowerC Tryd.prog 15 (fun i => List.lookup i [(3, .fin [(0, 0), (1, 0), (2, 0), (3, 0), (4, 0), (5, 0), (6, 0), (7, 0), (8, 0), (9, 0), (10, 0)])])) = some c47.erase := by kernel_rfl
theorem enter47 {args : List Value} {w : World} {R : Ending → World → Prop} (ha : args.length ≤ 15) (h : vc Tryd.prog c47 (endPost [.t 2] R) (argEnv 0 args) w) : Calls Tryd.prog 47 args.toArray w R :=
  calls_of_vc Tryd.func47 rfl low47 rfl ha h
end Go.Proofs.YtdggcoaabohlmaaDoor
