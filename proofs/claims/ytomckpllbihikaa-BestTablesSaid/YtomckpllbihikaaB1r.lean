/-
  The code of the document's functions of layers 5 and 6, and of the laws, read.
-/
import Derived.Test.YtomckpllbihikaaProg
import Derived.Test.YtomckpllbihikaaX6
set_option autoImplicit false
namespace Go.Proofs.Ytomckpllbihikaa
open X
/-- The code of aquatint/aquatintlaw06.BestRight. -/
def r3_0 : List G := [.op (.box 1 22 (.tmp 0)) none,
  .op (.mov 2 (.const (.bool false))) none,
  .keep [1]]
def r3_1 : List G := [.op (.loadN 13 256 (.tmp 1)) none,
  .op (.call (some 14) 8 [(.tmp 13)]) none,
  .op (.mov 12 (.tmp 14)) none,
  .op (.ext 15 0 (.tmp 12)) none,
  .op (.ext 16 1 (.tmp 12)) none,
  .op (.ext 17 2 (.tmp 12)) none,
  .op (.alloc 3 23) none,
  .op (.storeN 16 (.tmp 3) (.tmp 15)) none,
  .op (.mov 4 (.tmp 16)) none,
  .op (.mov 5 (.tmp 17)) none,
  .keep [1, 3, 4, 5]]
def r3_2 : List G := [.op (.loadN 18 256 (.tmp 1)) none,
  .op (.call (some 19) 9 [(.tmp 18)]) none,
  .op (.not 20 (.tmp 19)) none,
  .keep [1, 3, 4, 5, 20]]
def r3_3 : List G := [.op (.call (some 21) 10 []) none,
  .op (.mov 22 (.tmp 21)) none,
  .op (.mov 23 (.tmp 4)) (some (22, true)),
  .op (.sop 24 .eql (.tmp 23) (.const (.string { data := #[] }))) (some (22, true)),
  .op (.pick 25 (.tmp 22) (.tmp 24) (.const (.bool false))) none,
  .op (.mov 26 (.tmp 25)) none,
  .op (.mov 27 (.tmp 5)) (some (26, true)),
  .op (.ari 28 .eql .i64 (.tmp 27) (.const (.int .i64 1))) (some (26, true)),
  .op (.mov 29 (.tmp 28)) (some (26, true)),
  .op (.mov 30 (.tmp 5)) (some (29, false)),
  .op (.ari 31 .eql .i64 (.tmp 30) (.const (.int .i64 5))) (some (29, false)),
  .op (.pick 32 (.tmp 29) (.const (.bool true)) (.tmp 31)) (some (26, true)),
  .op (.pick 33 (.tmp 26) (.tmp 32) (.const (.bool false))) none,
  .op (.mov 2 (.tmp 33)) none,
  .keep [2]]
def r3_4 : List G := [.op (.loadN 35 16 (.tmp 3)) none,
  .op (.mov 36 (.tmp 4)) none,
  .op (.call (some 37) 11 [(.tmp 35), (.tmp 36)]) none,
  .op (.mov 34 (.tmp 37)) none,
  .op (.ext 38 0 (.tmp 34)) none,
  .op (.ext 39 1 (.tmp 34)) none,
  .op (.mov 6 (.tmp 38)) none,
  .op (.mov 7 (.tmp 39)) none,
  .keep [1, 5, 6, 7]]
def r3_5 : List G := [.op (.mov 40 (.tmp 5)) none,
  .op (.ari 41 .neq .i64 (.tmp 40) (.const (.int .i64 0))) none,
  .op (.mov 42 (.tmp 41)) none,
  .op (.mov 43 (.tmp 7)) (some (42, false)),
  .op (.ari 44 .neq .i64 (.tmp 43) (.const (.int .i64 0))) (some (42, false)),
  .op (.pick 45 (.tmp 42) (.const (.bool true)) (.tmp 44)) none,
  .keep [1, 6, 45]]
def r3_6 : List G := [.op (.mov 2 (.const (.bool false))) none,
  .keep [2]]
def r3_7 : List G := [.op (.mov 8 (.const (.int .i64 0))) none,
  .keep [1, 6, 8]]
def r3_8 : List G := [.op (.mov 46 (.tmp 8)) none,
  .op (.ari 47 .lss .i64 (.tmp 46) (.const (.int .i64 256))) none,
  .keep [1, 6, 8, 47]]
def r3_10 : List G := [.op (.mov 51 (.tmp 6)) none,
  .op (.mov 52 (.tmp 8)) none,
  .op (.call (some 53) 12 [(.tmp 51), (.tmp 52)]) none,
  .op (.mov 50 (.tmp 53)) none,
  .op (.ext 54 0 (.tmp 50)) none,
  .op (.ext 55 1 (.tmp 50)) none,
  .op (.ext 56 2 (.tmp 50)) none,
  .op (.mov 9 (.tmp 54)) none,
  .op (.mov 10 (.tmp 55)) none,
  .op (.mov 11 (.tmp 56)) none,
  .keep [1, 6, 8, 11]]
def r3_11 : List G := [.op (.mov 57 (.tmp 11)) none,
  .op (.mov 58 (.tmp 8)) none,
  .op (.iaddrA 59 256 1 (.tmp 1) (.tmp 58)) none,
  .op (.load 60 (.tmp 59)) none,
  .op (.ari 61 .gtr .i64 (.tmp 60) (.const (.int .i64 0))) none,
  .op (.beq 62 true (.tmp 57) (.tmp 61)) none,
  .keep [1, 6, 8, 62]]
def r3_12 : List G := [.op (.mov 2 (.const (.bool false))) none,
  .keep [2]]
def r3_9 : List G := [.op (.mov 48 (.tmp 8)) none,
  .op (.ari 49 .add .i64 (.tmp 48) (.const (.int .i64 1))) none,
  .op (.mov 8 (.tmp 49)) none,
  .keep [1, 6, 8]]
def r3_13 : List G := [.op (.call (some 63) 10 []) none,
  .op (.mov 2 (.tmp 63)) none,
  .keep [2]]
def c3 : C := (.seq (.region r3_0) (.seq (.region r3_1) (.seq (.seq (.region r3_2) (.cond (.tmp 20) (.seq (.region r3_3) .ret) .skip)) (.seq (.region r3_4) (.seq (.seq (.region r3_5) (.cond (.tmp 45) (.seq (.region r3_6) .ret) .skip)) (.seq (.seq (.region r3_7) (.block 0 (.loop (.seq (.seq (.region r3_8) (.cond (.tmp 47) .skip (.exit 0))) (.seq (.block 1 (.seq (.region r3_10) (.seq (.region r3_11) (.cond (.tmp 62) (.seq (.region r3_12) .ret) .skip)))) (.region r3_9)))))) (.seq (.region r3_13) .ret)))))))
theorem x3 : (∀ (K : Env → World → Prop) (pan : List PanicEntry → World → Prop) (e : Env) (w : World), vcOps Try.prog r3_0 K pan e w = vcOps Try.prog [.op (.box 1 22 (.tmp 0)) none, .op (.mov 2 (.const (.bool false))) none, .keep [1]] K pan e w) ∧
  (∀ (K : Env → World → Prop) (pan : List PanicEntry → World → Prop) (e : Env) (w : World), vcOps Try.prog r3_1 K pan e w = vcOps Try.prog [.op (.loadN 13 256 (.tmp 1)) none, .op (.call (some 14) 8 [(.tmp 13)]) none, .op (.mov 12 (.tmp 14)) none, .op (.ext 15 0 (.tmp 12)) none, .op (.ext 16 1 (.tmp 12)) none, .op (.ext 17 2 (.tmp 12)) none, .op (.alloc 3 23) none, .op (.storeN 16 (.tmp 3) (.tmp 15)) none, .op (.mov 4 (.tmp 16)) none, .op (.mov 5 (.tmp 17)) none, .keep [1, 3, 4, 5]] K pan e w) ∧
  (∀ (K : Env → World → Prop) (pan : List PanicEntry → World → Prop) (e : Env) (w : World), vcOps Try.prog r3_2 K pan e w = vcOps Try.prog [.op (.loadN 18 256 (.tmp 1)) none, .op (.call (some 19) 9 [(.tmp 18)]) none, .op (.not 20 (.tmp 19)) none, .keep [1, 3, 4, 5, 20]] K pan e w) ∧
  (∀ (K : Env → World → Prop) (pan : List PanicEntry → World → Prop) (e : Env) (w : World), vcOps Try.prog r3_3 K pan e w = vcOps Try.prog [.op (.call (some 21) 10 []) none, .op (.mov 22 (.tmp 21)) none, .op (.mov 23 (.tmp 4)) (some (22, true)), .op (.sop 24 .eql (.tmp 23) (.const (.string { data := #[] }))) (some (22, true)), .op (.pick 25 (.tmp 22) (.tmp 24) (.const (.bool false))) none, .op (.mov 26 (.tmp 25)) none, .op (.mov 27 (.tmp 5)) (some (26, true)), .op (.ari 28 .eql .i64 (.tmp 27) (.const (.int .i64 1))) (some (26, true)), .op (.mov 29 (.tmp 28)) (some (26, true)), .op (.mov 30 (.tmp 5)) (some (29, false)), .op (.ari 31 .eql .i64 (.tmp 30) (.const (.int .i64 5))) (some (29, false)), .op (.pick 32 (.tmp 29) (.const (.bool true)) (.tmp 31)) (some (26, true)), .op (.pick 33 (.tmp 26) (.tmp 32) (.const (.bool false))) none, .op (.mov 2 (.tmp 33)) none, .keep [2]] K pan e w) ∧
  (∀ (K : Env → World → Prop) (pan : List PanicEntry → World → Prop) (e : Env) (w : World), vcOps Try.prog r3_4 K pan e w = vcOps Try.prog [.op (.loadN 35 16 (.tmp 3)) none, .op (.mov 36 (.tmp 4)) none, .op (.call (some 37) 11 [(.tmp 35), (.tmp 36)]) none, .op (.mov 34 (.tmp 37)) none, .op (.ext 38 0 (.tmp 34)) none, .op (.ext 39 1 (.tmp 34)) none, .op (.mov 6 (.tmp 38)) none, .op (.mov 7 (.tmp 39)) none, .keep [1, 5, 6, 7]] K pan e w) ∧
  (∀ (K : Env → World → Prop) (pan : List PanicEntry → World → Prop) (e : Env) (w : World), vcOps Try.prog r3_5 K pan e w = vcOps Try.prog [.op (.mov 40 (.tmp 5)) none, .op (.ari 41 .neq .i64 (.tmp 40) (.const (.int .i64 0))) none, .op (.mov 42 (.tmp 41)) none, .op (.mov 43 (.tmp 7)) (some (42, false)), .op (.ari 44 .neq .i64 (.tmp 43) (.const (.int .i64 0))) (some (42, false)), .op (.pick 45 (.tmp 42) (.const (.bool true)) (.tmp 44)) none, .keep [1, 6, 45]] K pan e w) ∧
  (∀ (K : Env → World → Prop) (pan : List PanicEntry → World → Prop) (e : Env) (w : World), vcOps Try.prog r3_6 K pan e w = vcOps Try.prog [.op (.mov 2 (.const (.bool false))) none, .keep [2]] K pan e w) ∧
  (∀ (K : Env → World → Prop) (pan : List PanicEntry → World → Prop) (e : Env) (w : World), vcOps Try.prog r3_7 K pan e w = vcOps Try.prog [.op (.mov 8 (.const (.int .i64 0))) none, .keep [1, 6, 8]] K pan e w) ∧
  (∀ (K : Env → World → Prop) (pan : List PanicEntry → World → Prop) (e : Env) (w : World), vcOps Try.prog r3_8 K pan e w = vcOps Try.prog [.op (.mov 46 (.tmp 8)) none, .op (.ari 47 .lss .i64 (.tmp 46) (.const (.int .i64 256))) none, .keep [1, 6, 8, 47]] K pan e w) ∧
  (∀ (K : Env → World → Prop) (pan : List PanicEntry → World → Prop) (e : Env) (w : World), vcOps Try.prog r3_10 K pan e w = vcOps Try.prog [.op (.mov 51 (.tmp 6)) none, .op (.mov 52 (.tmp 8)) none, .op (.call (some 53) 12 [(.tmp 51), (.tmp 52)]) none, .op (.mov 50 (.tmp 53)) none, .op (.ext 54 0 (.tmp 50)) none, .op (.ext 55 1 (.tmp 50)) none, .op (.ext 56 2 (.tmp 50)) none, .op (.mov 9 (.tmp 54)) none, .op (.mov 10 (.tmp 55)) none, .op (.mov 11 (.tmp 56)) none, .keep [1, 6, 8, 11]] K pan e w) ∧
  (∀ (K : Env → World → Prop) (pan : List PanicEntry → World → Prop) (e : Env) (w : World), vcOps Try.prog r3_11 K pan e w = vcOps Try.prog [.op (.mov 57 (.tmp 11)) none, .op (.mov 58 (.tmp 8)) none, .op (.iaddrA 59 256 1 (.tmp 1) (.tmp 58)) none, .op (.load 60 (.tmp 59)) none, .op (.ari 61 .gtr .i64 (.tmp 60) (.const (.int .i64 0))) none, .op (.beq 62 true (.tmp 57) (.tmp 61)) none, .keep [1, 6, 8, 62]] K pan e w) ∧
  (∀ (K : Env → World → Prop) (pan : List PanicEntry → World → Prop) (e : Env) (w : World), vcOps Try.prog r3_12 K pan e w = vcOps Try.prog [.op (.mov 2 (.const (.bool false))) none, .keep [2]] K pan e w) ∧
  (∀ (K : Env → World → Prop) (pan : List PanicEntry → World → Prop) (e : Env) (w : World), vcOps Try.prog r3_9 K pan e w = vcOps Try.prog [.op (.mov 48 (.tmp 8)) none, .op (.ari 49 .add .i64 (.tmp 48) (.const (.int .i64 1))) none, .op (.mov 8 (.tmp 49)) none, .keep [1, 6, 8]] K pan e w) ∧
  (∀ (K : Env → World → Prop) (pan : List PanicEntry → World → Prop) (e : Env) (w : World), vcOps Try.prog r3_13 K pan e w = vcOps Try.prog [.op (.call (some 63) 10 []) none, .op (.mov 2 (.tmp 63)) none, .keep [2]] K pan e w) := ⟨fun _ _ _ _ => rfl, fun _ _ _ _ => rfl, fun _ _ _ _ => rfl, fun _ _ _ _ => rfl, fun _ _ _ _ => rfl, fun _ _ _ _ => rfl, fun _ _ _ _ => rfl, fun _ _ _ _ => rfl, fun _ _ _ _ => rfl, fun _ _ _ _ => rfl, fun _ _ _ _ => rfl, fun _ _ _ _ => rfl, fun _ _ _ _ => rfl, fun _ _ _ _ => rfl⟩
theorem low3 : Try.f3.body.bind (lowerC Try.prog 64 (fun _ => none)) = some c3.erase := by kernel_rfl
theorem enter3 {args : List Value} {w : World} {R : Ending → World → Prop} (ha : args.length ≤ 64) (h : vc Try.prog c3 (endPost [.t 2] R) (argEnv 0 args) w) : Calls Try.prog 3 args.toArray w R :=
  calls_of_vc Try.func3 rfl low3 rfl ha h
/-- The code of aquatint/aquatintlaw06.BestOrder. -/
def r4_0 : List G := [.op (.box 3 22 (.tmp 0)) none,
  .op (.mov 6 (.const (.bool false))) none,
  .keep [1, 2, 3]]
def r4_1 : List G := [.op (.loadN 20 256 (.tmp 3)) none,
  .op (.call (some 21) 9 [(.tmp 20)]) none,
  .op (.not 22 (.tmp 21)) none,
  .op (.mov 23 (.tmp 22)) none,
  .op (.mov 24 (.tmp 1)) (some (23, false)),
  .op (.iaddrA 25 256 1 (.tmp 3) (.tmp 24)) (some (23, false)),
  .op (.load 26 (.tmp 25)) (some (23, false)),
  .op (.mov 27 (.tmp 2)) (some (23, false)),
  .op (.iaddrA 28 256 1 (.tmp 3) (.tmp 27)) (some (23, false)),
  .op (.load 29 (.tmp 28)) (some (23, false)),
  .op (.ari 30 .leq .i64 (.tmp 26) (.tmp 29)) (some (23, false)),
  .op (.pick 31 (.tmp 23) (.const (.bool true)) (.tmp 30)) none,
  .op (.mov 32 (.tmp 31)) none,
  .op (.mov 33 (.tmp 2)) (some (32, false)),
  .op (.iaddrA 34 256 1 (.tmp 3) (.tmp 33)) (some (32, false)),
  .op (.load 35 (.tmp 34)) (some (32, false)),
  .op (.ari 36 .eql .i64 (.tmp 35) (.const (.int .i64 0))) (some (32, false)),
  .op (.pick 37 (.tmp 32) (.const (.bool true)) (.tmp 36)) none,
  .keep [1, 2, 3, 37]]
def r4_2 : List G := [.op (.call (some 38) 10 []) none,
  .op (.mov 6 (.tmp 38)) none,
  .keep [6]]
def r4_3 : List G := [.op (.mov 7 (.const (.int .i64 0))) none,
  .keep [1, 2, 3, 7]]
def r4_4 : List G := [.op (.mov 8 (.const (.int .i64 0))) none,
  .keep [1, 2, 3, 7, 8]]
def r4_5 : List G := [.op (.mov 39 (.tmp 8)) none,
  .op (.ari 40 .lss .i64 (.tmp 39) (.const (.int .i64 256))) none,
  .keep [1, 2, 3, 7, 8, 40]]
def r4_7 : List G := [.op (.mov 43 (.tmp 8)) none,
  .op (.iaddrA 44 256 1 (.tmp 3) (.tmp 43)) none,
  .op (.load 45 (.tmp 44)) none,
  .op (.ari 46 .gtr .i64 (.tmp 45) (.const (.int .i64 2000))) none,
  .op (.mov 47 (.tmp 46)) none,
  .op (.mov 48 (.tmp 7)) (some (47, false)),
  .op (.ari 49 .gtr .i64 (.tmp 48) (.const (.int .i64 2000))) (some (47, false)),
  .op (.pick 50 (.tmp 47) (.const (.bool true)) (.tmp 49)) none,
  .keep [1, 2, 3, 7, 8, 50]]
def r4_8 : List G := [.op (.call (some 51) 10 []) none,
  .op (.mov 6 (.tmp 51)) none,
  .keep [6]]
def r4_9 : List G := [.op (.mov 52 (.tmp 7)) none,
  .op (.mov 53 (.tmp 8)) none,
  .op (.iaddrA 54 256 1 (.tmp 3) (.tmp 53)) none,
  .op (.load 55 (.tmp 54)) none,
  .op (.ari 56 .add .i64 (.tmp 52) (.tmp 55)) none,
  .op (.mov 7 (.tmp 56)) none,
  .keep [1, 2, 3, 7, 8]]
def r4_6 : List G := [.op (.mov 41 (.tmp 8)) none,
  .op (.ari 42 .add .i64 (.tmp 41) (.const (.int .i64 1))) none,
  .op (.mov 8 (.tmp 42)) none,
  .keep [1, 2, 3, 7, 8]]
def r4_10 : List G := [.op (.mov 57 (.tmp 7)) none,
  .op (.ari 58 .gtr .i64 (.tmp 57) (.const (.int .i64 2000))) none,
  .keep [1, 2, 3, 58]]
def r4_11 : List G := [.op (.call (some 59) 10 []) none,
  .op (.mov 6 (.tmp 59)) none,
  .keep [6]]
def r4_12 : List G := [.op (.loadN 61 256 (.tmp 3)) none,
  .op (.call (some 62) 8 [(.tmp 61)]) none,
  .op (.mov 60 (.tmp 62)) none,
  .op (.ext 63 0 (.tmp 60)) none,
  .op (.ext 64 1 (.tmp 60)) none,
  .op (.ext 65 2 (.tmp 60)) none,
  .op (.alloc 9 23) none,
  .op (.storeN 16 (.tmp 9) (.tmp 63)) none,
  .op (.mov 10 (.tmp 64)) none,
  .op (.mov 11 (.tmp 65)) none,
  .keep [1, 2, 9, 10]]
def r4_13 : List G := [.op (.loadN 67 16 (.tmp 9)) none,
  .op (.mov 68 (.tmp 10)) none,
  .op (.call (some 69) 11 [(.tmp 67), (.tmp 68)]) none,
  .op (.mov 66 (.tmp 69)) none,
  .op (.ext 70 0 (.tmp 66)) none,
  .op (.ext 71 1 (.tmp 66)) none,
  .op (.mov 12 (.tmp 70)) none,
  .op (.mov 13 (.tmp 71)) none,
  .keep [1, 2, 12, 13]]
def r4_14 : List G := [.op (.mov 73 (.tmp 12)) none,
  .op (.mov 74 (.tmp 1)) none,
  .op (.conv 75 .i64 (.tmp 74)) none,
  .op (.call (some 76) 12 [(.tmp 73), (.tmp 75)]) none,
  .op (.mov 72 (.tmp 76)) none,
  .op (.ext 77 0 (.tmp 72)) none,
  .op (.ext 78 1 (.tmp 72)) none,
  .op (.ext 79 2 (.tmp 72)) none,
  .op (.mov 14 (.tmp 77)) none,
  .op (.mov 15 (.tmp 78)) none,
  .op (.mov 16 (.tmp 79)) none,
  .keep [2, 12, 13, 15]]
def r4_15 : List G := [.op (.mov 81 (.tmp 12)) none,
  .op (.mov 82 (.tmp 2)) none,
  .op (.conv 83 .i64 (.tmp 82)) none,
  .op (.call (some 84) 12 [(.tmp 81), (.tmp 83)]) none,
  .op (.mov 80 (.tmp 84)) none,
  .op (.ext 85 0 (.tmp 80)) none,
  .op (.ext 86 1 (.tmp 80)) none,
  .op (.ext 87 2 (.tmp 80)) none,
  .op (.mov 17 (.tmp 85)) none,
  .op (.mov 18 (.tmp 86)) none,
  .op (.mov 19 (.tmp 87)) none,
  .keep [13, 15, 18]]
def r4_16 : List G := [.op (.call (some 88) 10 []) none,
  .op (.mov 89 (.tmp 88)) none,
  .op (.mov 90 (.tmp 13)) (some (89, true)),
  .op (.ari 91 .eql .i64 (.tmp 90) (.const (.int .i64 0))) (some (89, true)),
  .op (.pick 92 (.tmp 89) (.tmp 91) (.const (.bool false))) none,
  .op (.mov 93 (.tmp 92)) none,
  .op (.mov 94 (.tmp 15)) (some (93, true)),
  .op (.mov 95 (.tmp 18)) (some (93, true)),
  .op (.ari 96 .leq .i64 (.tmp 94) (.tmp 95)) (some (93, true)),
  .op (.pick 97 (.tmp 93) (.tmp 96) (.const (.bool false))) none,
  .op (.mov 6 (.tmp 97)) none,
  .keep [6]]
def c4 : C := (.seq (.region r4_0) (.seq (.seq (.regionD r4_1) (.cond (.tmp 37) (.seq (.region r4_2) .ret) .skip)) (.seq (.region r4_3) (.seq (.seq (.region r4_4) (.block 0 (.loop (.seq (.seq (.region r4_5) (.cond (.tmp 40) .skip (.exit 0))) (.seq (.block 1 (.seq (.seq (.region r4_7) (.cond (.tmp 50) (.seq (.region r4_8) .ret) .skip)) (.region r4_9))) (.region r4_6)))))) (.seq (.seq (.region r4_10) (.cond (.tmp 58) (.seq (.region r4_11) .ret) .skip)) (.seq (.region r4_12) (.seq (.region r4_13) (.seq (.region r4_14) (.seq (.region r4_15) (.seq (.region r4_16) .ret))))))))))
theorem x4 : (∀ (K : Env → World → Prop) (pan : List PanicEntry → World → Prop) (e : Env) (w : World), vcOps Try.prog r4_0 K pan e w = vcOps Try.prog [.op (.box 3 22 (.tmp 0)) none, .op (.mov 6 (.const (.bool false))) none, .keep [1, 2, 3]] K pan e w) ∧
  (∀ (K : Env → World → Prop) (pan : List PanicEntry → World → Prop) (e : Env) (w : World), vcOps Try.prog r4_1 K pan e w = vcOps Try.prog [.op (.loadN 20 256 (.tmp 3)) none, .op (.call (some 21) 9 [(.tmp 20)]) none, .op (.not 22 (.tmp 21)) none, .op (.mov 23 (.tmp 22)) none, .op (.mov 24 (.tmp 1)) (some (23, false)), .op (.iaddrA 25 256 1 (.tmp 3) (.tmp 24)) (some (23, false)), .op (.load 26 (.tmp 25)) (some (23, false)), .op (.mov 27 (.tmp 2)) (some (23, false)), .op (.iaddrA 28 256 1 (.tmp 3) (.tmp 27)) (some (23, false)), .op (.load 29 (.tmp 28)) (some (23, false)), .op (.ari 30 .leq .i64 (.tmp 26) (.tmp 29)) (some (23, false)), .op (.pick 31 (.tmp 23) (.const (.bool true)) (.tmp 30)) none, .op (.mov 32 (.tmp 31)) none, .op (.mov 33 (.tmp 2)) (some (32, false)), .op (.iaddrA 34 256 1 (.tmp 3) (.tmp 33)) (some (32, false)), .op (.load 35 (.tmp 34)) (some (32, false)), .op (.ari 36 .eql .i64 (.tmp 35) (.const (.int .i64 0))) (some (32, false)), .op (.pick 37 (.tmp 32) (.const (.bool true)) (.tmp 36)) none, .keep [1, 2, 3, 37]] K pan e w) ∧
  (∀ (K : Env → World → Prop) (pan : List PanicEntry → World → Prop) (e : Env) (w : World), vcOps Try.prog r4_2 K pan e w = vcOps Try.prog [.op (.call (some 38) 10 []) none, .op (.mov 6 (.tmp 38)) none, .keep [6]] K pan e w) ∧
  (∀ (K : Env → World → Prop) (pan : List PanicEntry → World → Prop) (e : Env) (w : World), vcOps Try.prog r4_3 K pan e w = vcOps Try.prog [.op (.mov 7 (.const (.int .i64 0))) none, .keep [1, 2, 3, 7]] K pan e w) ∧
  (∀ (K : Env → World → Prop) (pan : List PanicEntry → World → Prop) (e : Env) (w : World), vcOps Try.prog r4_4 K pan e w = vcOps Try.prog [.op (.mov 8 (.const (.int .i64 0))) none, .keep [1, 2, 3, 7, 8]] K pan e w) ∧
  (∀ (K : Env → World → Prop) (pan : List PanicEntry → World → Prop) (e : Env) (w : World), vcOps Try.prog r4_5 K pan e w = vcOps Try.prog [.op (.mov 39 (.tmp 8)) none, .op (.ari 40 .lss .i64 (.tmp 39) (.const (.int .i64 256))) none, .keep [1, 2, 3, 7, 8, 40]] K pan e w) ∧
  (∀ (K : Env → World → Prop) (pan : List PanicEntry → World → Prop) (e : Env) (w : World), vcOps Try.prog r4_7 K pan e w = vcOps Try.prog [.op (.mov 43 (.tmp 8)) none, .op (.iaddrA 44 256 1 (.tmp 3) (.tmp 43)) none, .op (.load 45 (.tmp 44)) none, .op (.ari 46 .gtr .i64 (.tmp 45) (.const (.int .i64 2000))) none, .op (.mov 47 (.tmp 46)) none, .op (.mov 48 (.tmp 7)) (some (47, false)), .op (.ari 49 .gtr .i64 (.tmp 48) (.const (.int .i64 2000))) (some (47, false)), .op (.pick 50 (.tmp 47) (.const (.bool true)) (.tmp 49)) none, .keep [1, 2, 3, 7, 8, 50]] K pan e w) ∧
  (∀ (K : Env → World → Prop) (pan : List PanicEntry → World → Prop) (e : Env) (w : World), vcOps Try.prog r4_8 K pan e w = vcOps Try.prog [.op (.call (some 51) 10 []) none, .op (.mov 6 (.tmp 51)) none, .keep [6]] K pan e w) ∧
  (∀ (K : Env → World → Prop) (pan : List PanicEntry → World → Prop) (e : Env) (w : World), vcOps Try.prog r4_9 K pan e w = vcOps Try.prog [.op (.mov 52 (.tmp 7)) none, .op (.mov 53 (.tmp 8)) none, .op (.iaddrA 54 256 1 (.tmp 3) (.tmp 53)) none, .op (.load 55 (.tmp 54)) none, .op (.ari 56 .add .i64 (.tmp 52) (.tmp 55)) none, .op (.mov 7 (.tmp 56)) none, .keep [1, 2, 3, 7, 8]] K pan e w) ∧
  (∀ (K : Env → World → Prop) (pan : List PanicEntry → World → Prop) (e : Env) (w : World), vcOps Try.prog r4_6 K pan e w = vcOps Try.prog [.op (.mov 41 (.tmp 8)) none, .op (.ari 42 .add .i64 (.tmp 41) (.const (.int .i64 1))) none, .op (.mov 8 (.tmp 42)) none, .keep [1, 2, 3, 7, 8]] K pan e w) ∧
  (∀ (K : Env → World → Prop) (pan : List PanicEntry → World → Prop) (e : Env) (w : World), vcOps Try.prog r4_10 K pan e w = vcOps Try.prog [.op (.mov 57 (.tmp 7)) none, .op (.ari 58 .gtr .i64 (.tmp 57) (.const (.int .i64 2000))) none, .keep [1, 2, 3, 58]] K pan e w) ∧
  (∀ (K : Env → World → Prop) (pan : List PanicEntry → World → Prop) (e : Env) (w : World), vcOps Try.prog r4_11 K pan e w = vcOps Try.prog [.op (.call (some 59) 10 []) none, .op (.mov 6 (.tmp 59)) none, .keep [6]] K pan e w) ∧
  (∀ (K : Env → World → Prop) (pan : List PanicEntry → World → Prop) (e : Env) (w : World), vcOps Try.prog r4_12 K pan e w = vcOps Try.prog [.op (.loadN 61 256 (.tmp 3)) none, .op (.call (some 62) 8 [(.tmp 61)]) none, .op (.mov 60 (.tmp 62)) none, .op (.ext 63 0 (.tmp 60)) none, .op (.ext 64 1 (.tmp 60)) none, .op (.ext 65 2 (.tmp 60)) none, .op (.alloc 9 23) none, .op (.storeN 16 (.tmp 9) (.tmp 63)) none, .op (.mov 10 (.tmp 64)) none, .op (.mov 11 (.tmp 65)) none, .keep [1, 2, 9, 10]] K pan e w) ∧
  (∀ (K : Env → World → Prop) (pan : List PanicEntry → World → Prop) (e : Env) (w : World), vcOps Try.prog r4_13 K pan e w = vcOps Try.prog [.op (.loadN 67 16 (.tmp 9)) none, .op (.mov 68 (.tmp 10)) none, .op (.call (some 69) 11 [(.tmp 67), (.tmp 68)]) none, .op (.mov 66 (.tmp 69)) none, .op (.ext 70 0 (.tmp 66)) none, .op (.ext 71 1 (.tmp 66)) none, .op (.mov 12 (.tmp 70)) none, .op (.mov 13 (.tmp 71)) none, .keep [1, 2, 12, 13]] K pan e w) ∧
  (∀ (K : Env → World → Prop) (pan : List PanicEntry → World → Prop) (e : Env) (w : World), vcOps Try.prog r4_14 K pan e w = vcOps Try.prog [.op (.mov 73 (.tmp 12)) none, .op (.mov 74 (.tmp 1)) none, .op (.conv 75 .i64 (.tmp 74)) none, .op (.call (some 76) 12 [(.tmp 73), (.tmp 75)]) none, .op (.mov 72 (.tmp 76)) none, .op (.ext 77 0 (.tmp 72)) none, .op (.ext 78 1 (.tmp 72)) none, .op (.ext 79 2 (.tmp 72)) none, .op (.mov 14 (.tmp 77)) none, .op (.mov 15 (.tmp 78)) none, .op (.mov 16 (.tmp 79)) none, .keep [2, 12, 13, 15]] K pan e w) ∧
  (∀ (K : Env → World → Prop) (pan : List PanicEntry → World → Prop) (e : Env) (w : World), vcOps Try.prog r4_15 K pan e w = vcOps Try.prog [.op (.mov 81 (.tmp 12)) none, .op (.mov 82 (.tmp 2)) none, .op (.conv 83 .i64 (.tmp 82)) none, .op (.call (some 84) 12 [(.tmp 81), (.tmp 83)]) none, .op (.mov 80 (.tmp 84)) none, .op (.ext 85 0 (.tmp 80)) none, .op (.ext 86 1 (.tmp 80)) none, .op (.ext 87 2 (.tmp 80)) none, .op (.mov 17 (.tmp 85)) none, .op (.mov 18 (.tmp 86)) none, .op (.mov 19 (.tmp 87)) none, .keep [13, 15, 18]] K pan e w) ∧
  (∀ (K : Env → World → Prop) (pan : List PanicEntry → World → Prop) (e : Env) (w : World), vcOps Try.prog r4_16 K pan e w = vcOps Try.prog [.op (.call (some 88) 10 []) none, .op (.mov 89 (.tmp 88)) none, .op (.mov 90 (.tmp 13)) (some (89, true)), .op (.ari 91 .eql .i64 (.tmp 90) (.const (.int .i64 0))) (some (89, true)), .op (.pick 92 (.tmp 89) (.tmp 91) (.const (.bool false))) none, .op (.mov 93 (.tmp 92)) none, .op (.mov 94 (.tmp 15)) (some (93, true)), .op (.mov 95 (.tmp 18)) (some (93, true)), .op (.ari 96 .leq .i64 (.tmp 94) (.tmp 95)) (some (93, true)), .op (.pick 97 (.tmp 93) (.tmp 96) (.const (.bool false))) none, .op (.mov 6 (.tmp 97)) none, .keep [6]] K pan e w) := ⟨fun _ _ _ _ => rfl, fun _ _ _ _ => rfl, fun _ _ _ _ => rfl, fun _ _ _ _ => rfl, fun _ _ _ _ => rfl, fun _ _ _ _ => rfl, fun _ _ _ _ => rfl, fun _ _ _ _ => rfl, fun _ _ _ _ => rfl, fun _ _ _ _ => rfl, fun _ _ _ _ => rfl, fun _ _ _ _ => rfl, fun _ _ _ _ => rfl, fun _ _ _ _ => rfl, fun _ _ _ _ => rfl, fun _ _ _ _ => rfl, fun _ _ _ _ => rfl⟩
theorem low4 : Try.f4.body.bind (lowerC Try.prog 98 (fun i => List.lookup i [(1, [(0, 0), (1, 0), (2, 0), (3, 0), (4, 0), (5, 0), (6, 0), (7, 0), (8, 0), (9, 0), (10, 0), (11, 0), (12, 0), (13, 0), (14, 0), (15, 0), (16, 0), (17, 0)])])) = some c4.erase := by kernel_rfl
theorem enter4 {args : List Value} {w : World} {R : Ending → World → Prop} (ha : args.length ≤ 98) (h : vc Try.prog c4 (endPost [.t 6] R) (argEnv 0 args) w) : Calls Try.prog 4 args.toArray w R :=
  calls_of_vc Try.func4 rfl low4 rfl ha h
/-- The code of aquatint/aquatintlaw06.BestTables. -/
def r5_0 : List G := [.op (.box 1 22 (.tmp 0)) none,
  .op (.mov 2 (.const (.bool false))) none,
  .keep [1]]
def r5_1 : List G := [.op (.loadN 10 256 (.tmp 1)) none,
  .op (.call (some 11) 8 [(.tmp 10)]) none,
  .op (.mov 9 (.tmp 11)) none,
  .op (.ext 12 0 (.tmp 9)) none,
  .op (.ext 13 1 (.tmp 9)) none,
  .op (.ext 14 2 (.tmp 9)) none,
  .op (.alloc 3 23) none,
  .op (.storeN 16 (.tmp 3) (.tmp 12)) none,
  .op (.mov 4 (.tmp 13)) none,
  .op (.mov 5 (.tmp 14)) none,
  .keep [1, 3, 4, 5]]
def r5_2 : List G := [.op (.loadN 16 256 (.tmp 1)) none,
  .op (.call (some 17) 13 [(.tmp 16)]) none,
  .op (.mov 15 (.tmp 17)) none,
  .op (.ext 18 0 (.tmp 15)) none,
  .op (.ext 19 1 (.tmp 15)) none,
  .op (.ext 20 2 (.tmp 15)) none,
  .op (.alloc 6 23) none,
  .op (.storeN 16 (.tmp 6) (.tmp 18)) none,
  .op (.mov 7 (.tmp 19)) none,
  .op (.mov 8 (.tmp 20)) none,
  .keep [3, 4, 5, 6, 7, 8]]
def r5_3 : List G := [.op (.call (some 21) 10 []) none,
  .op (.mov 22 (.tmp 21)) none,
  .op (.loadN 23 16 (.tmp 3)) (some (22, true)),
  .op (.loadN 24 16 (.tmp 6)) (some (22, true)),
  .op (.aeq 25 false 23 (.tmp 23) (.tmp 24)) (some (22, true)),
  .op (.pick 26 (.tmp 22) (.tmp 25) (.const (.bool false))) none,
  .op (.mov 27 (.tmp 26)) none,
  .op (.mov 28 (.tmp 4)) (some (27, true)),
  .op (.mov 29 (.tmp 7)) (some (27, true)),
  .op (.sop 30 .eql (.tmp 28) (.tmp 29)) (some (27, true)),
  .op (.pick 31 (.tmp 27) (.tmp 30) (.const (.bool false))) none,
  .op (.mov 32 (.tmp 31)) none,
  .op (.mov 33 (.tmp 5)) (some (32, true)),
  .op (.mov 34 (.tmp 8)) (some (32, true)),
  .op (.ari 35 .eql .i64 (.tmp 33) (.tmp 34)) (some (32, true)),
  .op (.pick 36 (.tmp 32) (.tmp 35) (.const (.bool false))) none,
  .op (.mov 2 (.tmp 36)) none,
  .keep [2]]
def c5 : C := (.seq (.region r5_0) (.seq (.region r5_1) (.seq (.region r5_2) (.seq (.region r5_3) .ret))))
theorem x5 : (∀ (K : Env → World → Prop) (pan : List PanicEntry → World → Prop) (e : Env) (w : World), vcOps Try.prog r5_0 K pan e w = vcOps Try.prog [.op (.box 1 22 (.tmp 0)) none, .op (.mov 2 (.const (.bool false))) none, .keep [1]] K pan e w) ∧
  (∀ (K : Env → World → Prop) (pan : List PanicEntry → World → Prop) (e : Env) (w : World), vcOps Try.prog r5_1 K pan e w = vcOps Try.prog [.op (.loadN 10 256 (.tmp 1)) none, .op (.call (some 11) 8 [(.tmp 10)]) none, .op (.mov 9 (.tmp 11)) none, .op (.ext 12 0 (.tmp 9)) none, .op (.ext 13 1 (.tmp 9)) none, .op (.ext 14 2 (.tmp 9)) none, .op (.alloc 3 23) none, .op (.storeN 16 (.tmp 3) (.tmp 12)) none, .op (.mov 4 (.tmp 13)) none, .op (.mov 5 (.tmp 14)) none, .keep [1, 3, 4, 5]] K pan e w) ∧
  (∀ (K : Env → World → Prop) (pan : List PanicEntry → World → Prop) (e : Env) (w : World), vcOps Try.prog r5_2 K pan e w = vcOps Try.prog [.op (.loadN 16 256 (.tmp 1)) none, .op (.call (some 17) 13 [(.tmp 16)]) none, .op (.mov 15 (.tmp 17)) none, .op (.ext 18 0 (.tmp 15)) none, .op (.ext 19 1 (.tmp 15)) none, .op (.ext 20 2 (.tmp 15)) none, .op (.alloc 6 23) none, .op (.storeN 16 (.tmp 6) (.tmp 18)) none, .op (.mov 7 (.tmp 19)) none, .op (.mov 8 (.tmp 20)) none, .keep [3, 4, 5, 6, 7, 8]] K pan e w) ∧
  (∀ (K : Env → World → Prop) (pan : List PanicEntry → World → Prop) (e : Env) (w : World), vcOps Try.prog r5_3 K pan e w = vcOps Try.prog [.op (.call (some 21) 10 []) none, .op (.mov 22 (.tmp 21)) none, .op (.loadN 23 16 (.tmp 3)) (some (22, true)), .op (.loadN 24 16 (.tmp 6)) (some (22, true)), .op (.aeq 25 false 23 (.tmp 23) (.tmp 24)) (some (22, true)), .op (.pick 26 (.tmp 22) (.tmp 25) (.const (.bool false))) none, .op (.mov 27 (.tmp 26)) none, .op (.mov 28 (.tmp 4)) (some (27, true)), .op (.mov 29 (.tmp 7)) (some (27, true)), .op (.sop 30 .eql (.tmp 28) (.tmp 29)) (some (27, true)), .op (.pick 31 (.tmp 27) (.tmp 30) (.const (.bool false))) none, .op (.mov 32 (.tmp 31)) none, .op (.mov 33 (.tmp 5)) (some (32, true)), .op (.mov 34 (.tmp 8)) (some (32, true)), .op (.ari 35 .eql .i64 (.tmp 33) (.tmp 34)) (some (32, true)), .op (.pick 36 (.tmp 32) (.tmp 35) (.const (.bool false))) none, .op (.mov 2 (.tmp 36)) none, .keep [2]] K pan e w) := ⟨fun _ _ _ _ => rfl, fun _ _ _ _ => rfl, fun _ _ _ _ => rfl, fun _ _ _ _ => rfl⟩
theorem low5 : Try.f5.body.bind (lowerC Try.prog 37 (fun _ => none)) = some c5.erase := by kernel_rfl
theorem enter5 {args : List Value} {w : World} {R : Ending → World → Prop} (ha : args.length ≤ 37) (h : vc Try.prog c5 (endPost [.t 2] R) (argEnv 0 args) w) : Calls Try.prog 5 args.toArray w R :=
  calls_of_vc Try.func5 rfl low5 rfl ha h
/-- The code of aquatint/aquatintlaw06.BestCosts. -/
def r6_0 : List G := [.op (.box 3 22 (.tmp 0)) none,
  .op (.box 4 23 (.tmp 1)) none,
  .op (.mov 6 (.const (.bool false))) none,
  .keep [2, 3, 4]]
def r6_1 : List G := [.op (.call (some 17) 10 []) none,
  .op (.not 18 (.tmp 17)) none,
  .op (.mov 19 (.tmp 18)) none,
  .op (.mov 20 (.tmp 2)) (some (19, false)),
  .op (.lenS 21 (.tmp 20)) (some (19, false)),
  .op (.ari 22 .gtr .i64 (.tmp 21) (.const (.int .i64 256))) (some (19, false)),
  .op (.pick 23 (.tmp 19) (.const (.bool true)) (.tmp 22)) none,
  .keep [2, 3, 4, 23]]
def r6_2 : List G := [.op (.call (some 24) 10 []) none,
  .op (.mov 6 (.tmp 24)) none,
  .keep [6]]
def r6_3 : List G := [.op (.loadN 26 16 (.tmp 4)) none,
  .op (.mov 27 (.tmp 2)) none,
  .op (.call (some 28) 11 [(.tmp 26), (.tmp 27)]) none,
  .op (.mov 25 (.tmp 28)) none,
  .op (.ext 29 0 (.tmp 25)) none,
  .op (.ext 30 1 (.tmp 25)) none,
  .op (.mov 7 (.tmp 29)) none,
  .op (.mov 8 (.tmp 30)) none,
  .keep [2, 3, 4, 7, 8]]
def r6_4 : List G := [.op (.loadN 32 256 (.tmp 3)) none,
  .op (.mov 33 (.tmp 7)) none,
  .op (.call (some 34) 14 [(.tmp 32), (.tmp 33)]) none,
  .op (.mov 31 (.tmp 34)) none,
  .op (.ext 35 0 (.tmp 31)) none,
  .op (.ext 36 1 (.tmp 31)) none,
  .op (.mov 9 (.tmp 35)) none,
  .op (.mov 10 (.tmp 36)) none,
  .keep [2, 3, 4, 8, 9, 10]]
def r6_5 : List G := [.op (.mov 37 (.tmp 8)) none,
  .op (.ari 38 .neq .i64 (.tmp 37) (.const (.int .i64 0))) none,
  .keep [2, 3, 4, 9, 10, 38]]
def r6_6 : List G := [.op (.mov 39 (.tmp 9)) none,
  .op (.ari 40 .eql .i64 (.tmp 39) (.const (.int .i64 0))) none,
  .op (.mov 41 (.tmp 40)) none,
  .op (.mov 42 (.tmp 10)) (some (41, true)),
  .op (.not 43 (.tmp 42)) (some (41, true)),
  .op (.pick 44 (.tmp 41) (.tmp 43) (.const (.bool false))) none,
  .op (.mov 6 (.tmp 44)) none,
  .keep [6]]
def r6_7 : List G := [.op (.loadN 46 16 (.tmp 4)) none,
  .op (.mov 47 (.tmp 2)) none,
  .op (.call (some 48) 15 [(.tmp 46), (.tmp 47)]) none,
  .op (.mov 45 (.tmp 48)) none,
  .op (.ext 49 0 (.tmp 45)) none,
  .op (.ext 50 1 (.tmp 45)) none,
  .op (.mov 11 (.tmp 49)) none,
  .op (.mov 12 (.tmp 50)) none,
  .keep [3, 9, 10, 11]]
def r6_8 : List G := [.op (.mov 13 (.const (.int .i64 0))) none,
  .keep [3, 9, 10, 11, 13]]
def r6_9 : List G := [.op (.mov 14 (.const (.int .i64 0))) none,
  .keep [3, 9, 10, 11, 13, 14]]
def r6_10 : List G := [.op (.mov 51 (.tmp 14)) none,
  .op (.ari 52 .lss .i64 (.tmp 51) (.const (.int .i64 256))) none,
  .keep [3, 9, 10, 11, 13, 14, 52]]
def r6_12 : List G := [.op (.mov 56 (.tmp 11)) none,
  .op (.mov 57 (.tmp 14)) none,
  .op (.call (some 58) 16 [(.tmp 56), (.tmp 57)]) none,
  .op (.mov 55 (.tmp 58)) none,
  .op (.ext 59 0 (.tmp 55)) none,
  .op (.ext 60 1 (.tmp 55)) none,
  .op (.alloc 15 43) none,
  .op (.storeN 3 (.tmp 15) (.tmp 59)) none,
  .op (.mov 16 (.tmp 60)) none,
  .keep [3, 9, 10, 11, 13, 14, 15, 16]]
def r6_13 : List G := [.op (.mov 61 (.tmp 14)) none,
  .op (.iaddrA 62 256 1 (.tmp 3) (.tmp 61)) none,
  .op (.load 63 (.tmp 62)) none,
  .op (.ari 64 .lss .i64 (.tmp 63) (.const (.int .i64 0))) none,
  .op (.mov 65 (.tmp 64)) none,
  .op (.mov 66 (.tmp 14)) (some (65, false)),
  .op (.iaddrA 67 256 1 (.tmp 3) (.tmp 66)) (some (65, false)),
  .op (.load 68 (.tmp 67)) (some (65, false)),
  .op (.ari 69 .gtr .i64 (.tmp 68) (.const (.int .i64 1099511627776))) (some (65, false)),
  .op (.pick 70 (.tmp 65) (.const (.bool true)) (.tmp 69)) none,
  .op (.mov 71 (.tmp 70)) none,
  .op (.mov 72 (.tmp 14)) (some (71, false)),
  .op (.iaddrA 73 256 1 (.tmp 3) (.tmp 72)) (some (71, false)),
  .op (.load 74 (.tmp 73)) (some (71, false)),
  .op (.ari 75 .gtr .i64 (.tmp 74) (.const (.int .i64 0))) (some (71, false)),
  .op (.mov 76 (.tmp 75)) (some (71, false)),
  .op (.mov 77 (.tmp 16)) (some (76, true)),
  .op (.not 78 (.tmp 77)) (some (76, true)),
  .op (.pick 79 (.tmp 76) (.tmp 78) (.const (.bool false))) (some (71, false)),
  .op (.pick 80 (.tmp 71) (.const (.bool true)) (.tmp 79)) none,
  .keep [3, 9, 10, 11, 13, 14, 15, 80]]
def r6_14 : List G := [.op (.mov 81 (.tmp 9)) none,
  .op (.ari 82 .eql .i64 (.tmp 81) (.const (.int .i64 0))) none,
  .op (.mov 83 (.tmp 82)) none,
  .op (.mov 84 (.tmp 10)) (some (83, true)),
  .op (.not 85 (.tmp 84)) (some (83, true)),
  .op (.pick 86 (.tmp 83) (.tmp 85) (.const (.bool false))) none,
  .op (.mov 6 (.tmp 86)) none,
  .keep [6]]
def r6_15 : List G := [.op (.mov 87 (.tmp 13)) none,
  .op (.mov 88 (.tmp 14)) none,
  .op (.iaddrA 89 256 1 (.tmp 3) (.tmp 88)) none,
  .op (.load 90 (.tmp 89)) none,
  .op (.faddr 91 2 (.tmp 15)) none,
  .op (.load 92 (.tmp 91)) none,
  .op (.ari 93 .mul .i64 (.tmp 90) (.tmp 92)) none,
  .op (.ari 94 .add .i64 (.tmp 87) (.tmp 93)) none,
  .op (.mov 13 (.tmp 94)) none,
  .keep [3, 9, 10, 11, 13, 14]]
def r6_11 : List G := [.op (.mov 53 (.tmp 14)) none,
  .op (.ari 54 .add .i64 (.tmp 53) (.const (.int .i64 1))) none,
  .op (.mov 14 (.tmp 54)) none,
  .keep [3, 9, 10, 11, 13, 14]]
def r6_16 : List G := [.op (.mov 95 (.tmp 10)) none,
  .op (.mov 96 (.tmp 95)) none,
  .op (.mov 97 (.tmp 9)) (some (96, true)),
  .op (.mov 98 (.tmp 13)) (some (96, true)),
  .op (.ari 99 .eql .i64 (.tmp 97) (.tmp 98)) (some (96, true)),
  .op (.pick 100 (.tmp 96) (.tmp 99) (.const (.bool false))) none,
  .op (.mov 6 (.tmp 100)) none,
  .keep [6]]
def c6 : C := (.seq (.region r6_0) (.seq (.seq (.region r6_1) (.cond (.tmp 23) (.seq (.region r6_2) .ret) .skip)) (.seq (.region r6_3) (.seq (.region r6_4) (.seq (.seq (.region r6_5) (.cond (.tmp 38) (.seq (.region r6_6) .ret) .skip)) (.seq (.region r6_7) (.seq (.region r6_8) (.seq (.seq (.region r6_9) (.block 0 (.loop (.seq (.seq (.region r6_10) (.cond (.tmp 52) .skip (.exit 0))) (.seq (.block 1 (.seq (.region r6_12) (.seq (.seq (.region r6_13) (.cond (.tmp 80) (.seq (.region r6_14) .ret) .skip)) (.regionD r6_15)))) (.region r6_11)))))) (.seq (.region r6_16) .ret)))))))))
theorem x6 : (∀ (K : Env → World → Prop) (pan : List PanicEntry → World → Prop) (e : Env) (w : World), vcOps Try.prog r6_0 K pan e w = vcOps Try.prog [.op (.box 3 22 (.tmp 0)) none, .op (.box 4 23 (.tmp 1)) none, .op (.mov 6 (.const (.bool false))) none, .keep [2, 3, 4]] K pan e w) ∧
  (∀ (K : Env → World → Prop) (pan : List PanicEntry → World → Prop) (e : Env) (w : World), vcOps Try.prog r6_1 K pan e w = vcOps Try.prog [.op (.call (some 17) 10 []) none, .op (.not 18 (.tmp 17)) none, .op (.mov 19 (.tmp 18)) none, .op (.mov 20 (.tmp 2)) (some (19, false)), .op (.lenS 21 (.tmp 20)) (some (19, false)), .op (.ari 22 .gtr .i64 (.tmp 21) (.const (.int .i64 256))) (some (19, false)), .op (.pick 23 (.tmp 19) (.const (.bool true)) (.tmp 22)) none, .keep [2, 3, 4, 23]] K pan e w) ∧
  (∀ (K : Env → World → Prop) (pan : List PanicEntry → World → Prop) (e : Env) (w : World), vcOps Try.prog r6_2 K pan e w = vcOps Try.prog [.op (.call (some 24) 10 []) none, .op (.mov 6 (.tmp 24)) none, .keep [6]] K pan e w) ∧
  (∀ (K : Env → World → Prop) (pan : List PanicEntry → World → Prop) (e : Env) (w : World), vcOps Try.prog r6_3 K pan e w = vcOps Try.prog [.op (.loadN 26 16 (.tmp 4)) none, .op (.mov 27 (.tmp 2)) none, .op (.call (some 28) 11 [(.tmp 26), (.tmp 27)]) none, .op (.mov 25 (.tmp 28)) none, .op (.ext 29 0 (.tmp 25)) none, .op (.ext 30 1 (.tmp 25)) none, .op (.mov 7 (.tmp 29)) none, .op (.mov 8 (.tmp 30)) none, .keep [2, 3, 4, 7, 8]] K pan e w) ∧
  (∀ (K : Env → World → Prop) (pan : List PanicEntry → World → Prop) (e : Env) (w : World), vcOps Try.prog r6_4 K pan e w = vcOps Try.prog [.op (.loadN 32 256 (.tmp 3)) none, .op (.mov 33 (.tmp 7)) none, .op (.call (some 34) 14 [(.tmp 32), (.tmp 33)]) none, .op (.mov 31 (.tmp 34)) none, .op (.ext 35 0 (.tmp 31)) none, .op (.ext 36 1 (.tmp 31)) none, .op (.mov 9 (.tmp 35)) none, .op (.mov 10 (.tmp 36)) none, .keep [2, 3, 4, 8, 9, 10]] K pan e w) ∧
  (∀ (K : Env → World → Prop) (pan : List PanicEntry → World → Prop) (e : Env) (w : World), vcOps Try.prog r6_5 K pan e w = vcOps Try.prog [.op (.mov 37 (.tmp 8)) none, .op (.ari 38 .neq .i64 (.tmp 37) (.const (.int .i64 0))) none, .keep [2, 3, 4, 9, 10, 38]] K pan e w) ∧
  (∀ (K : Env → World → Prop) (pan : List PanicEntry → World → Prop) (e : Env) (w : World), vcOps Try.prog r6_6 K pan e w = vcOps Try.prog [.op (.mov 39 (.tmp 9)) none, .op (.ari 40 .eql .i64 (.tmp 39) (.const (.int .i64 0))) none, .op (.mov 41 (.tmp 40)) none, .op (.mov 42 (.tmp 10)) (some (41, true)), .op (.not 43 (.tmp 42)) (some (41, true)), .op (.pick 44 (.tmp 41) (.tmp 43) (.const (.bool false))) none, .op (.mov 6 (.tmp 44)) none, .keep [6]] K pan e w) ∧
  (∀ (K : Env → World → Prop) (pan : List PanicEntry → World → Prop) (e : Env) (w : World), vcOps Try.prog r6_7 K pan e w = vcOps Try.prog [.op (.loadN 46 16 (.tmp 4)) none, .op (.mov 47 (.tmp 2)) none, .op (.call (some 48) 15 [(.tmp 46), (.tmp 47)]) none, .op (.mov 45 (.tmp 48)) none, .op (.ext 49 0 (.tmp 45)) none, .op (.ext 50 1 (.tmp 45)) none, .op (.mov 11 (.tmp 49)) none, .op (.mov 12 (.tmp 50)) none, .keep [3, 9, 10, 11]] K pan e w) ∧
  (∀ (K : Env → World → Prop) (pan : List PanicEntry → World → Prop) (e : Env) (w : World), vcOps Try.prog r6_8 K pan e w = vcOps Try.prog [.op (.mov 13 (.const (.int .i64 0))) none, .keep [3, 9, 10, 11, 13]] K pan e w) ∧
  (∀ (K : Env → World → Prop) (pan : List PanicEntry → World → Prop) (e : Env) (w : World), vcOps Try.prog r6_9 K pan e w = vcOps Try.prog [.op (.mov 14 (.const (.int .i64 0))) none, .keep [3, 9, 10, 11, 13, 14]] K pan e w) ∧
  (∀ (K : Env → World → Prop) (pan : List PanicEntry → World → Prop) (e : Env) (w : World), vcOps Try.prog r6_10 K pan e w = vcOps Try.prog [.op (.mov 51 (.tmp 14)) none, .op (.ari 52 .lss .i64 (.tmp 51) (.const (.int .i64 256))) none, .keep [3, 9, 10, 11, 13, 14, 52]] K pan e w) ∧
  (∀ (K : Env → World → Prop) (pan : List PanicEntry → World → Prop) (e : Env) (w : World), vcOps Try.prog r6_12 K pan e w = vcOps Try.prog [.op (.mov 56 (.tmp 11)) none, .op (.mov 57 (.tmp 14)) none, .op (.call (some 58) 16 [(.tmp 56), (.tmp 57)]) none, .op (.mov 55 (.tmp 58)) none, .op (.ext 59 0 (.tmp 55)) none, .op (.ext 60 1 (.tmp 55)) none, .op (.alloc 15 43) none, .op (.storeN 3 (.tmp 15) (.tmp 59)) none, .op (.mov 16 (.tmp 60)) none, .keep [3, 9, 10, 11, 13, 14, 15, 16]] K pan e w) ∧
  (∀ (K : Env → World → Prop) (pan : List PanicEntry → World → Prop) (e : Env) (w : World), vcOps Try.prog r6_13 K pan e w = vcOps Try.prog [.op (.mov 61 (.tmp 14)) none, .op (.iaddrA 62 256 1 (.tmp 3) (.tmp 61)) none, .op (.load 63 (.tmp 62)) none, .op (.ari 64 .lss .i64 (.tmp 63) (.const (.int .i64 0))) none, .op (.mov 65 (.tmp 64)) none, .op (.mov 66 (.tmp 14)) (some (65, false)), .op (.iaddrA 67 256 1 (.tmp 3) (.tmp 66)) (some (65, false)), .op (.load 68 (.tmp 67)) (some (65, false)), .op (.ari 69 .gtr .i64 (.tmp 68) (.const (.int .i64 1099511627776))) (some (65, false)), .op (.pick 70 (.tmp 65) (.const (.bool true)) (.tmp 69)) none, .op (.mov 71 (.tmp 70)) none, .op (.mov 72 (.tmp 14)) (some (71, false)), .op (.iaddrA 73 256 1 (.tmp 3) (.tmp 72)) (some (71, false)), .op (.load 74 (.tmp 73)) (some (71, false)), .op (.ari 75 .gtr .i64 (.tmp 74) (.const (.int .i64 0))) (some (71, false)), .op (.mov 76 (.tmp 75)) (some (71, false)), .op (.mov 77 (.tmp 16)) (some (76, true)), .op (.not 78 (.tmp 77)) (some (76, true)), .op (.pick 79 (.tmp 76) (.tmp 78) (.const (.bool false))) (some (71, false)), .op (.pick 80 (.tmp 71) (.const (.bool true)) (.tmp 79)) none, .keep [3, 9, 10, 11, 13, 14, 15, 80]] K pan e w) ∧
  (∀ (K : Env → World → Prop) (pan : List PanicEntry → World → Prop) (e : Env) (w : World), vcOps Try.prog r6_14 K pan e w = vcOps Try.prog [.op (.mov 81 (.tmp 9)) none, .op (.ari 82 .eql .i64 (.tmp 81) (.const (.int .i64 0))) none, .op (.mov 83 (.tmp 82)) none, .op (.mov 84 (.tmp 10)) (some (83, true)), .op (.not 85 (.tmp 84)) (some (83, true)), .op (.pick 86 (.tmp 83) (.tmp 85) (.const (.bool false))) none, .op (.mov 6 (.tmp 86)) none, .keep [6]] K pan e w) ∧
  (∀ (K : Env → World → Prop) (pan : List PanicEntry → World → Prop) (e : Env) (w : World), vcOps Try.prog r6_15 K pan e w = vcOps Try.prog [.op (.mov 87 (.tmp 13)) none, .op (.mov 88 (.tmp 14)) none, .op (.iaddrA 89 256 1 (.tmp 3) (.tmp 88)) none, .op (.load 90 (.tmp 89)) none, .op (.faddr 91 2 (.tmp 15)) none, .op (.load 92 (.tmp 91)) none, .op (.ari 93 .mul .i64 (.tmp 90) (.tmp 92)) none, .op (.ari 94 .add .i64 (.tmp 87) (.tmp 93)) none, .op (.mov 13 (.tmp 94)) none, .keep [3, 9, 10, 11, 13, 14]] K pan e w) ∧
  (∀ (K : Env → World → Prop) (pan : List PanicEntry → World → Prop) (e : Env) (w : World), vcOps Try.prog r6_11 K pan e w = vcOps Try.prog [.op (.mov 53 (.tmp 14)) none, .op (.ari 54 .add .i64 (.tmp 53) (.const (.int .i64 1))) none, .op (.mov 14 (.tmp 54)) none, .keep [3, 9, 10, 11, 13, 14]] K pan e w) ∧
  (∀ (K : Env → World → Prop) (pan : List PanicEntry → World → Prop) (e : Env) (w : World), vcOps Try.prog r6_16 K pan e w = vcOps Try.prog [.op (.mov 95 (.tmp 10)) none, .op (.mov 96 (.tmp 95)) none, .op (.mov 97 (.tmp 9)) (some (96, true)), .op (.mov 98 (.tmp 13)) (some (96, true)), .op (.ari 99 .eql .i64 (.tmp 97) (.tmp 98)) (some (96, true)), .op (.pick 100 (.tmp 96) (.tmp 99) (.const (.bool false))) none, .op (.mov 6 (.tmp 100)) none, .keep [6]] K pan e w) := ⟨fun _ _ _ _ => rfl, fun _ _ _ _ => rfl, fun _ _ _ _ => rfl, fun _ _ _ _ => rfl, fun _ _ _ _ => rfl, fun _ _ _ _ => rfl, fun _ _ _ _ => rfl, fun _ _ _ _ => rfl, fun _ _ _ _ => rfl, fun _ _ _ _ => rfl, fun _ _ _ _ => rfl, fun _ _ _ _ => rfl, fun _ _ _ _ => rfl, fun _ _ _ _ => rfl, fun _ _ _ _ => rfl, fun _ _ _ _ => rfl, fun _ _ _ _ => rfl⟩
theorem low6 : Try.f6.body.bind (lowerC Try.prog 101 (fun i => List.lookup i [(15, [(0, 0), (1, 0), (2, 0), (3, 0), (4, 0), (5, 0), (6, 0), (7, 0), (8, 0)])])) = some c6.erase := by kernel_rfl
theorem enter6 {args : List Value} {w : World} {R : Ending → World → Prop} (ha : args.length ≤ 101) (h : vc Try.prog c6 (endPost [.t 6] R) (argEnv 0 args) w) : Calls Try.prog 6 args.toArray w R :=
  calls_of_vc Try.func6 rfl low6 rfl ha h
/-- The code of aquatint/aquatintlaw06.BestBeats. -/
def r7_0 : List G := [.op (.box 1 22 (.tmp 0)) none,
  .op (.mov 2 (.const (.bool false))) none,
  .keep [1]]
def r7_1 : List G := [.op (.loadN 14 256 (.tmp 1)) none,
  .op (.call (some 15) 9 [(.tmp 14)]) none,
  .op (.not 16 (.tmp 15)) none,
  .keep [1, 16]]
def r7_2 : List G := [.op (.call (some 17) 10 []) none,
  .op (.mov 2 (.tmp 17)) none,
  .keep [2]]
def r7_3 : List G := [.op (.loadN 19 256 (.tmp 1)) none,
  .op (.call (some 20) 8 [(.tmp 19)]) none,
  .op (.mov 18 (.tmp 20)) none,
  .op (.ext 21 0 (.tmp 18)) none,
  .op (.ext 22 1 (.tmp 18)) none,
  .op (.ext 23 2 (.tmp 18)) none,
  .op (.alloc 3 23) none,
  .op (.storeN 16 (.tmp 3) (.tmp 21)) none,
  .op (.mov 4 (.tmp 22)) none,
  .op (.mov 5 (.tmp 23)) none,
  .keep [1, 3, 4]]
def r7_4 : List G := [.op (.loadN 25 16 (.tmp 3)) none,
  .op (.mov 26 (.tmp 4)) none,
  .op (.call (some 27) 11 [(.tmp 25), (.tmp 26)]) none,
  .op (.mov 24 (.tmp 27)) none,
  .op (.ext 28 0 (.tmp 24)) none,
  .op (.ext 29 1 (.tmp 24)) none,
  .op (.mov 6 (.tmp 28)) none,
  .op (.mov 7 (.tmp 29)) none,
  .keep [1, 4, 6, 7]]
def r7_5 : List G := [.op (.loadN 31 256 (.tmp 1)) none,
  .op (.mov 32 (.tmp 6)) none,
  .op (.call (some 33) 14 [(.tmp 31), (.tmp 32)]) none,
  .op (.mov 30 (.tmp 33)) none,
  .op (.ext 34 0 (.tmp 30)) none,
  .op (.ext 35 1 (.tmp 30)) none,
  .op (.mov 8 (.tmp 34)) none,
  .op (.mov 9 (.tmp 35)) none,
  .keep [1, 4, 7, 8, 9]]
def r7_6 : List G := [.op (.mov 36 (.tmp 7)) none,
  .op (.ari 37 .neq .i64 (.tmp 36) (.const (.int .i64 0))) none,
  .op (.mov 38 (.tmp 37)) none,
  .op (.mov 39 (.tmp 9)) (some (38, false)),
  .op (.not 40 (.tmp 39)) (some (38, false)),
  .op (.pick 41 (.tmp 38) (.const (.bool true)) (.tmp 40)) none,
  .keep [1, 4, 8, 41]]
def r7_7 : List G := [.op (.mov 2 (.const (.bool false))) none,
  .keep [2]]
def r7_8 : List G := [.op (.mov 10 (.const (.int .i64 0))) none,
  .keep [1, 4, 8, 10]]
def r7_9 : List G := [.op (.mov 11 (.const (.int .i64 1))) none,
  .keep [1, 4, 8, 10, 11]]
def r7_10 : List G := [.op (.mov 12 (.const (.int .i64 0))) none,
  .keep [1, 4, 8, 10, 11, 12]]
def r7_11 : List G := [.op (.mov 42 (.tmp 12)) none,
  .op (.ari 43 .lss .i64 (.tmp 42) (.const (.int .i64 256))) none,
  .keep [1, 4, 8, 10, 11, 12, 43]]
def r7_13 : List G := [.op (.mov 46 (.tmp 12)) none,
  .op (.iaddrA 47 256 1 (.tmp 1) (.tmp 46)) none,
  .op (.load 48 (.tmp 47)) none,
  .op (.ari 49 .gtr .i64 (.tmp 48) (.const (.int .i64 2000))) none,
  .op (.mov 50 (.tmp 49)) none,
  .op (.mov 51 (.tmp 10)) (some (50, false)),
  .op (.ari 52 .gtr .i64 (.tmp 51) (.const (.int .i64 2000))) (some (50, false)),
  .op (.pick 53 (.tmp 50) (.const (.bool true)) (.tmp 52)) none,
  .keep [1, 4, 8, 10, 11, 12, 53]]
def r7_14 : List G := [.op (.call (some 54) 10 []) none,
  .op (.mov 2 (.tmp 54)) none,
  .keep [2]]
def r7_15 : List G := [.op (.mov 55 (.tmp 10)) none,
  .op (.mov 56 (.tmp 12)) none,
  .op (.iaddrA 57 256 1 (.tmp 1) (.tmp 56)) none,
  .op (.load 58 (.tmp 57)) none,
  .op (.ari 59 .add .i64 (.tmp 55) (.tmp 58)) none,
  .op (.mov 10 (.tmp 59)) none,
  .keep [1, 4, 8, 10, 11, 12]]
def r7_12 : List G := [.op (.mov 44 (.tmp 12)) none,
  .op (.ari 45 .add .i64 (.tmp 44) (.const (.int .i64 1))) none,
  .op (.mov 12 (.tmp 45)) none,
  .keep [1, 4, 8, 10, 11, 12]]
def r7_16 : List G := [.op (.mov 60 (.tmp 10)) none,
  .op (.ari 61 .gtr .i64 (.tmp 60) (.const (.int .i64 2000))) none,
  .keep [4, 8, 10, 11, 61]]
def r7_17 : List G := [.op (.call (some 62) 10 []) none,
  .op (.mov 2 (.tmp 62)) none,
  .keep [2]]
def r7_18 : List G := [.op (.mov 63 (.tmp 4)) none,
  .op (.lenS 64 (.tmp 63)) none,
  .op (.mov 13 (.tmp 64)) none,
  .keep [8, 10, 11, 13]]
def r7_19 : List G := [.op (.mov 65 (.tmp 13)) none,
  .op (.ari 66 .gtr .i64 (.tmp 65) (.const (.int .i64 1))) none,
  .keep [8, 10, 11, 13, 66]]
def r7_21 : List G := [.op (.mov 69 (.tmp 11)) none,
  .op (.ari 70 .add .i64 (.tmp 69) (.const (.int .i64 1))) none,
  .op (.mov 11 (.tmp 70)) none,
  .keep [8, 10, 11, 13]]
def r7_20 : List G := [.op (.mov 67 (.tmp 13)) none,
  .op (.ari 68 .quo .i64 (.tmp 67) (.const (.int .i64 2))) none,
  .op (.mov 13 (.tmp 68)) none,
  .keep [8, 10, 11, 13]]
def r7_22 : List G := [.op (.call (some 71) 10 []) none,
  .op (.mov 72 (.tmp 71)) none,
  .op (.mov 73 (.tmp 8)) (some (72, true)),
  .op (.mov 74 (.tmp 10)) (some (72, true)),
  .op (.mov 75 (.tmp 11)) (some (72, true)),
  .op (.ari 76 .mul .i64 (.tmp 74) (.tmp 75)) (some (72, true)),
  .op (.mov 77 (.tmp 11)) (some (72, true)),
  .op (.ari 78 .add .i64 (.tmp 76) (.tmp 77)) (some (72, true)),
  .op (.ari 79 .leq .i64 (.tmp 73) (.tmp 78)) (some (72, true)),
  .op (.pick 80 (.tmp 72) (.tmp 79) (.const (.bool false))) none,
  .op (.mov 2 (.tmp 80)) none,
  .keep [2]]
def c7 : C := (.seq (.region r7_0) (.seq (.seq (.region r7_1) (.cond (.tmp 16) (.seq (.region r7_2) .ret) .skip)) (.seq (.region r7_3) (.seq (.region r7_4) (.seq (.region r7_5) (.seq (.seq (.region r7_6) (.cond (.tmp 41) (.seq (.region r7_7) .ret) .skip)) (.seq (.region r7_8) (.seq (.region r7_9) (.seq (.seq (.region r7_10) (.block 0 (.loop (.seq (.seq (.region r7_11) (.cond (.tmp 43) .skip (.exit 0))) (.seq (.block 1 (.seq (.seq (.region r7_13) (.cond (.tmp 53) (.seq (.region r7_14) .ret) .skip)) (.region r7_15))) (.region r7_12)))))) (.seq (.seq (.region r7_16) (.cond (.tmp 61) (.seq (.region r7_17) .ret) .skip)) (.seq (.seq (.region r7_18) (.block 2 (.loop (.seq (.seq (.region r7_19) (.cond (.tmp 66) .skip (.exit 2))) (.seq (.block 3 (.region r7_21)) (.region r7_20)))))) (.seq (.region r7_22) .ret))))))))))))
theorem x7 : (∀ (K : Env → World → Prop) (pan : List PanicEntry → World → Prop) (e : Env) (w : World), vcOps Try.prog r7_0 K pan e w = vcOps Try.prog [.op (.box 1 22 (.tmp 0)) none, .op (.mov 2 (.const (.bool false))) none, .keep [1]] K pan e w) ∧
  (∀ (K : Env → World → Prop) (pan : List PanicEntry → World → Prop) (e : Env) (w : World), vcOps Try.prog r7_1 K pan e w = vcOps Try.prog [.op (.loadN 14 256 (.tmp 1)) none, .op (.call (some 15) 9 [(.tmp 14)]) none, .op (.not 16 (.tmp 15)) none, .keep [1, 16]] K pan e w) ∧
  (∀ (K : Env → World → Prop) (pan : List PanicEntry → World → Prop) (e : Env) (w : World), vcOps Try.prog r7_2 K pan e w = vcOps Try.prog [.op (.call (some 17) 10 []) none, .op (.mov 2 (.tmp 17)) none, .keep [2]] K pan e w) ∧
  (∀ (K : Env → World → Prop) (pan : List PanicEntry → World → Prop) (e : Env) (w : World), vcOps Try.prog r7_3 K pan e w = vcOps Try.prog [.op (.loadN 19 256 (.tmp 1)) none, .op (.call (some 20) 8 [(.tmp 19)]) none, .op (.mov 18 (.tmp 20)) none, .op (.ext 21 0 (.tmp 18)) none, .op (.ext 22 1 (.tmp 18)) none, .op (.ext 23 2 (.tmp 18)) none, .op (.alloc 3 23) none, .op (.storeN 16 (.tmp 3) (.tmp 21)) none, .op (.mov 4 (.tmp 22)) none, .op (.mov 5 (.tmp 23)) none, .keep [1, 3, 4]] K pan e w) ∧
  (∀ (K : Env → World → Prop) (pan : List PanicEntry → World → Prop) (e : Env) (w : World), vcOps Try.prog r7_4 K pan e w = vcOps Try.prog [.op (.loadN 25 16 (.tmp 3)) none, .op (.mov 26 (.tmp 4)) none, .op (.call (some 27) 11 [(.tmp 25), (.tmp 26)]) none, .op (.mov 24 (.tmp 27)) none, .op (.ext 28 0 (.tmp 24)) none, .op (.ext 29 1 (.tmp 24)) none, .op (.mov 6 (.tmp 28)) none, .op (.mov 7 (.tmp 29)) none, .keep [1, 4, 6, 7]] K pan e w) ∧
  (∀ (K : Env → World → Prop) (pan : List PanicEntry → World → Prop) (e : Env) (w : World), vcOps Try.prog r7_5 K pan e w = vcOps Try.prog [.op (.loadN 31 256 (.tmp 1)) none, .op (.mov 32 (.tmp 6)) none, .op (.call (some 33) 14 [(.tmp 31), (.tmp 32)]) none, .op (.mov 30 (.tmp 33)) none, .op (.ext 34 0 (.tmp 30)) none, .op (.ext 35 1 (.tmp 30)) none, .op (.mov 8 (.tmp 34)) none, .op (.mov 9 (.tmp 35)) none, .keep [1, 4, 7, 8, 9]] K pan e w) ∧
  (∀ (K : Env → World → Prop) (pan : List PanicEntry → World → Prop) (e : Env) (w : World), vcOps Try.prog r7_6 K pan e w = vcOps Try.prog [.op (.mov 36 (.tmp 7)) none, .op (.ari 37 .neq .i64 (.tmp 36) (.const (.int .i64 0))) none, .op (.mov 38 (.tmp 37)) none, .op (.mov 39 (.tmp 9)) (some (38, false)), .op (.not 40 (.tmp 39)) (some (38, false)), .op (.pick 41 (.tmp 38) (.const (.bool true)) (.tmp 40)) none, .keep [1, 4, 8, 41]] K pan e w) ∧
  (∀ (K : Env → World → Prop) (pan : List PanicEntry → World → Prop) (e : Env) (w : World), vcOps Try.prog r7_7 K pan e w = vcOps Try.prog [.op (.mov 2 (.const (.bool false))) none, .keep [2]] K pan e w) ∧
  (∀ (K : Env → World → Prop) (pan : List PanicEntry → World → Prop) (e : Env) (w : World), vcOps Try.prog r7_8 K pan e w = vcOps Try.prog [.op (.mov 10 (.const (.int .i64 0))) none, .keep [1, 4, 8, 10]] K pan e w) ∧
  (∀ (K : Env → World → Prop) (pan : List PanicEntry → World → Prop) (e : Env) (w : World), vcOps Try.prog r7_9 K pan e w = vcOps Try.prog [.op (.mov 11 (.const (.int .i64 1))) none, .keep [1, 4, 8, 10, 11]] K pan e w) ∧
  (∀ (K : Env → World → Prop) (pan : List PanicEntry → World → Prop) (e : Env) (w : World), vcOps Try.prog r7_10 K pan e w = vcOps Try.prog [.op (.mov 12 (.const (.int .i64 0))) none, .keep [1, 4, 8, 10, 11, 12]] K pan e w) ∧
  (∀ (K : Env → World → Prop) (pan : List PanicEntry → World → Prop) (e : Env) (w : World), vcOps Try.prog r7_11 K pan e w = vcOps Try.prog [.op (.mov 42 (.tmp 12)) none, .op (.ari 43 .lss .i64 (.tmp 42) (.const (.int .i64 256))) none, .keep [1, 4, 8, 10, 11, 12, 43]] K pan e w) ∧
  (∀ (K : Env → World → Prop) (pan : List PanicEntry → World → Prop) (e : Env) (w : World), vcOps Try.prog r7_13 K pan e w = vcOps Try.prog [.op (.mov 46 (.tmp 12)) none, .op (.iaddrA 47 256 1 (.tmp 1) (.tmp 46)) none, .op (.load 48 (.tmp 47)) none, .op (.ari 49 .gtr .i64 (.tmp 48) (.const (.int .i64 2000))) none, .op (.mov 50 (.tmp 49)) none, .op (.mov 51 (.tmp 10)) (some (50, false)), .op (.ari 52 .gtr .i64 (.tmp 51) (.const (.int .i64 2000))) (some (50, false)), .op (.pick 53 (.tmp 50) (.const (.bool true)) (.tmp 52)) none, .keep [1, 4, 8, 10, 11, 12, 53]] K pan e w) ∧
  (∀ (K : Env → World → Prop) (pan : List PanicEntry → World → Prop) (e : Env) (w : World), vcOps Try.prog r7_14 K pan e w = vcOps Try.prog [.op (.call (some 54) 10 []) none, .op (.mov 2 (.tmp 54)) none, .keep [2]] K pan e w) ∧
  (∀ (K : Env → World → Prop) (pan : List PanicEntry → World → Prop) (e : Env) (w : World), vcOps Try.prog r7_15 K pan e w = vcOps Try.prog [.op (.mov 55 (.tmp 10)) none, .op (.mov 56 (.tmp 12)) none, .op (.iaddrA 57 256 1 (.tmp 1) (.tmp 56)) none, .op (.load 58 (.tmp 57)) none, .op (.ari 59 .add .i64 (.tmp 55) (.tmp 58)) none, .op (.mov 10 (.tmp 59)) none, .keep [1, 4, 8, 10, 11, 12]] K pan e w) ∧
  (∀ (K : Env → World → Prop) (pan : List PanicEntry → World → Prop) (e : Env) (w : World), vcOps Try.prog r7_12 K pan e w = vcOps Try.prog [.op (.mov 44 (.tmp 12)) none, .op (.ari 45 .add .i64 (.tmp 44) (.const (.int .i64 1))) none, .op (.mov 12 (.tmp 45)) none, .keep [1, 4, 8, 10, 11, 12]] K pan e w) ∧
  (∀ (K : Env → World → Prop) (pan : List PanicEntry → World → Prop) (e : Env) (w : World), vcOps Try.prog r7_16 K pan e w = vcOps Try.prog [.op (.mov 60 (.tmp 10)) none, .op (.ari 61 .gtr .i64 (.tmp 60) (.const (.int .i64 2000))) none, .keep [4, 8, 10, 11, 61]] K pan e w) ∧
  (∀ (K : Env → World → Prop) (pan : List PanicEntry → World → Prop) (e : Env) (w : World), vcOps Try.prog r7_17 K pan e w = vcOps Try.prog [.op (.call (some 62) 10 []) none, .op (.mov 2 (.tmp 62)) none, .keep [2]] K pan e w) ∧
  (∀ (K : Env → World → Prop) (pan : List PanicEntry → World → Prop) (e : Env) (w : World), vcOps Try.prog r7_18 K pan e w = vcOps Try.prog [.op (.mov 63 (.tmp 4)) none, .op (.lenS 64 (.tmp 63)) none, .op (.mov 13 (.tmp 64)) none, .keep [8, 10, 11, 13]] K pan e w) ∧
  (∀ (K : Env → World → Prop) (pan : List PanicEntry → World → Prop) (e : Env) (w : World), vcOps Try.prog r7_19 K pan e w = vcOps Try.prog [.op (.mov 65 (.tmp 13)) none, .op (.ari 66 .gtr .i64 (.tmp 65) (.const (.int .i64 1))) none, .keep [8, 10, 11, 13, 66]] K pan e w) ∧
  (∀ (K : Env → World → Prop) (pan : List PanicEntry → World → Prop) (e : Env) (w : World), vcOps Try.prog r7_21 K pan e w = vcOps Try.prog [.op (.mov 69 (.tmp 11)) none, .op (.ari 70 .add .i64 (.tmp 69) (.const (.int .i64 1))) none, .op (.mov 11 (.tmp 70)) none, .keep [8, 10, 11, 13]] K pan e w) ∧
  (∀ (K : Env → World → Prop) (pan : List PanicEntry → World → Prop) (e : Env) (w : World), vcOps Try.prog r7_20 K pan e w = vcOps Try.prog [.op (.mov 67 (.tmp 13)) none, .op (.ari 68 .quo .i64 (.tmp 67) (.const (.int .i64 2))) none, .op (.mov 13 (.tmp 68)) none, .keep [8, 10, 11, 13]] K pan e w) ∧
  (∀ (K : Env → World → Prop) (pan : List PanicEntry → World → Prop) (e : Env) (w : World), vcOps Try.prog r7_22 K pan e w = vcOps Try.prog [.op (.call (some 71) 10 []) none, .op (.mov 72 (.tmp 71)) none, .op (.mov 73 (.tmp 8)) (some (72, true)), .op (.mov 74 (.tmp 10)) (some (72, true)), .op (.mov 75 (.tmp 11)) (some (72, true)), .op (.ari 76 .mul .i64 (.tmp 74) (.tmp 75)) (some (72, true)), .op (.mov 77 (.tmp 11)) (some (72, true)), .op (.ari 78 .add .i64 (.tmp 76) (.tmp 77)) (some (72, true)), .op (.ari 79 .leq .i64 (.tmp 73) (.tmp 78)) (some (72, true)), .op (.pick 80 (.tmp 72) (.tmp 79) (.const (.bool false))) none, .op (.mov 2 (.tmp 80)) none, .keep [2]] K pan e w) := ⟨fun _ _ _ _ => rfl, fun _ _ _ _ => rfl, fun _ _ _ _ => rfl, fun _ _ _ _ => rfl, fun _ _ _ _ => rfl, fun _ _ _ _ => rfl, fun _ _ _ _ => rfl, fun _ _ _ _ => rfl, fun _ _ _ _ => rfl, fun _ _ _ _ => rfl, fun _ _ _ _ => rfl, fun _ _ _ _ => rfl, fun _ _ _ _ => rfl, fun _ _ _ _ => rfl, fun _ _ _ _ => rfl, fun _ _ _ _ => rfl, fun _ _ _ _ => rfl, fun _ _ _ _ => rfl, fun _ _ _ _ => rfl, fun _ _ _ _ => rfl, fun _ _ _ _ => rfl, fun _ _ _ _ => rfl, fun _ _ _ _ => rfl⟩
theorem low7 : Try.f7.body.bind (lowerC Try.prog 81 (fun _ => none)) = some c7.erase := by kernel_rfl
theorem enter7 {args : List Value} {w : World} {R : Ending → World → Prop} (ha : args.length ≤ 81) (h : vc Try.prog c7 (endPost [.t 2] R) (argEnv 0 args) w) : Calls Try.prog 7 args.toArray w R :=
  calls_of_vc Try.func7 rfl low7 rfl ha h
/-- The code of aquatint/aquatintlaw06.awake. -/
def r10_0 : List G := [.op (.mov 0 (.const (.bool false))) none,
  .keep []]
def r10_1 : List G := [.op (.alloc 1 22) none,
  .keep [1]]
def r10_2 : List G := [.op (.iaddrA 10 256 1 (.tmp 1) (.const (.int .i64 7))) none,
  .op (.store (.tmp 10) (.const (.int .i64 1))) none,
  .keep [1]]
def r10_3 : List G := [.op (.iaddrA 11 256 1 (.tmp 1) (.const (.int .i64 9))) none,
  .op (.store (.tmp 11) (.const (.int .i64 2))) none,
  .keep [1]]
def r10_4 : List G := [.op (.loadN 13 256 (.tmp 1)) none,
  .op (.call (some 14) 8 [(.tmp 13)]) none,
  .op (.mov 12 (.tmp 14)) none,
  .op (.ext 15 0 (.tmp 12)) none,
  .op (.ext 16 1 (.tmp 12)) none,
  .op (.ext 17 2 (.tmp 12)) none,
  .op (.alloc 2 23) none,
  .op (.storeN 16 (.tmp 2) (.tmp 15)) none,
  .op (.mov 3 (.tmp 16)) none,
  .op (.mov 4 (.tmp 17)) none,
  .keep [2, 3, 4]]
def r10_5 : List G := [.op (.loadN 19 16 (.tmp 2)) none,
  .op (.mov 20 (.tmp 3)) none,
  .op (.call (some 21) 11 [(.tmp 19), (.tmp 20)]) none,
  .op (.mov 18 (.tmp 21)) none,
  .op (.ext 22 0 (.tmp 18)) none,
  .op (.ext 23 1 (.tmp 18)) none,
  .op (.mov 5 (.tmp 22)) none,
  .op (.mov 6 (.tmp 23)) none,
  .keep [3, 4, 5, 6]]
def r10_6 : List G := [.op (.mov 25 (.tmp 5)) none,
  .op (.call (some 26) 12 [(.tmp 25), (.const (.int .i64 7))]) none,
  .op (.mov 24 (.tmp 26)) none,
  .op (.ext 27 0 (.tmp 24)) none,
  .op (.ext 28 1 (.tmp 24)) none,
  .op (.ext 29 2 (.tmp 24)) none,
  .op (.mov 7 (.tmp 27)) none,
  .op (.mov 8 (.tmp 28)) none,
  .op (.mov 9 (.tmp 29)) none,
  .keep [3, 4, 6, 7, 8, 9]]
def r10_7 : List G := [.op (.mov 30 (.tmp 4)) none,
  .op (.ari 31 .eql .i64 (.tmp 30) (.const (.int .i64 0))) none,
  .op (.mov 32 (.tmp 31)) none,
  .op (.mov 33 (.tmp 6)) (some (32, true)),
  .op (.ari 34 .eql .i64 (.tmp 33) (.const (.int .i64 0))) (some (32, true)),
  .op (.pick 35 (.tmp 32) (.tmp 34) (.const (.bool false))) none,
  .op (.mov 36 (.tmp 35)) none,
  .op (.mov 37 (.tmp 3)) (some (36, true)),
  .op (.sop 38 .eql (.tmp 37) (.const (.string { data := #[9, 7] }))) (some (36, true)),
  .op (.pick 39 (.tmp 36) (.tmp 38) (.const (.bool false))) none,
  .op (.mov 40 (.tmp 39)) none,
  .op (.mov 41 (.tmp 7)) (some (40, true)),
  .op (.ari 42 .eql .i64 (.tmp 41) (.const (.int .i64 2))) (some (40, true)),
  .op (.pick 43 (.tmp 40) (.tmp 42) (.const (.bool false))) none,
  .op (.mov 44 (.tmp 43)) none,
  .op (.mov 45 (.tmp 8)) (some (44, true)),
  .op (.ari 46 .eql .i64 (.tmp 45) (.const (.int .i64 2))) (some (44, true)),
  .op (.pick 47 (.tmp 44) (.tmp 46) (.const (.bool false))) none,
  .op (.mov 48 (.tmp 47)) none,
  .op (.mov 49 (.tmp 9)) (some (48, true)),
  .op (.pick 50 (.tmp 48) (.tmp 49) (.const (.bool false))) none,
  .op (.mov 0 (.tmp 50)) none,
  .keep [0]]
def c10 : C := (.seq (.region r10_0) (.seq (.region r10_1) (.seq (.region r10_2) (.seq (.region r10_3) (.seq (.region r10_4) (.seq (.region r10_5) (.seq (.region r10_6) (.seq (.region r10_7) .ret))))))))
theorem x10 : (∀ (K : Env → World → Prop) (pan : List PanicEntry → World → Prop) (e : Env) (w : World), vcOps Try.prog r10_0 K pan e w = vcOps Try.prog [.op (.mov 0 (.const (.bool false))) none, .keep []] K pan e w) ∧
  (∀ (K : Env → World → Prop) (pan : List PanicEntry → World → Prop) (e : Env) (w : World), vcOps Try.prog r10_1 K pan e w = vcOps Try.prog [.op (.alloc 1 22) none, .keep [1]] K pan e w) ∧
  (∀ (K : Env → World → Prop) (pan : List PanicEntry → World → Prop) (e : Env) (w : World), vcOps Try.prog r10_2 K pan e w = vcOps Try.prog [.op (.iaddrA 10 256 1 (.tmp 1) (.const (.int .i64 7))) none, .op (.store (.tmp 10) (.const (.int .i64 1))) none, .keep [1]] K pan e w) ∧
  (∀ (K : Env → World → Prop) (pan : List PanicEntry → World → Prop) (e : Env) (w : World), vcOps Try.prog r10_3 K pan e w = vcOps Try.prog [.op (.iaddrA 11 256 1 (.tmp 1) (.const (.int .i64 9))) none, .op (.store (.tmp 11) (.const (.int .i64 2))) none, .keep [1]] K pan e w) ∧
  (∀ (K : Env → World → Prop) (pan : List PanicEntry → World → Prop) (e : Env) (w : World), vcOps Try.prog r10_4 K pan e w = vcOps Try.prog [.op (.loadN 13 256 (.tmp 1)) none, .op (.call (some 14) 8 [(.tmp 13)]) none, .op (.mov 12 (.tmp 14)) none, .op (.ext 15 0 (.tmp 12)) none, .op (.ext 16 1 (.tmp 12)) none, .op (.ext 17 2 (.tmp 12)) none, .op (.alloc 2 23) none, .op (.storeN 16 (.tmp 2) (.tmp 15)) none, .op (.mov 3 (.tmp 16)) none, .op (.mov 4 (.tmp 17)) none, .keep [2, 3, 4]] K pan e w) ∧
  (∀ (K : Env → World → Prop) (pan : List PanicEntry → World → Prop) (e : Env) (w : World), vcOps Try.prog r10_5 K pan e w = vcOps Try.prog [.op (.loadN 19 16 (.tmp 2)) none, .op (.mov 20 (.tmp 3)) none, .op (.call (some 21) 11 [(.tmp 19), (.tmp 20)]) none, .op (.mov 18 (.tmp 21)) none, .op (.ext 22 0 (.tmp 18)) none, .op (.ext 23 1 (.tmp 18)) none, .op (.mov 5 (.tmp 22)) none, .op (.mov 6 (.tmp 23)) none, .keep [3, 4, 5, 6]] K pan e w) ∧
  (∀ (K : Env → World → Prop) (pan : List PanicEntry → World → Prop) (e : Env) (w : World), vcOps Try.prog r10_6 K pan e w = vcOps Try.prog [.op (.mov 25 (.tmp 5)) none, .op (.call (some 26) 12 [(.tmp 25), (.const (.int .i64 7))]) none, .op (.mov 24 (.tmp 26)) none, .op (.ext 27 0 (.tmp 24)) none, .op (.ext 28 1 (.tmp 24)) none, .op (.ext 29 2 (.tmp 24)) none, .op (.mov 7 (.tmp 27)) none, .op (.mov 8 (.tmp 28)) none, .op (.mov 9 (.tmp 29)) none, .keep [3, 4, 6, 7, 8, 9]] K pan e w) ∧
  (∀ (K : Env → World → Prop) (pan : List PanicEntry → World → Prop) (e : Env) (w : World), vcOps Try.prog r10_7 K pan e w = vcOps Try.prog [.op (.mov 30 (.tmp 4)) none, .op (.ari 31 .eql .i64 (.tmp 30) (.const (.int .i64 0))) none, .op (.mov 32 (.tmp 31)) none, .op (.mov 33 (.tmp 6)) (some (32, true)), .op (.ari 34 .eql .i64 (.tmp 33) (.const (.int .i64 0))) (some (32, true)), .op (.pick 35 (.tmp 32) (.tmp 34) (.const (.bool false))) none, .op (.mov 36 (.tmp 35)) none, .op (.mov 37 (.tmp 3)) (some (36, true)), .op (.sop 38 .eql (.tmp 37) (.const (.string { data := #[9, 7] }))) (some (36, true)), .op (.pick 39 (.tmp 36) (.tmp 38) (.const (.bool false))) none, .op (.mov 40 (.tmp 39)) none, .op (.mov 41 (.tmp 7)) (some (40, true)), .op (.ari 42 .eql .i64 (.tmp 41) (.const (.int .i64 2))) (some (40, true)), .op (.pick 43 (.tmp 40) (.tmp 42) (.const (.bool false))) none, .op (.mov 44 (.tmp 43)) none, .op (.mov 45 (.tmp 8)) (some (44, true)), .op (.ari 46 .eql .i64 (.tmp 45) (.const (.int .i64 2))) (some (44, true)), .op (.pick 47 (.tmp 44) (.tmp 46) (.const (.bool false))) none, .op (.mov 48 (.tmp 47)) none, .op (.mov 49 (.tmp 9)) (some (48, true)), .op (.pick 50 (.tmp 48) (.tmp 49) (.const (.bool false))) none, .op (.mov 0 (.tmp 50)) none, .keep [0]] K pan e w) := ⟨fun _ _ _ _ => rfl, fun _ _ _ _ => rfl, fun _ _ _ _ => rfl, fun _ _ _ _ => rfl, fun _ _ _ _ => rfl, fun _ _ _ _ => rfl, fun _ _ _ _ => rfl, fun _ _ _ _ => rfl⟩
theorem low10 : Try.f10.body.bind (lowerC Try.prog 51 (fun _ => none)) = some c10.erase := by kernel_rfl
theorem enter10 {args : List Value} {w : World} {R : Ending → World → Prop} (ha : args.length ≤ 51) (h : vc Try.prog c10 (endPost [.t 0] R) (argEnv 0 args) w) : Calls Try.prog 10 args.toArray w R :=
  calls_of_vc Try.func10 rfl low10 rfl ha h
/-- The code of aquatint/aquatintref06.Table. -/
def r13_0 : List G := [.op (.box 1 22 (.tmp 0)) none,
  .op (.alloc 2 23) none,
  .op (.mov 3 (.const (.string { data := #[] }))) none,
  .op (.mov 4 (.const (.int .i64 0))) none,
  .keep [1, 2]]
def r13_1 : List G := [.op (.alloc 5 23) none,
  .keep [1, 2, 5]]
def r13_2 : List G := [.op (.mov 6 (.const (.bool false))) none,
  .keep [1, 2, 5, 6]]
def r13_3 : List G := [.op (.mov 7 (.const (.int .i64 0))) none,
  .keep [1, 2, 5, 6, 7]]
def r13_4 : List G := [.op (.mov 18 (.tmp 7)) none,
  .op (.ari 19 .lss .i64 (.tmp 18) (.const (.int .i64 256))) none,
  .keep [1, 2, 5, 6, 7, 19]]
def r13_6 : List G := [.op (.mov 22 (.tmp 7)) none,
  .op (.iaddrA 23 256 1 (.tmp 1) (.tmp 22)) none,
  .op (.load 24 (.tmp 23)) none,
  .op (.ari 25 .lss .i64 (.tmp 24) (.const (.int .i64 0))) none,
  .op (.mov 26 (.tmp 25)) none,
  .op (.mov 27 (.tmp 7)) (some (26, false)),
  .op (.iaddrA 28 256 1 (.tmp 1) (.tmp 27)) (some (26, false)),
  .op (.load 29 (.tmp 28)) (some (26, false)),
  .op (.ari 30 .gtr .i64 (.tmp 29) (.const (.int .i64 1099511627776))) (some (26, false)),
  .op (.pick 31 (.tmp 26) (.const (.bool true)) (.tmp 30)) none,
  .keep [1, 2, 5, 6, 7, 31]]
def r13_7 : List G := [.op (.loadN 32 16 (.tmp 5)) none,
  .op (.storeN 16 (.tmp 2) (.tmp 32)) none,
  .op (.mov 3 (.const (.string { data := #[] }))) none,
  .op (.mov 4 (.const (.int .i64 1))) none,
  .keep [2, 3, 4]]
def r13_8 : List G := [.op (.mov 33 (.tmp 6)) none,
  .op (.mov 34 (.tmp 33)) none,
  .op (.mov 35 (.tmp 7)) (some (34, false)),
  .op (.iaddrA 36 256 1 (.tmp 1) (.tmp 35)) (some (34, false)),
  .op (.load 37 (.tmp 36)) (some (34, false)),
  .op (.ari 38 .gtr .i64 (.tmp 37) (.const (.int .i64 0))) (some (34, false)),
  .op (.pick 39 (.tmp 34) (.const (.bool true)) (.tmp 38)) none,
  .op (.mov 6 (.tmp 39)) none,
  .keep [1, 2, 5, 6, 7]]
def r13_5 : List G := [.op (.mov 20 (.tmp 7)) none,
  .op (.ari 21 .add .i64 (.tmp 20) (.const (.int .i64 1))) none,
  .op (.mov 7 (.tmp 21)) none,
  .keep [1, 2, 5, 6, 7]]
def r13_9 : List G := [.op (.mov 40 (.tmp 6)) none,
  .op (.not 41 (.tmp 40)) none,
  .keep [1, 2, 5, 41]]
def r13_10 : List G := [.op (.loadN 42 16 (.tmp 5)) none,
  .op (.storeN 16 (.tmp 2) (.tmp 42)) none,
  .op (.mov 3 (.const (.string { data := #[] }))) none,
  .op (.mov 4 (.const (.int .i64 5))) none,
  .keep [2, 3, 4]]
def r13_11 : List G := [.op (.loadN 43 256 (.tmp 1)) none,
  .op (.call (some 44) 23 [(.tmp 43)]) none,
  .op (.alloc 8 48) none,
  .op (.storeN 257 (.tmp 8) (.tmp 44)) none,
  .keep [2, 5, 8]]
def r13_12 : List G := [.op (.alloc 9 65) none,
  .keep [2, 5, 8, 9]]
def r13_13 : List G := [.op (.mov 10 (.const (.int .i64 0))) none,
  .keep [2, 5, 8, 9, 10]]
def r13_14 : List G := [.op (.mov 45 (.tmp 10)) none,
  .op (.ari 46 .lss .i64 (.tmp 45) (.const (.int .i64 257))) none,
  .keep [2, 5, 8, 9, 10, 46]]
def r13_16 : List G := [.op (.mov 49 (.tmp 10)) none,
  .op (.iaddrA 50 257 1 (.tmp 8) (.tmp 49)) none,
  .op (.load 51 (.tmp 50)) none,
  .op (.ari 52 .gtr .i64 (.tmp 51) (.const (.int .i64 0))) none,
  .keep [2, 5, 8, 9, 10, 52]]
def r13_17 : List G := [.op (.mov 53 (.tmp 10)) none,
  .op (.iaddrA 54 257 1 (.tmp 8) (.tmp 53)) none,
  .op (.load 55 (.tmp 54)) none,
  .op (.mov 56 (.tmp 10)) none,
  .op (.iaddrA 57 257 1 (.tmp 8) (.tmp 56)) none,
  .op (.load 58 (.tmp 57)) none,
  .op (.iaddrA 59 300 1 (.tmp 9) (.tmp 58)) none,
  .op (.load 60 (.tmp 59)) none,
  .op (.ari 61 .add .i64 (.tmp 60) (.const (.int .i64 1))) none,
  .op (.iaddrA 62 300 1 (.tmp 9) (.tmp 55)) none,
  .op (.store (.tmp 62) (.tmp 61)) none,
  .keep [2, 5, 8, 9, 10]]
def r13_15 : List G := [.op (.mov 47 (.tmp 10)) none,
  .op (.ari 48 .add .i64 (.tmp 47) (.const (.int .i64 1))) none,
  .op (.mov 10 (.tmp 48)) none,
  .keep [2, 5, 8, 9, 10]]
def r13_18 : List G := [.op (.mov 11 (.const (.int .i64 299))) none,
  .keep [2, 5, 8, 9, 11]]
def r13_19 : List G := [.op (.mov 63 (.tmp 11)) none,
  .op (.ari 64 .gtr .i64 (.tmp 63) (.const (.int .i64 16))) none,
  .keep [2, 5, 8, 9, 11, 64]]
def r13_21 : List G := [.op (.mov 67 (.tmp 11)) none,
  .op (.iaddrA 68 300 1 (.tmp 9) (.tmp 67)) none,
  .op (.load 69 (.tmp 68)) none,
  .op (.ari 70 .gtr .i64 (.tmp 69) (.const (.int .i64 0))) none,
  .keep [2, 5, 8, 9, 11, 70]]
def r13_22 : List G := [.op (.mov 71 (.tmp 11)) none,
  .op (.ari 72 .sub .i64 (.tmp 71) (.const (.int .i64 2))) none,
  .op (.mov 12 (.tmp 72)) none,
  .keep [2, 5, 8, 9, 11, 12]]
def r13_23 : List G := [.op (.mov 73 (.tmp 12)) none,
  .op (.iaddrA 74 300 1 (.tmp 9) (.tmp 73)) none,
  .op (.load 75 (.tmp 74)) none,
  .op (.ari 76 .eql .i64 (.tmp 75) (.const (.int .i64 0))) none,
  .keep [2, 5, 8, 9, 11, 12, 76]]
def r13_24 : List G := [.op (.mov 77 (.tmp 12)) none,
  .op (.ari 78 .sub .i64 (.tmp 77) (.const (.int .i64 1))) none,
  .op (.mov 12 (.tmp 78)) none,
  .keep [2, 5, 8, 9, 11, 12]]
def r13_25 : List G := [.op (.mov 79 (.tmp 11)) none,
  .op (.mov 80 (.tmp 11)) none,
  .op (.iaddrA 81 300 1 (.tmp 9) (.tmp 80)) none,
  .op (.load 82 (.tmp 81)) none,
  .op (.ari 83 .sub .i64 (.tmp 82) (.const (.int .i64 2))) none,
  .op (.iaddrA 84 300 1 (.tmp 9) (.tmp 79)) none,
  .op (.store (.tmp 84) (.tmp 83)) none,
  .keep [2, 5, 8, 9, 11, 12]]
def r13_26 : List G := [.op (.mov 85 (.tmp 11)) none,
  .op (.ari 86 .sub .i64 (.tmp 85) (.const (.int .i64 1))) none,
  .op (.mov 87 (.tmp 11)) none,
  .op (.ari 88 .sub .i64 (.tmp 87) (.const (.int .i64 1))) none,
  .op (.iaddrA 89 300 1 (.tmp 9) (.tmp 88)) none,
  .op (.load 90 (.tmp 89)) none,
  .op (.ari 91 .add .i64 (.tmp 90) (.const (.int .i64 1))) none,
  .op (.iaddrA 92 300 1 (.tmp 9) (.tmp 86)) none,
  .op (.store (.tmp 92) (.tmp 91)) none,
  .keep [2, 5, 8, 9, 11, 12]]
def r13_27 : List G := [.op (.mov 93 (.tmp 12)) none,
  .op (.ari 94 .add .i64 (.tmp 93) (.const (.int .i64 1))) none,
  .op (.mov 95 (.tmp 12)) none,
  .op (.ari 96 .add .i64 (.tmp 95) (.const (.int .i64 1))) none,
  .op (.iaddrA 97 300 1 (.tmp 9) (.tmp 96)) none,
  .op (.load 98 (.tmp 97)) none,
  .op (.ari 99 .add .i64 (.tmp 98) (.const (.int .i64 2))) none,
  .op (.iaddrA 100 300 1 (.tmp 9) (.tmp 94)) none,
  .op (.store (.tmp 100) (.tmp 99)) none,
  .keep [2, 5, 8, 9, 11, 12]]
def r13_28 : List G := [.op (.mov 101 (.tmp 12)) none,
  .op (.mov 102 (.tmp 12)) none,
  .op (.iaddrA 103 300 1 (.tmp 9) (.tmp 102)) none,
  .op (.load 104 (.tmp 103)) none,
  .op (.ari 105 .sub .i64 (.tmp 104) (.const (.int .i64 1))) none,
  .op (.iaddrA 106 300 1 (.tmp 9) (.tmp 101)) none,
  .op (.store (.tmp 106) (.tmp 105)) none,
  .keep [2, 5, 8, 9, 11]]
def r13_20 : List G := [.op (.mov 65 (.tmp 11)) none,
  .op (.ari 66 .sub .i64 (.tmp 65) (.const (.int .i64 1))) none,
  .op (.mov 11 (.tmp 66)) none,
  .keep [2, 5, 8, 9, 11]]
def r13_29 : List G := [.op (.mov 13 (.const (.int .i64 16))) none,
  .keep [2, 5, 8, 9, 13]]
def r13_30 : List G := [.op (.mov 107 (.tmp 13)) none,
  .op (.iaddrA 108 300 1 (.tmp 9) (.tmp 107)) none,
  .op (.load 109 (.tmp 108)) none,
  .op (.ari 110 .eql .i64 (.tmp 109) (.const (.int .i64 0))) none,
  .keep [2, 5, 8, 9, 13, 110]]
def r13_31 : List G := [.op (.mov 111 (.tmp 13)) none,
  .op (.ari 112 .sub .i64 (.tmp 111) (.const (.int .i64 1))) none,
  .op (.mov 13 (.tmp 112)) none,
  .keep [2, 5, 8, 9, 13]]
def r13_32 : List G := [.op (.mov 113 (.tmp 13)) none,
  .op (.mov 114 (.tmp 13)) none,
  .op (.iaddrA 115 300 1 (.tmp 9) (.tmp 114)) none,
  .op (.load 116 (.tmp 115)) none,
  .op (.ari 117 .sub .i64 (.tmp 116) (.const (.int .i64 1))) none,
  .op (.iaddrA 118 300 1 (.tmp 9) (.tmp 113)) none,
  .op (.store (.tmp 118) (.tmp 117)) none,
  .keep [2, 5, 8, 9]]
def r13_33 : List G := [.op (.mov 14 (.const (.string { data := #[] }))) none,
  .keep [2, 5, 8, 9, 14]]
def r13_34 : List G := [.op (.mov 15 (.const (.int .i64 1))) none,
  .keep [2, 5, 8, 9, 14, 15]]
def r13_35 : List G := [.op (.mov 119 (.tmp 15)) none,
  .op (.ari 120 .lss .i64 (.tmp 119) (.const (.int .i64 300))) none,
  .keep [2, 5, 8, 9, 14, 15, 120]]
def r13_37 : List G := [.op (.mov 16 (.const (.int .i64 0))) none,
  .keep [2, 5, 8, 9, 14, 15, 16]]
def r13_38 : List G := [.op (.mov 123 (.tmp 16)) none,
  .op (.ari 124 .lss .i64 (.tmp 123) (.const (.int .i64 256))) none,
  .keep [2, 5, 8, 9, 14, 15, 16, 124]]
def r13_40 : List G := [.op (.mov 127 (.tmp 16)) none,
  .op (.iaddrA 128 257 1 (.tmp 8) (.tmp 127)) none,
  .op (.load 129 (.tmp 128)) none,
  .op (.mov 130 (.tmp 15)) none,
  .op (.ari 131 .eql .i64 (.tmp 129) (.tmp 130)) none,
  .keep [2, 5, 8, 9, 14, 15, 16, 131]]
def r13_41 : List G := [.op (.mov 132 (.tmp 14)) none,
  .op (.mov 133 (.tmp 16)) none,
  .op (.conv 134 .u8 (.tmp 133)) none,
  .op (.bslice 135 5 1 1 [(0, 1, (.tmp 134))]) none,
  .op (.conBS 136 (.tmp 135)) none,
  .op (.sop 137 .add (.tmp 132) (.tmp 136)) none,
  .op (.mov 14 (.tmp 137)) none,
  .keep [2, 5, 8, 9, 14, 15, 16]]
def r13_39 : List G := [.op (.mov 125 (.tmp 16)) none,
  .op (.ari 126 .add .i64 (.tmp 125) (.const (.int .i64 1))) none,
  .op (.mov 16 (.tmp 126)) none,
  .keep [2, 5, 8, 9, 14, 15, 16]]
def r13_36 : List G := [.op (.mov 121 (.tmp 15)) none,
  .op (.ari 122 .add .i64 (.tmp 121) (.const (.int .i64 1))) none,
  .op (.mov 15 (.tmp 122)) none,
  .keep [2, 5, 8, 9, 14, 15]]
def r13_42 : List G := [.op (.mov 17 (.const (.int .i64 0))) none,
  .keep [2, 5, 9, 14, 17]]
def r13_43 : List G := [.op (.mov 138 (.tmp 17)) none,
  .op (.ari 139 .lss .i64 (.tmp 138) (.const (.int .i64 16))) none,
  .keep [2, 5, 9, 14, 17, 139]]
def r13_45 : List G := [.op (.mov 142 (.tmp 17)) none,
  .op (.mov 143 (.tmp 17)) none,
  .op (.ari 144 .add .i64 (.tmp 143) (.const (.int .i64 1))) none,
  .op (.iaddrA 145 300 1 (.tmp 9) (.tmp 144)) none,
  .op (.load 146 (.tmp 145)) none,
  .op (.conv 147 .u8 (.tmp 146)) none,
  .op (.iaddrA 148 16 1 (.tmp 5) (.tmp 142)) none,
  .op (.store (.tmp 148) (.tmp 147)) none,
  .keep [2, 5, 9, 14, 17]]
def r13_44 : List G := [.op (.mov 140 (.tmp 17)) none,
  .op (.ari 141 .add .i64 (.tmp 140) (.const (.int .i64 1))) none,
  .op (.mov 17 (.tmp 141)) none,
  .keep [2, 5, 9, 14, 17]]
def r13_46 : List G := [.op (.loadN 149 16 (.tmp 5)) none,
  .op (.mov 150 (.tmp 14)) none,
  .op (.storeN 16 (.tmp 2) (.tmp 149)) none,
  .op (.mov 3 (.tmp 150)) none,
  .op (.mov 4 (.const (.int .i64 0))) none,
  .keep [2, 3, 4]]
def c13 : C := (.seq (.region r13_0) (.seq (.region r13_1) (.seq (.region r13_2) (.seq (.seq (.region r13_3) (.block 0 (.loop (.seq (.seq (.region r13_4) (.cond (.tmp 19) .skip (.exit 0))) (.seq (.block 1 (.seq (.seq (.region r13_6) (.cond (.tmp 31) (.seq (.region r13_7) .ret) .skip)) (.region r13_8))) (.region r13_5)))))) (.seq (.seq (.region r13_9) (.cond (.tmp 41) (.seq (.region r13_10) .ret) .skip)) (.seq (.region r13_11) (.seq (.region r13_12) (.seq (.seq (.region r13_13) (.block 2 (.loop (.seq (.seq (.region r13_14) (.cond (.tmp 46) .skip (.exit 2))) (.seq (.block 3 (.seq (.region r13_16) (.cond (.tmp 52) (.regionD r13_17) .skip))) (.region r13_15)))))) (.seq (.seq (.region r13_18) (.block 4 (.loop (.seq (.seq (.region r13_19) (.cond (.tmp 64) .skip (.exit 4))) (.seq (.block 5 (.block 6 (.loop (.seq (.seq (.region r13_21) (.cond (.tmp 70) .skip (.exit 6))) (.block 7 (.seq (.region r13_22) (.seq (.block 8 (.loop (.seq (.seq (.region r13_23) (.cond (.tmp 76) .skip (.exit 8))) (.block 9 (.region r13_24))))) (.seq (.region r13_25) (.seq (.region r13_26) (.seq (.region r13_27) (.region r13_28))))))))))) (.region r13_20)))))) (.seq (.region r13_29) (.seq (.block 10 (.loop (.seq (.seq (.region r13_30) (.cond (.tmp 110) .skip (.exit 10))) (.block 11 (.region r13_31))))) (.seq (.region r13_32) (.seq (.region r13_33) (.seq (.seq (.region r13_34) (.block 12 (.loop (.seq (.seq (.region r13_35) (.cond (.tmp 120) .skip (.exit 12))) (.seq (.block 13 (.seq (.region r13_37) (.block 14 (.loop (.seq (.seq (.region r13_38) (.cond (.tmp 124) .skip (.exit 14))) (.seq (.block 15 (.seq (.region r13_40) (.cond (.tmp 131) (.region r13_41) .skip))) (.region r13_39))))))) (.region r13_36)))))) (.seq (.seq (.region r13_42) (.block 16 (.loop (.seq (.seq (.region r13_43) (.cond (.tmp 139) .skip (.exit 16))) (.seq (.block 17 (.region r13_45)) (.region r13_44)))))) (.seq (.region r13_46) .ret))))))))))))))))
theorem x13 : (∀ (K : Env → World → Prop) (pan : List PanicEntry → World → Prop) (e : Env) (w : World), vcOps Try.prog r13_0 K pan e w = vcOps Try.prog [.op (.box 1 22 (.tmp 0)) none, .op (.alloc 2 23) none, .op (.mov 3 (.const (.string { data := #[] }))) none, .op (.mov 4 (.const (.int .i64 0))) none, .keep [1, 2]] K pan e w) ∧
  (∀ (K : Env → World → Prop) (pan : List PanicEntry → World → Prop) (e : Env) (w : World), vcOps Try.prog r13_1 K pan e w = vcOps Try.prog [.op (.alloc 5 23) none, .keep [1, 2, 5]] K pan e w) ∧
  (∀ (K : Env → World → Prop) (pan : List PanicEntry → World → Prop) (e : Env) (w : World), vcOps Try.prog r13_2 K pan e w = vcOps Try.prog [.op (.mov 6 (.const (.bool false))) none, .keep [1, 2, 5, 6]] K pan e w) ∧
  (∀ (K : Env → World → Prop) (pan : List PanicEntry → World → Prop) (e : Env) (w : World), vcOps Try.prog r13_3 K pan e w = vcOps Try.prog [.op (.mov 7 (.const (.int .i64 0))) none, .keep [1, 2, 5, 6, 7]] K pan e w) ∧
  (∀ (K : Env → World → Prop) (pan : List PanicEntry → World → Prop) (e : Env) (w : World), vcOps Try.prog r13_4 K pan e w = vcOps Try.prog [.op (.mov 18 (.tmp 7)) none, .op (.ari 19 .lss .i64 (.tmp 18) (.const (.int .i64 256))) none, .keep [1, 2, 5, 6, 7, 19]] K pan e w) ∧
  (∀ (K : Env → World → Prop) (pan : List PanicEntry → World → Prop) (e : Env) (w : World), vcOps Try.prog r13_6 K pan e w = vcOps Try.prog [.op (.mov 22 (.tmp 7)) none, .op (.iaddrA 23 256 1 (.tmp 1) (.tmp 22)) none, .op (.load 24 (.tmp 23)) none, .op (.ari 25 .lss .i64 (.tmp 24) (.const (.int .i64 0))) none, .op (.mov 26 (.tmp 25)) none, .op (.mov 27 (.tmp 7)) (some (26, false)), .op (.iaddrA 28 256 1 (.tmp 1) (.tmp 27)) (some (26, false)), .op (.load 29 (.tmp 28)) (some (26, false)), .op (.ari 30 .gtr .i64 (.tmp 29) (.const (.int .i64 1099511627776))) (some (26, false)), .op (.pick 31 (.tmp 26) (.const (.bool true)) (.tmp 30)) none, .keep [1, 2, 5, 6, 7, 31]] K pan e w) ∧
  (∀ (K : Env → World → Prop) (pan : List PanicEntry → World → Prop) (e : Env) (w : World), vcOps Try.prog r13_7 K pan e w = vcOps Try.prog [.op (.loadN 32 16 (.tmp 5)) none, .op (.storeN 16 (.tmp 2) (.tmp 32)) none, .op (.mov 3 (.const (.string { data := #[] }))) none, .op (.mov 4 (.const (.int .i64 1))) none, .keep [2, 3, 4]] K pan e w) ∧
  (∀ (K : Env → World → Prop) (pan : List PanicEntry → World → Prop) (e : Env) (w : World), vcOps Try.prog r13_8 K pan e w = vcOps Try.prog [.op (.mov 33 (.tmp 6)) none, .op (.mov 34 (.tmp 33)) none, .op (.mov 35 (.tmp 7)) (some (34, false)), .op (.iaddrA 36 256 1 (.tmp 1) (.tmp 35)) (some (34, false)), .op (.load 37 (.tmp 36)) (some (34, false)), .op (.ari 38 .gtr .i64 (.tmp 37) (.const (.int .i64 0))) (some (34, false)), .op (.pick 39 (.tmp 34) (.const (.bool true)) (.tmp 38)) none, .op (.mov 6 (.tmp 39)) none, .keep [1, 2, 5, 6, 7]] K pan e w) ∧
  (∀ (K : Env → World → Prop) (pan : List PanicEntry → World → Prop) (e : Env) (w : World), vcOps Try.prog r13_5 K pan e w = vcOps Try.prog [.op (.mov 20 (.tmp 7)) none, .op (.ari 21 .add .i64 (.tmp 20) (.const (.int .i64 1))) none, .op (.mov 7 (.tmp 21)) none, .keep [1, 2, 5, 6, 7]] K pan e w) ∧
  (∀ (K : Env → World → Prop) (pan : List PanicEntry → World → Prop) (e : Env) (w : World), vcOps Try.prog r13_9 K pan e w = vcOps Try.prog [.op (.mov 40 (.tmp 6)) none, .op (.not 41 (.tmp 40)) none, .keep [1, 2, 5, 41]] K pan e w) ∧
  (∀ (K : Env → World → Prop) (pan : List PanicEntry → World → Prop) (e : Env) (w : World), vcOps Try.prog r13_10 K pan e w = vcOps Try.prog [.op (.loadN 42 16 (.tmp 5)) none, .op (.storeN 16 (.tmp 2) (.tmp 42)) none, .op (.mov 3 (.const (.string { data := #[] }))) none, .op (.mov 4 (.const (.int .i64 5))) none, .keep [2, 3, 4]] K pan e w) ∧
  (∀ (K : Env → World → Prop) (pan : List PanicEntry → World → Prop) (e : Env) (w : World), vcOps Try.prog r13_11 K pan e w = vcOps Try.prog [.op (.loadN 43 256 (.tmp 1)) none, .op (.call (some 44) 23 [(.tmp 43)]) none, .op (.alloc 8 48) none, .op (.storeN 257 (.tmp 8) (.tmp 44)) none, .keep [2, 5, 8]] K pan e w) ∧
  (∀ (K : Env → World → Prop) (pan : List PanicEntry → World → Prop) (e : Env) (w : World), vcOps Try.prog r13_12 K pan e w = vcOps Try.prog [.op (.alloc 9 65) none, .keep [2, 5, 8, 9]] K pan e w) ∧
  (∀ (K : Env → World → Prop) (pan : List PanicEntry → World → Prop) (e : Env) (w : World), vcOps Try.prog r13_13 K pan e w = vcOps Try.prog [.op (.mov 10 (.const (.int .i64 0))) none, .keep [2, 5, 8, 9, 10]] K pan e w) ∧
  (∀ (K : Env → World → Prop) (pan : List PanicEntry → World → Prop) (e : Env) (w : World), vcOps Try.prog r13_14 K pan e w = vcOps Try.prog [.op (.mov 45 (.tmp 10)) none, .op (.ari 46 .lss .i64 (.tmp 45) (.const (.int .i64 257))) none, .keep [2, 5, 8, 9, 10, 46]] K pan e w) ∧
  (∀ (K : Env → World → Prop) (pan : List PanicEntry → World → Prop) (e : Env) (w : World), vcOps Try.prog r13_16 K pan e w = vcOps Try.prog [.op (.mov 49 (.tmp 10)) none, .op (.iaddrA 50 257 1 (.tmp 8) (.tmp 49)) none, .op (.load 51 (.tmp 50)) none, .op (.ari 52 .gtr .i64 (.tmp 51) (.const (.int .i64 0))) none, .keep [2, 5, 8, 9, 10, 52]] K pan e w) ∧
  (∀ (K : Env → World → Prop) (pan : List PanicEntry → World → Prop) (e : Env) (w : World), vcOps Try.prog r13_17 K pan e w = vcOps Try.prog [.op (.mov 53 (.tmp 10)) none, .op (.iaddrA 54 257 1 (.tmp 8) (.tmp 53)) none, .op (.load 55 (.tmp 54)) none, .op (.mov 56 (.tmp 10)) none, .op (.iaddrA 57 257 1 (.tmp 8) (.tmp 56)) none, .op (.load 58 (.tmp 57)) none, .op (.iaddrA 59 300 1 (.tmp 9) (.tmp 58)) none, .op (.load 60 (.tmp 59)) none, .op (.ari 61 .add .i64 (.tmp 60) (.const (.int .i64 1))) none, .op (.iaddrA 62 300 1 (.tmp 9) (.tmp 55)) none, .op (.store (.tmp 62) (.tmp 61)) none, .keep [2, 5, 8, 9, 10]] K pan e w) ∧
  (∀ (K : Env → World → Prop) (pan : List PanicEntry → World → Prop) (e : Env) (w : World), vcOps Try.prog r13_15 K pan e w = vcOps Try.prog [.op (.mov 47 (.tmp 10)) none, .op (.ari 48 .add .i64 (.tmp 47) (.const (.int .i64 1))) none, .op (.mov 10 (.tmp 48)) none, .keep [2, 5, 8, 9, 10]] K pan e w) ∧
  (∀ (K : Env → World → Prop) (pan : List PanicEntry → World → Prop) (e : Env) (w : World), vcOps Try.prog r13_18 K pan e w = vcOps Try.prog [.op (.mov 11 (.const (.int .i64 299))) none, .keep [2, 5, 8, 9, 11]] K pan e w) ∧
  (∀ (K : Env → World → Prop) (pan : List PanicEntry → World → Prop) (e : Env) (w : World), vcOps Try.prog r13_19 K pan e w = vcOps Try.prog [.op (.mov 63 (.tmp 11)) none, .op (.ari 64 .gtr .i64 (.tmp 63) (.const (.int .i64 16))) none, .keep [2, 5, 8, 9, 11, 64]] K pan e w) ∧
  (∀ (K : Env → World → Prop) (pan : List PanicEntry → World → Prop) (e : Env) (w : World), vcOps Try.prog r13_21 K pan e w = vcOps Try.prog [.op (.mov 67 (.tmp 11)) none, .op (.iaddrA 68 300 1 (.tmp 9) (.tmp 67)) none, .op (.load 69 (.tmp 68)) none, .op (.ari 70 .gtr .i64 (.tmp 69) (.const (.int .i64 0))) none, .keep [2, 5, 8, 9, 11, 70]] K pan e w) ∧
  (∀ (K : Env → World → Prop) (pan : List PanicEntry → World → Prop) (e : Env) (w : World), vcOps Try.prog r13_22 K pan e w = vcOps Try.prog [.op (.mov 71 (.tmp 11)) none, .op (.ari 72 .sub .i64 (.tmp 71) (.const (.int .i64 2))) none, .op (.mov 12 (.tmp 72)) none, .keep [2, 5, 8, 9, 11, 12]] K pan e w) ∧
  (∀ (K : Env → World → Prop) (pan : List PanicEntry → World → Prop) (e : Env) (w : World), vcOps Try.prog r13_23 K pan e w = vcOps Try.prog [.op (.mov 73 (.tmp 12)) none, .op (.iaddrA 74 300 1 (.tmp 9) (.tmp 73)) none, .op (.load 75 (.tmp 74)) none, .op (.ari 76 .eql .i64 (.tmp 75) (.const (.int .i64 0))) none, .keep [2, 5, 8, 9, 11, 12, 76]] K pan e w) ∧
  (∀ (K : Env → World → Prop) (pan : List PanicEntry → World → Prop) (e : Env) (w : World), vcOps Try.prog r13_24 K pan e w = vcOps Try.prog [.op (.mov 77 (.tmp 12)) none, .op (.ari 78 .sub .i64 (.tmp 77) (.const (.int .i64 1))) none, .op (.mov 12 (.tmp 78)) none, .keep [2, 5, 8, 9, 11, 12]] K pan e w) ∧
  (∀ (K : Env → World → Prop) (pan : List PanicEntry → World → Prop) (e : Env) (w : World), vcOps Try.prog r13_25 K pan e w = vcOps Try.prog [.op (.mov 79 (.tmp 11)) none, .op (.mov 80 (.tmp 11)) none, .op (.iaddrA 81 300 1 (.tmp 9) (.tmp 80)) none, .op (.load 82 (.tmp 81)) none, .op (.ari 83 .sub .i64 (.tmp 82) (.const (.int .i64 2))) none, .op (.iaddrA 84 300 1 (.tmp 9) (.tmp 79)) none, .op (.store (.tmp 84) (.tmp 83)) none, .keep [2, 5, 8, 9, 11, 12]] K pan e w) ∧
  (∀ (K : Env → World → Prop) (pan : List PanicEntry → World → Prop) (e : Env) (w : World), vcOps Try.prog r13_26 K pan e w = vcOps Try.prog [.op (.mov 85 (.tmp 11)) none, .op (.ari 86 .sub .i64 (.tmp 85) (.const (.int .i64 1))) none, .op (.mov 87 (.tmp 11)) none, .op (.ari 88 .sub .i64 (.tmp 87) (.const (.int .i64 1))) none, .op (.iaddrA 89 300 1 (.tmp 9) (.tmp 88)) none, .op (.load 90 (.tmp 89)) none, .op (.ari 91 .add .i64 (.tmp 90) (.const (.int .i64 1))) none, .op (.iaddrA 92 300 1 (.tmp 9) (.tmp 86)) none, .op (.store (.tmp 92) (.tmp 91)) none, .keep [2, 5, 8, 9, 11, 12]] K pan e w) ∧
  (∀ (K : Env → World → Prop) (pan : List PanicEntry → World → Prop) (e : Env) (w : World), vcOps Try.prog r13_27 K pan e w = vcOps Try.prog [.op (.mov 93 (.tmp 12)) none, .op (.ari 94 .add .i64 (.tmp 93) (.const (.int .i64 1))) none, .op (.mov 95 (.tmp 12)) none, .op (.ari 96 .add .i64 (.tmp 95) (.const (.int .i64 1))) none, .op (.iaddrA 97 300 1 (.tmp 9) (.tmp 96)) none, .op (.load 98 (.tmp 97)) none, .op (.ari 99 .add .i64 (.tmp 98) (.const (.int .i64 2))) none, .op (.iaddrA 100 300 1 (.tmp 9) (.tmp 94)) none, .op (.store (.tmp 100) (.tmp 99)) none, .keep [2, 5, 8, 9, 11, 12]] K pan e w) ∧
  (∀ (K : Env → World → Prop) (pan : List PanicEntry → World → Prop) (e : Env) (w : World), vcOps Try.prog r13_28 K pan e w = vcOps Try.prog [.op (.mov 101 (.tmp 12)) none, .op (.mov 102 (.tmp 12)) none, .op (.iaddrA 103 300 1 (.tmp 9) (.tmp 102)) none, .op (.load 104 (.tmp 103)) none, .op (.ari 105 .sub .i64 (.tmp 104) (.const (.int .i64 1))) none, .op (.iaddrA 106 300 1 (.tmp 9) (.tmp 101)) none, .op (.store (.tmp 106) (.tmp 105)) none, .keep [2, 5, 8, 9, 11]] K pan e w) ∧
  (∀ (K : Env → World → Prop) (pan : List PanicEntry → World → Prop) (e : Env) (w : World), vcOps Try.prog r13_20 K pan e w = vcOps Try.prog [.op (.mov 65 (.tmp 11)) none, .op (.ari 66 .sub .i64 (.tmp 65) (.const (.int .i64 1))) none, .op (.mov 11 (.tmp 66)) none, .keep [2, 5, 8, 9, 11]] K pan e w) ∧
  (∀ (K : Env → World → Prop) (pan : List PanicEntry → World → Prop) (e : Env) (w : World), vcOps Try.prog r13_29 K pan e w = vcOps Try.prog [.op (.mov 13 (.const (.int .i64 16))) none, .keep [2, 5, 8, 9, 13]] K pan e w) ∧
  (∀ (K : Env → World → Prop) (pan : List PanicEntry → World → Prop) (e : Env) (w : World), vcOps Try.prog r13_30 K pan e w = vcOps Try.prog [.op (.mov 107 (.tmp 13)) none, .op (.iaddrA 108 300 1 (.tmp 9) (.tmp 107)) none, .op (.load 109 (.tmp 108)) none, .op (.ari 110 .eql .i64 (.tmp 109) (.const (.int .i64 0))) none, .keep [2, 5, 8, 9, 13, 110]] K pan e w) ∧
  (∀ (K : Env → World → Prop) (pan : List PanicEntry → World → Prop) (e : Env) (w : World), vcOps Try.prog r13_31 K pan e w = vcOps Try.prog [.op (.mov 111 (.tmp 13)) none, .op (.ari 112 .sub .i64 (.tmp 111) (.const (.int .i64 1))) none, .op (.mov 13 (.tmp 112)) none, .keep [2, 5, 8, 9, 13]] K pan e w) ∧
  (∀ (K : Env → World → Prop) (pan : List PanicEntry → World → Prop) (e : Env) (w : World), vcOps Try.prog r13_32 K pan e w = vcOps Try.prog [.op (.mov 113 (.tmp 13)) none, .op (.mov 114 (.tmp 13)) none, .op (.iaddrA 115 300 1 (.tmp 9) (.tmp 114)) none, .op (.load 116 (.tmp 115)) none, .op (.ari 117 .sub .i64 (.tmp 116) (.const (.int .i64 1))) none, .op (.iaddrA 118 300 1 (.tmp 9) (.tmp 113)) none, .op (.store (.tmp 118) (.tmp 117)) none, .keep [2, 5, 8, 9]] K pan e w) ∧
  (∀ (K : Env → World → Prop) (pan : List PanicEntry → World → Prop) (e : Env) (w : World), vcOps Try.prog r13_33 K pan e w = vcOps Try.prog [.op (.mov 14 (.const (.string { data := #[] }))) none, .keep [2, 5, 8, 9, 14]] K pan e w) ∧
  (∀ (K : Env → World → Prop) (pan : List PanicEntry → World → Prop) (e : Env) (w : World), vcOps Try.prog r13_34 K pan e w = vcOps Try.prog [.op (.mov 15 (.const (.int .i64 1))) none, .keep [2, 5, 8, 9, 14, 15]] K pan e w) ∧
  (∀ (K : Env → World → Prop) (pan : List PanicEntry → World → Prop) (e : Env) (w : World), vcOps Try.prog r13_35 K pan e w = vcOps Try.prog [.op (.mov 119 (.tmp 15)) none, .op (.ari 120 .lss .i64 (.tmp 119) (.const (.int .i64 300))) none, .keep [2, 5, 8, 9, 14, 15, 120]] K pan e w) ∧
  (∀ (K : Env → World → Prop) (pan : List PanicEntry → World → Prop) (e : Env) (w : World), vcOps Try.prog r13_37 K pan e w = vcOps Try.prog [.op (.mov 16 (.const (.int .i64 0))) none, .keep [2, 5, 8, 9, 14, 15, 16]] K pan e w) ∧
  (∀ (K : Env → World → Prop) (pan : List PanicEntry → World → Prop) (e : Env) (w : World), vcOps Try.prog r13_38 K pan e w = vcOps Try.prog [.op (.mov 123 (.tmp 16)) none, .op (.ari 124 .lss .i64 (.tmp 123) (.const (.int .i64 256))) none, .keep [2, 5, 8, 9, 14, 15, 16, 124]] K pan e w) ∧
  (∀ (K : Env → World → Prop) (pan : List PanicEntry → World → Prop) (e : Env) (w : World), vcOps Try.prog r13_40 K pan e w = vcOps Try.prog [.op (.mov 127 (.tmp 16)) none, .op (.iaddrA 128 257 1 (.tmp 8) (.tmp 127)) none, .op (.load 129 (.tmp 128)) none, .op (.mov 130 (.tmp 15)) none, .op (.ari 131 .eql .i64 (.tmp 129) (.tmp 130)) none, .keep [2, 5, 8, 9, 14, 15, 16, 131]] K pan e w) ∧
  (∀ (K : Env → World → Prop) (pan : List PanicEntry → World → Prop) (e : Env) (w : World), vcOps Try.prog r13_41 K pan e w = vcOps Try.prog [.op (.mov 132 (.tmp 14)) none, .op (.mov 133 (.tmp 16)) none, .op (.conv 134 .u8 (.tmp 133)) none, .op (.bslice 135 5 1 1 [(0, 1, (.tmp 134))]) none, .op (.conBS 136 (.tmp 135)) none, .op (.sop 137 .add (.tmp 132) (.tmp 136)) none, .op (.mov 14 (.tmp 137)) none, .keep [2, 5, 8, 9, 14, 15, 16]] K pan e w) ∧
  (∀ (K : Env → World → Prop) (pan : List PanicEntry → World → Prop) (e : Env) (w : World), vcOps Try.prog r13_39 K pan e w = vcOps Try.prog [.op (.mov 125 (.tmp 16)) none, .op (.ari 126 .add .i64 (.tmp 125) (.const (.int .i64 1))) none, .op (.mov 16 (.tmp 126)) none, .keep [2, 5, 8, 9, 14, 15, 16]] K pan e w) ∧
  (∀ (K : Env → World → Prop) (pan : List PanicEntry → World → Prop) (e : Env) (w : World), vcOps Try.prog r13_36 K pan e w = vcOps Try.prog [.op (.mov 121 (.tmp 15)) none, .op (.ari 122 .add .i64 (.tmp 121) (.const (.int .i64 1))) none, .op (.mov 15 (.tmp 122)) none, .keep [2, 5, 8, 9, 14, 15]] K pan e w) ∧
  (∀ (K : Env → World → Prop) (pan : List PanicEntry → World → Prop) (e : Env) (w : World), vcOps Try.prog r13_42 K pan e w = vcOps Try.prog [.op (.mov 17 (.const (.int .i64 0))) none, .keep [2, 5, 9, 14, 17]] K pan e w) ∧
  (∀ (K : Env → World → Prop) (pan : List PanicEntry → World → Prop) (e : Env) (w : World), vcOps Try.prog r13_43 K pan e w = vcOps Try.prog [.op (.mov 138 (.tmp 17)) none, .op (.ari 139 .lss .i64 (.tmp 138) (.const (.int .i64 16))) none, .keep [2, 5, 9, 14, 17, 139]] K pan e w) ∧
  (∀ (K : Env → World → Prop) (pan : List PanicEntry → World → Prop) (e : Env) (w : World), vcOps Try.prog r13_45 K pan e w = vcOps Try.prog [.op (.mov 142 (.tmp 17)) none, .op (.mov 143 (.tmp 17)) none, .op (.ari 144 .add .i64 (.tmp 143) (.const (.int .i64 1))) none, .op (.iaddrA 145 300 1 (.tmp 9) (.tmp 144)) none, .op (.load 146 (.tmp 145)) none, .op (.conv 147 .u8 (.tmp 146)) none, .op (.iaddrA 148 16 1 (.tmp 5) (.tmp 142)) none, .op (.store (.tmp 148) (.tmp 147)) none, .keep [2, 5, 9, 14, 17]] K pan e w) ∧
  (∀ (K : Env → World → Prop) (pan : List PanicEntry → World → Prop) (e : Env) (w : World), vcOps Try.prog r13_44 K pan e w = vcOps Try.prog [.op (.mov 140 (.tmp 17)) none, .op (.ari 141 .add .i64 (.tmp 140) (.const (.int .i64 1))) none, .op (.mov 17 (.tmp 141)) none, .keep [2, 5, 9, 14, 17]] K pan e w) ∧
  (∀ (K : Env → World → Prop) (pan : List PanicEntry → World → Prop) (e : Env) (w : World), vcOps Try.prog r13_46 K pan e w = vcOps Try.prog [.op (.loadN 149 16 (.tmp 5)) none, .op (.mov 150 (.tmp 14)) none, .op (.storeN 16 (.tmp 2) (.tmp 149)) none, .op (.mov 3 (.tmp 150)) none, .op (.mov 4 (.const (.int .i64 0))) none, .keep [2, 3, 4]] K pan e w) := ⟨fun _ _ _ _ => rfl, fun _ _ _ _ => rfl, fun _ _ _ _ => rfl, fun _ _ _ _ => rfl, fun _ _ _ _ => rfl, fun _ _ _ _ => rfl, fun _ _ _ _ => rfl, fun _ _ _ _ => rfl, fun _ _ _ _ => rfl, fun _ _ _ _ => rfl, fun _ _ _ _ => rfl, fun _ _ _ _ => rfl, fun _ _ _ _ => rfl, fun _ _ _ _ => rfl, fun _ _ _ _ => rfl, fun _ _ _ _ => rfl, fun _ _ _ _ => rfl, fun _ _ _ _ => rfl, fun _ _ _ _ => rfl, fun _ _ _ _ => rfl, fun _ _ _ _ => rfl, fun _ _ _ _ => rfl, fun _ _ _ _ => rfl, fun _ _ _ _ => rfl, fun _ _ _ _ => rfl, fun _ _ _ _ => rfl, fun _ _ _ _ => rfl, fun _ _ _ _ => rfl, fun _ _ _ _ => rfl, fun _ _ _ _ => rfl, fun _ _ _ _ => rfl, fun _ _ _ _ => rfl, fun _ _ _ _ => rfl, fun _ _ _ _ => rfl, fun _ _ _ _ => rfl, fun _ _ _ _ => rfl, fun _ _ _ _ => rfl, fun _ _ _ _ => rfl, fun _ _ _ _ => rfl, fun _ _ _ _ => rfl, fun _ _ _ _ => rfl, fun _ _ _ _ => rfl, fun _ _ _ _ => rfl, fun _ _ _ _ => rfl, fun _ _ _ _ => rfl, fun _ _ _ _ => rfl, fun _ _ _ _ => rfl⟩
theorem low13 : Try.f13.body.bind (lowerC Try.prog 151 (fun i => List.lookup i [(17, [(0, 0), (1, 0), (2, 0), (3, 0), (4, 0), (5, 0), (6, 0), (7, 0), (8, 0), (9, 0), (10, 0)])])) = some c13.erase := by kernel_rfl
theorem enter13 {args : List Value} {w : World} {R : Ending → World → Prop} (ha : args.length ≤ 151) (h : vc Try.prog c13 (endPost [.cN 2 16, .t 3, .t 4] R) (argEnv 0 args) w) : Calls Try.prog 13 args.toArray w R :=
  calls_of_vc Try.func13 rfl low13 rfl ha h
/-- The code of aquatint/aquatintref05.Codes. -/
def r15_0 : List G := [.op (.box 2 23 (.tmp 0)) none,
  .op (.mov 4 (.const (Go.Value.slice none 0 0))) none,
  .op (.mov 5 (.const (.bool false))) none,
  .keep [1, 2]]
def r15_1 : List G := [.op (.mov 6 (.const (Go.Value.slice none 0 0))) none,
  .keep [1, 2, 6]]
def r15_2 : List G := [.op (.mov 7 (.const (.int .i64 0))) none,
  .keep [1, 2, 6, 7]]
def r15_3 : List G := [.op (.mov 8 (.const (.int .i64 1))) none,
  .keep [1, 2, 6, 7, 8]]
def r15_4 : List G := [.op (.mov 14 (.tmp 8)) none,
  .op (.ari 15 .leq .i64 (.tmp 14) (.const (.int .i64 16))) none,
  .keep [1, 2, 6, 7, 8, 15]]
def r15_6 : List G := [.op (.mov 18 (.tmp 7)) none,
  .op (.ari 19 .mul .i64 (.tmp 18) (.const (.int .i64 2))) none,
  .op (.mov 7 (.tmp 19)) none,
  .keep [1, 2, 6, 7, 8]]
def r15_7 : List G := [.op (.mov 9 (.const (.int .i64 0))) none,
  .keep [1, 2, 6, 7, 8, 9]]
def r15_8 : List G := [.op (.mov 20 (.tmp 9)) none,
  .op (.mov 21 (.tmp 8)) none,
  .op (.ari 22 .sub .i64 (.tmp 21) (.const (.int .i64 1))) none,
  .op (.iaddrA 23 16 1 (.tmp 2) (.tmp 22)) none,
  .op (.load 24 (.tmp 23)) none,
  .op (.conv 25 .i64 (.tmp 24)) none,
  .op (.ari 26 .lss .i64 (.tmp 20) (.tmp 25)) none,
  .keep [1, 2, 6, 7, 8, 9, 26]]
def r15_10 : List G := [.op (.mov 29 (.tmp 6)) none,
  .op (.lenL 30 (.tmp 29)) none,
  .op (.mov 31 (.tmp 1)) none,
  .op (.lenS 32 (.tmp 31)) none,
  .op (.ari 33 .eql .i64 (.tmp 30) (.tmp 32)) none,
  .keep [1, 2, 6, 7, 8, 9, 33]]
def r15_11 : List G := [.op (.mov 4 (.const (Go.Value.slice none 0 0))) none,
  .op (.mov 5 (.const (.bool false))) none,
  .keep [4, 5]]
def r15_12 : List G := [.op (.mov 34 (.tmp 6)) none,
  .op (.mov 35 (.tmp 1)) none,
  .op (.mov 36 (.tmp 6)) none,
  .op (.lenL 37 (.tmp 36)) none,
  .op (.idxS 38 (.tmp 35) (.tmp 37)) none,
  .op (.conv 39 .i64 (.tmp 38)) none,
  .op (.mov 40 (.tmp 7)) none,
  .op (.mov 41 (.tmp 8)) none,
  .op (.build 42 43 [(0, 1, (.tmp 39)), (1, 1, (.tmp 40)), (2, 1, (.tmp 41))]) none,
  .op (.bslice 43 43 1 3 [(0, 3, (.tmp 42))]) none,
  .op (.append 44 43 3 24 (.tmp 34) (.tmp 43)) none,
  .op (.mov 6 (.tmp 44)) none,
  .keep [1, 2, 6, 7, 8, 9]]
def r15_13 : List G := [.op (.mov 45 (.tmp 7)) none,
  .op (.ari 46 .add .i64 (.tmp 45) (.const (.int .i64 1))) none,
  .op (.mov 7 (.tmp 46)) none,
  .keep [1, 2, 6, 7, 8, 9]]
def r15_9 : List G := [.op (.mov 27 (.tmp 9)) none,
  .op (.ari 28 .add .i64 (.tmp 27) (.const (.int .i64 1))) none,
  .op (.mov 9 (.tmp 28)) none,
  .keep [1, 2, 6, 7, 8, 9]]
def r15_5 : List G := [.op (.mov 16 (.tmp 8)) none,
  .op (.ari 17 .add .i64 (.tmp 16) (.const (.int .i64 1))) none,
  .op (.mov 8 (.tmp 17)) none,
  .keep [1, 2, 6, 7, 8]]
def r15_14 : List G := [.op (.mov 47 (.tmp 6)) none,
  .op (.lenL 48 (.tmp 47)) none,
  .op (.mov 49 (.tmp 1)) none,
  .op (.lenS 50 (.tmp 49)) none,
  .op (.ari 51 .neq .i64 (.tmp 48) (.tmp 50)) none,
  .op (.mov 52 (.tmp 51)) none,
  .op (.mov 53 (.tmp 6)) (some (52, false)),
  .op (.lenL 54 (.tmp 53)) (some (52, false)),
  .op (.ari 55 .eql .i64 (.tmp 54) (.const (.int .i64 0))) (some (52, false)),
  .op (.pick 56 (.tmp 52) (.const (.bool true)) (.tmp 55)) none,
  .op (.mov 57 (.tmp 56)) none,
  .op (.mov 58 (.tmp 6)) (some (57, false)),
  .op (.lenL 59 (.tmp 58)) (some (57, false)),
  .op (.ari 60 .gtr .i64 (.tmp 59) (.const (.int .i64 256))) (some (57, false)),
  .op (.pick 61 (.tmp 57) (.const (.bool true)) (.tmp 60)) none,
  .keep [6, 61]]
def r15_15 : List G := [.op (.mov 4 (.const (Go.Value.slice none 0 0))) none,
  .op (.mov 5 (.const (.bool false))) none,
  .keep [4, 5]]
def r15_16 : List G := [.op (.mov 10 (.const (.int .i64 0))) none,
  .keep [6, 10]]
def r15_17 : List G := [.op (.mov 62 (.tmp 10)) none,
  .op (.mov 63 (.tmp 6)) none,
  .op (.lenL 64 (.tmp 63)) none,
  .op (.ari 65 .lss .i64 (.tmp 62) (.tmp 64)) none,
  .keep [6, 10, 65]]
def r15_19 : List G := [.op (.mov 11 (.const (.int .i64 1))) none,
  .keep [6, 10, 11]]
def r15_20 : List G := [.op (.mov 12 (.const (.int .i64 0))) none,
  .keep [6, 10, 11, 12]]
def r15_21 : List G := [.op (.mov 68 (.tmp 12)) none,
  .op (.mov 69 (.tmp 6)) none,
  .op (.mov 70 (.tmp 10)) none,
  .op (.iaddrL 71 3 (.tmp 69) (.tmp 70)) none,
  .op (.faddr 72 2 (.tmp 71)) none,
  .op (.load 73 (.tmp 72)) none,
  .op (.ari 74 .lss .i64 (.tmp 68) (.tmp 73)) none,
  .keep [6, 10, 11, 12, 74]]
def r15_23 : List G := [.op (.mov 77 (.tmp 11)) none,
  .op (.ari 78 .mul .i64 (.tmp 77) (.const (.int .i64 2))) none,
  .op (.mov 11 (.tmp 78)) none,
  .keep [6, 10, 11, 12]]
def r15_22 : List G := [.op (.mov 75 (.tmp 12)) none,
  .op (.ari 76 .add .i64 (.tmp 75) (.const (.int .i64 1))) none,
  .op (.mov 12 (.tmp 76)) none,
  .keep [6, 10, 11, 12]]
def r15_24 : List G := [.op (.mov 79 (.tmp 6)) none,
  .op (.mov 80 (.tmp 10)) none,
  .op (.iaddrL 81 3 (.tmp 79) (.tmp 80)) none,
  .op (.faddr 82 1 (.tmp 81)) none,
  .op (.load 83 (.tmp 82)) none,
  .op (.mov 84 (.tmp 11)) none,
  .op (.ari 85 .sub .i64 (.tmp 84) (.const (.int .i64 1))) none,
  .op (.ari 86 .geq .i64 (.tmp 83) (.tmp 85)) none,
  .keep [6, 10, 86]]
def r15_25 : List G := [.op (.mov 4 (.const (Go.Value.slice none 0 0))) none,
  .op (.mov 5 (.const (.bool false))) none,
  .keep [4, 5]]
def r15_26 : List G := [.op (.mov 13 (.const (.int .i64 0))) none,
  .keep [6, 10, 13]]
def r15_27 : List G := [.op (.mov 87 (.tmp 13)) none,
  .op (.mov 88 (.tmp 10)) none,
  .op (.ari 89 .lss .i64 (.tmp 87) (.tmp 88)) none,
  .keep [6, 10, 13, 89]]
def r15_29 : List G := [.op (.mov 92 (.tmp 6)) none,
  .op (.mov 93 (.tmp 13)) none,
  .op (.iaddrL 94 3 (.tmp 92) (.tmp 93)) none,
  .op (.faddr 95 0 (.tmp 94)) none,
  .op (.load 96 (.tmp 95)) none,
  .op (.mov 97 (.tmp 6)) none,
  .op (.mov 98 (.tmp 10)) none,
  .op (.iaddrL 99 3 (.tmp 97) (.tmp 98)) none,
  .op (.faddr 100 0 (.tmp 99)) none,
  .op (.load 101 (.tmp 100)) none,
  .op (.ari 102 .eql .i64 (.tmp 96) (.tmp 101)) none,
  .keep [6, 10, 13, 102]]
def r15_30 : List G := [.op (.mov 4 (.const (Go.Value.slice none 0 0))) none,
  .op (.mov 5 (.const (.bool false))) none,
  .keep [4, 5]]
def r15_28 : List G := [.op (.mov 90 (.tmp 13)) none,
  .op (.ari 91 .add .i64 (.tmp 90) (.const (.int .i64 1))) none,
  .op (.mov 13 (.tmp 91)) none,
  .keep [6, 10, 13]]
def r15_18 : List G := [.op (.mov 66 (.tmp 10)) none,
  .op (.ari 67 .add .i64 (.tmp 66) (.const (.int .i64 1))) none,
  .op (.mov 10 (.tmp 67)) none,
  .keep [6, 10]]
def r15_31 : List G := [.op (.mov 103 (.tmp 6)) none,
  .op (.mov 4 (.tmp 103)) none,
  .op (.mov 5 (.const (.bool true))) none,
  .keep [4, 5]]
def c15 : C := (.seq (.region r15_0) (.seq (.region r15_1) (.seq (.region r15_2) (.seq (.seq (.region r15_3) (.block 0 (.loop (.seq (.seq (.region r15_4) (.cond (.tmp 15) .skip (.exit 0))) (.seq (.block 1 (.seq (.region r15_6) (.seq (.region r15_7) (.block 2 (.loop (.seq (.seq (.region r15_8) (.cond (.tmp 26) .skip (.exit 2))) (.seq (.block 3 (.seq (.seq (.region r15_10) (.cond (.tmp 33) (.seq (.region r15_11) .ret) .skip)) (.seq (.region r15_12) (.region r15_13)))) (.region r15_9)))))))) (.region r15_5)))))) (.seq (.seq (.region r15_14) (.cond (.tmp 61) (.seq (.region r15_15) .ret) .skip)) (.seq (.seq (.region r15_16) (.block 4 (.loop (.seq (.seq (.region r15_17) (.cond (.tmp 65) .skip (.exit 4))) (.seq (.block 5 (.seq (.region r15_19) (.seq (.seq (.region r15_20) (.block 6 (.loop (.seq (.seq (.region r15_21) (.cond (.tmp 74) .skip (.exit 6))) (.seq (.block 7 (.region r15_23)) (.region r15_22)))))) (.seq (.seq (.region r15_24) (.cond (.tmp 86) (.seq (.region r15_25) .ret) .skip)) (.seq (.region r15_26) (.block 8 (.loop (.seq (.seq (.region r15_27) (.cond (.tmp 89) .skip (.exit 8))) (.seq (.block 9 (.seq (.regionD r15_29) (.cond (.tmp 102) (.seq (.region r15_30) .ret) .skip))) (.region r15_28)))))))))) (.region r15_18)))))) (.seq (.region r15_31) .ret)))))))
theorem x15 : (∀ (K : Env → World → Prop) (pan : List PanicEntry → World → Prop) (e : Env) (w : World), vcOps Try.prog r15_0 K pan e w = vcOps Try.prog [.op (.box 2 23 (.tmp 0)) none, .op (.mov 4 (.const (Go.Value.slice none 0 0))) none, .op (.mov 5 (.const (.bool false))) none, .keep [1, 2]] K pan e w) ∧
  (∀ (K : Env → World → Prop) (pan : List PanicEntry → World → Prop) (e : Env) (w : World), vcOps Try.prog r15_1 K pan e w = vcOps Try.prog [.op (.mov 6 (.const (Go.Value.slice none 0 0))) none, .keep [1, 2, 6]] K pan e w) ∧
  (∀ (K : Env → World → Prop) (pan : List PanicEntry → World → Prop) (e : Env) (w : World), vcOps Try.prog r15_2 K pan e w = vcOps Try.prog [.op (.mov 7 (.const (.int .i64 0))) none, .keep [1, 2, 6, 7]] K pan e w) ∧
  (∀ (K : Env → World → Prop) (pan : List PanicEntry → World → Prop) (e : Env) (w : World), vcOps Try.prog r15_3 K pan e w = vcOps Try.prog [.op (.mov 8 (.const (.int .i64 1))) none, .keep [1, 2, 6, 7, 8]] K pan e w) ∧
  (∀ (K : Env → World → Prop) (pan : List PanicEntry → World → Prop) (e : Env) (w : World), vcOps Try.prog r15_4 K pan e w = vcOps Try.prog [.op (.mov 14 (.tmp 8)) none, .op (.ari 15 .leq .i64 (.tmp 14) (.const (.int .i64 16))) none, .keep [1, 2, 6, 7, 8, 15]] K pan e w) ∧
  (∀ (K : Env → World → Prop) (pan : List PanicEntry → World → Prop) (e : Env) (w : World), vcOps Try.prog r15_6 K pan e w = vcOps Try.prog [.op (.mov 18 (.tmp 7)) none, .op (.ari 19 .mul .i64 (.tmp 18) (.const (.int .i64 2))) none, .op (.mov 7 (.tmp 19)) none, .keep [1, 2, 6, 7, 8]] K pan e w) ∧
  (∀ (K : Env → World → Prop) (pan : List PanicEntry → World → Prop) (e : Env) (w : World), vcOps Try.prog r15_7 K pan e w = vcOps Try.prog [.op (.mov 9 (.const (.int .i64 0))) none, .keep [1, 2, 6, 7, 8, 9]] K pan e w) ∧
  (∀ (K : Env → World → Prop) (pan : List PanicEntry → World → Prop) (e : Env) (w : World), vcOps Try.prog r15_8 K pan e w = vcOps Try.prog [.op (.mov 20 (.tmp 9)) none, .op (.mov 21 (.tmp 8)) none, .op (.ari 22 .sub .i64 (.tmp 21) (.const (.int .i64 1))) none, .op (.iaddrA 23 16 1 (.tmp 2) (.tmp 22)) none, .op (.load 24 (.tmp 23)) none, .op (.conv 25 .i64 (.tmp 24)) none, .op (.ari 26 .lss .i64 (.tmp 20) (.tmp 25)) none, .keep [1, 2, 6, 7, 8, 9, 26]] K pan e w) ∧
  (∀ (K : Env → World → Prop) (pan : List PanicEntry → World → Prop) (e : Env) (w : World), vcOps Try.prog r15_10 K pan e w = vcOps Try.prog [.op (.mov 29 (.tmp 6)) none, .op (.lenL 30 (.tmp 29)) none, .op (.mov 31 (.tmp 1)) none, .op (.lenS 32 (.tmp 31)) none, .op (.ari 33 .eql .i64 (.tmp 30) (.tmp 32)) none, .keep [1, 2, 6, 7, 8, 9, 33]] K pan e w) ∧
  (∀ (K : Env → World → Prop) (pan : List PanicEntry → World → Prop) (e : Env) (w : World), vcOps Try.prog r15_11 K pan e w = vcOps Try.prog [.op (.mov 4 (.const (Go.Value.slice none 0 0))) none, .op (.mov 5 (.const (.bool false))) none, .keep [4, 5]] K pan e w) ∧
  (∀ (K : Env → World → Prop) (pan : List PanicEntry → World → Prop) (e : Env) (w : World), vcOps Try.prog r15_12 K pan e w = vcOps Try.prog [.op (.mov 34 (.tmp 6)) none, .op (.mov 35 (.tmp 1)) none, .op (.mov 36 (.tmp 6)) none, .op (.lenL 37 (.tmp 36)) none, .op (.idxS 38 (.tmp 35) (.tmp 37)) none, .op (.conv 39 .i64 (.tmp 38)) none, .op (.mov 40 (.tmp 7)) none, .op (.mov 41 (.tmp 8)) none, .op (.build 42 43 [(0, 1, (.tmp 39)), (1, 1, (.tmp 40)), (2, 1, (.tmp 41))]) none, .op (.bslice 43 43 1 3 [(0, 3, (.tmp 42))]) none, .op (.append 44 43 3 24 (.tmp 34) (.tmp 43)) none, .op (.mov 6 (.tmp 44)) none, .keep [1, 2, 6, 7, 8, 9]] K pan e w) ∧
  (∀ (K : Env → World → Prop) (pan : List PanicEntry → World → Prop) (e : Env) (w : World), vcOps Try.prog r15_13 K pan e w = vcOps Try.prog [.op (.mov 45 (.tmp 7)) none, .op (.ari 46 .add .i64 (.tmp 45) (.const (.int .i64 1))) none, .op (.mov 7 (.tmp 46)) none, .keep [1, 2, 6, 7, 8, 9]] K pan e w) ∧
  (∀ (K : Env → World → Prop) (pan : List PanicEntry → World → Prop) (e : Env) (w : World), vcOps Try.prog r15_9 K pan e w = vcOps Try.prog [.op (.mov 27 (.tmp 9)) none, .op (.ari 28 .add .i64 (.tmp 27) (.const (.int .i64 1))) none, .op (.mov 9 (.tmp 28)) none, .keep [1, 2, 6, 7, 8, 9]] K pan e w) ∧
  (∀ (K : Env → World → Prop) (pan : List PanicEntry → World → Prop) (e : Env) (w : World), vcOps Try.prog r15_5 K pan e w = vcOps Try.prog [.op (.mov 16 (.tmp 8)) none, .op (.ari 17 .add .i64 (.tmp 16) (.const (.int .i64 1))) none, .op (.mov 8 (.tmp 17)) none, .keep [1, 2, 6, 7, 8]] K pan e w) ∧
  (∀ (K : Env → World → Prop) (pan : List PanicEntry → World → Prop) (e : Env) (w : World), vcOps Try.prog r15_14 K pan e w = vcOps Try.prog [.op (.mov 47 (.tmp 6)) none, .op (.lenL 48 (.tmp 47)) none, .op (.mov 49 (.tmp 1)) none, .op (.lenS 50 (.tmp 49)) none, .op (.ari 51 .neq .i64 (.tmp 48) (.tmp 50)) none, .op (.mov 52 (.tmp 51)) none, .op (.mov 53 (.tmp 6)) (some (52, false)), .op (.lenL 54 (.tmp 53)) (some (52, false)), .op (.ari 55 .eql .i64 (.tmp 54) (.const (.int .i64 0))) (some (52, false)), .op (.pick 56 (.tmp 52) (.const (.bool true)) (.tmp 55)) none, .op (.mov 57 (.tmp 56)) none, .op (.mov 58 (.tmp 6)) (some (57, false)), .op (.lenL 59 (.tmp 58)) (some (57, false)), .op (.ari 60 .gtr .i64 (.tmp 59) (.const (.int .i64 256))) (some (57, false)), .op (.pick 61 (.tmp 57) (.const (.bool true)) (.tmp 60)) none, .keep [6, 61]] K pan e w) ∧
  (∀ (K : Env → World → Prop) (pan : List PanicEntry → World → Prop) (e : Env) (w : World), vcOps Try.prog r15_15 K pan e w = vcOps Try.prog [.op (.mov 4 (.const (Go.Value.slice none 0 0))) none, .op (.mov 5 (.const (.bool false))) none, .keep [4, 5]] K pan e w) ∧
  (∀ (K : Env → World → Prop) (pan : List PanicEntry → World → Prop) (e : Env) (w : World), vcOps Try.prog r15_16 K pan e w = vcOps Try.prog [.op (.mov 10 (.const (.int .i64 0))) none, .keep [6, 10]] K pan e w) ∧
  (∀ (K : Env → World → Prop) (pan : List PanicEntry → World → Prop) (e : Env) (w : World), vcOps Try.prog r15_17 K pan e w = vcOps Try.prog [.op (.mov 62 (.tmp 10)) none, .op (.mov 63 (.tmp 6)) none, .op (.lenL 64 (.tmp 63)) none, .op (.ari 65 .lss .i64 (.tmp 62) (.tmp 64)) none, .keep [6, 10, 65]] K pan e w) ∧
  (∀ (K : Env → World → Prop) (pan : List PanicEntry → World → Prop) (e : Env) (w : World), vcOps Try.prog r15_19 K pan e w = vcOps Try.prog [.op (.mov 11 (.const (.int .i64 1))) none, .keep [6, 10, 11]] K pan e w) ∧
  (∀ (K : Env → World → Prop) (pan : List PanicEntry → World → Prop) (e : Env) (w : World), vcOps Try.prog r15_20 K pan e w = vcOps Try.prog [.op (.mov 12 (.const (.int .i64 0))) none, .keep [6, 10, 11, 12]] K pan e w) ∧
  (∀ (K : Env → World → Prop) (pan : List PanicEntry → World → Prop) (e : Env) (w : World), vcOps Try.prog r15_21 K pan e w = vcOps Try.prog [.op (.mov 68 (.tmp 12)) none, .op (.mov 69 (.tmp 6)) none, .op (.mov 70 (.tmp 10)) none, .op (.iaddrL 71 3 (.tmp 69) (.tmp 70)) none, .op (.faddr 72 2 (.tmp 71)) none, .op (.load 73 (.tmp 72)) none, .op (.ari 74 .lss .i64 (.tmp 68) (.tmp 73)) none, .keep [6, 10, 11, 12, 74]] K pan e w) ∧
  (∀ (K : Env → World → Prop) (pan : List PanicEntry → World → Prop) (e : Env) (w : World), vcOps Try.prog r15_23 K pan e w = vcOps Try.prog [.op (.mov 77 (.tmp 11)) none, .op (.ari 78 .mul .i64 (.tmp 77) (.const (.int .i64 2))) none, .op (.mov 11 (.tmp 78)) none, .keep [6, 10, 11, 12]] K pan e w) ∧
  (∀ (K : Env → World → Prop) (pan : List PanicEntry → World → Prop) (e : Env) (w : World), vcOps Try.prog r15_22 K pan e w = vcOps Try.prog [.op (.mov 75 (.tmp 12)) none, .op (.ari 76 .add .i64 (.tmp 75) (.const (.int .i64 1))) none, .op (.mov 12 (.tmp 76)) none, .keep [6, 10, 11, 12]] K pan e w) ∧
  (∀ (K : Env → World → Prop) (pan : List PanicEntry → World → Prop) (e : Env) (w : World), vcOps Try.prog r15_24 K pan e w = vcOps Try.prog [.op (.mov 79 (.tmp 6)) none, .op (.mov 80 (.tmp 10)) none, .op (.iaddrL 81 3 (.tmp 79) (.tmp 80)) none, .op (.faddr 82 1 (.tmp 81)) none, .op (.load 83 (.tmp 82)) none, .op (.mov 84 (.tmp 11)) none, .op (.ari 85 .sub .i64 (.tmp 84) (.const (.int .i64 1))) none, .op (.ari 86 .geq .i64 (.tmp 83) (.tmp 85)) none, .keep [6, 10, 86]] K pan e w) ∧
  (∀ (K : Env → World → Prop) (pan : List PanicEntry → World → Prop) (e : Env) (w : World), vcOps Try.prog r15_25 K pan e w = vcOps Try.prog [.op (.mov 4 (.const (Go.Value.slice none 0 0))) none, .op (.mov 5 (.const (.bool false))) none, .keep [4, 5]] K pan e w) ∧
  (∀ (K : Env → World → Prop) (pan : List PanicEntry → World → Prop) (e : Env) (w : World), vcOps Try.prog r15_26 K pan e w = vcOps Try.prog [.op (.mov 13 (.const (.int .i64 0))) none, .keep [6, 10, 13]] K pan e w) ∧
  (∀ (K : Env → World → Prop) (pan : List PanicEntry → World → Prop) (e : Env) (w : World), vcOps Try.prog r15_27 K pan e w = vcOps Try.prog [.op (.mov 87 (.tmp 13)) none, .op (.mov 88 (.tmp 10)) none, .op (.ari 89 .lss .i64 (.tmp 87) (.tmp 88)) none, .keep [6, 10, 13, 89]] K pan e w) ∧
  (∀ (K : Env → World → Prop) (pan : List PanicEntry → World → Prop) (e : Env) (w : World), vcOps Try.prog r15_29 K pan e w = vcOps Try.prog [.op (.mov 92 (.tmp 6)) none, .op (.mov 93 (.tmp 13)) none, .op (.iaddrL 94 3 (.tmp 92) (.tmp 93)) none, .op (.faddr 95 0 (.tmp 94)) none, .op (.load 96 (.tmp 95)) none, .op (.mov 97 (.tmp 6)) none, .op (.mov 98 (.tmp 10)) none, .op (.iaddrL 99 3 (.tmp 97) (.tmp 98)) none, .op (.faddr 100 0 (.tmp 99)) none, .op (.load 101 (.tmp 100)) none, .op (.ari 102 .eql .i64 (.tmp 96) (.tmp 101)) none, .keep [6, 10, 13, 102]] K pan e w) ∧
  (∀ (K : Env → World → Prop) (pan : List PanicEntry → World → Prop) (e : Env) (w : World), vcOps Try.prog r15_30 K pan e w = vcOps Try.prog [.op (.mov 4 (.const (Go.Value.slice none 0 0))) none, .op (.mov 5 (.const (.bool false))) none, .keep [4, 5]] K pan e w) ∧
  (∀ (K : Env → World → Prop) (pan : List PanicEntry → World → Prop) (e : Env) (w : World), vcOps Try.prog r15_28 K pan e w = vcOps Try.prog [.op (.mov 90 (.tmp 13)) none, .op (.ari 91 .add .i64 (.tmp 90) (.const (.int .i64 1))) none, .op (.mov 13 (.tmp 91)) none, .keep [6, 10, 13]] K pan e w) ∧
  (∀ (K : Env → World → Prop) (pan : List PanicEntry → World → Prop) (e : Env) (w : World), vcOps Try.prog r15_18 K pan e w = vcOps Try.prog [.op (.mov 66 (.tmp 10)) none, .op (.ari 67 .add .i64 (.tmp 66) (.const (.int .i64 1))) none, .op (.mov 10 (.tmp 67)) none, .keep [6, 10]] K pan e w) ∧
  (∀ (K : Env → World → Prop) (pan : List PanicEntry → World → Prop) (e : Env) (w : World), vcOps Try.prog r15_31 K pan e w = vcOps Try.prog [.op (.mov 103 (.tmp 6)) none, .op (.mov 4 (.tmp 103)) none, .op (.mov 5 (.const (.bool true))) none, .keep [4, 5]] K pan e w) := ⟨fun _ _ _ _ => rfl, fun _ _ _ _ => rfl, fun _ _ _ _ => rfl, fun _ _ _ _ => rfl, fun _ _ _ _ => rfl, fun _ _ _ _ => rfl, fun _ _ _ _ => rfl, fun _ _ _ _ => rfl, fun _ _ _ _ => rfl, fun _ _ _ _ => rfl, fun _ _ _ _ => rfl, fun _ _ _ _ => rfl, fun _ _ _ _ => rfl, fun _ _ _ _ => rfl, fun _ _ _ _ => rfl, fun _ _ _ _ => rfl, fun _ _ _ _ => rfl, fun _ _ _ _ => rfl, fun _ _ _ _ => rfl, fun _ _ _ _ => rfl, fun _ _ _ _ => rfl, fun _ _ _ _ => rfl, fun _ _ _ _ => rfl, fun _ _ _ _ => rfl, fun _ _ _ _ => rfl, fun _ _ _ _ => rfl, fun _ _ _ _ => rfl, fun _ _ _ _ => rfl, fun _ _ _ _ => rfl, fun _ _ _ _ => rfl, fun _ _ _ _ => rfl, fun _ _ _ _ => rfl⟩
theorem low15 : Try.f15.body.bind (lowerC Try.prog 104 (fun i => List.lookup i [(29, [(0, 0), (1, 0), (2, 0), (3, 0), (4, 0), (5, 0), (6, 0), (7, 0), (8, 0), (9, 0), (10, 0)])])) = some c15.erase := by kernel_rfl
theorem enter15 {args : List Value} {w : World} {R : Ending → World → Prop} (ha : args.length ≤ 104) (h : vc Try.prog c15 (endPost [.t 4, .t 5] R) (argEnv 0 args) w) : Calls Try.prog 15 args.toArray w R :=
  calls_of_vc Try.func15 rfl low15 rfl ha h
/-- The code of aquatint/aquatintref06.Lengths. -/
def r23_0 : List G := [.op (.box 1 22 (.tmp 0)) none,
  .op (.alloc 2 48) none,
  .keep [1, 2]]
def r23_1 : List G := [.op (.alloc 3 48) none,
  .keep [1, 2, 3]]
def r23_2 : List G := [.op (.mov 4 (.const (Go.Value.slice none 0 0))) none,
  .keep [1, 2, 3, 4]]
def r23_3 : List G := [.op (.mov 5 (.const (.int .i64 0))) none,
  .keep [1, 2, 3, 4, 5]]
def r23_4 : List G := [.op (.mov 12 (.tmp 5)) none,
  .op (.ari 13 .lss .i64 (.tmp 12) (.const (.int .i64 256))) none,
  .keep [1, 2, 3, 4, 5, 13]]
def r23_6 : List G := [.op (.mov 16 (.tmp 5)) none,
  .op (.iaddrA 17 256 1 (.tmp 1) (.tmp 16)) none,
  .op (.load 18 (.tmp 17)) none,
  .op (.ari 19 .gtr .i64 (.tmp 18) (.const (.int .i64 0))) none,
  .keep [1, 2, 3, 4, 5, 19]]
def r23_7 : List G := [.op (.mov 20 (.tmp 4)) none,
  .op (.mov 21 (.tmp 5)) none,
  .op (.mov 22 (.tmp 5)) none,
  .op (.iaddrA 23 256 1 (.tmp 1) (.tmp 22)) none,
  .op (.load 24 (.tmp 23)) none,
  .op (.mov 25 (.tmp 5)) none,
  .op (.bslice 26 3 1 1 [(0, 1, (.tmp 25))]) none,
  .op (.build 27 72 [(0, 1, (.tmp 21)), (1, 1, (.tmp 24)), (2, 1, (.tmp 26))]) none,
  .op (.bslice 28 72 1 3 [(0, 3, (.tmp 27))]) none,
  .op (.append 29 72 3 40 (.tmp 20) (.tmp 28)) none,
  .op (.mov 4 (.tmp 29)) none,
  .keep [1, 2, 3, 4, 5]]
def r23_5 : List G := [.op (.mov 14 (.tmp 5)) none,
  .op (.ari 15 .add .i64 (.tmp 14) (.const (.int .i64 1))) none,
  .op (.mov 5 (.tmp 15)) none,
  .keep [1, 2, 3, 4, 5]]
def r23_8 : List G := [.op (.mov 30 (.tmp 4)) none,
  .op (.bslice 31 3 1 1 [(0, 1, (.const (.int .i64 256)))]) none,
  .op (.build 32 72 [(0, 1, (.const (.int .i64 256))), (1, 1, (.const (.int .i64 1))), (2, 1, (.tmp 31))]) none,
  .op (.bslice 33 72 1 3 [(0, 3, (.tmp 32))]) none,
  .op (.append 34 72 3 40 (.tmp 30) (.tmp 33)) none,
  .op (.mov 4 (.tmp 34)) none,
  .keep [2, 3, 4]]
def r23_9 : List G := [.op (.mov 35 (.tmp 4)) none,
  .op (.lenL 36 (.tmp 35)) none,
  .op (.ari 37 .gtr .i64 (.tmp 36) (.const (.int .i64 1))) none,
  .keep [2, 3, 4, 37]]
def r23_10 : List G := [.op (.mov 38 (.tmp 4)) none,
  .op (.call (some 39) 30 [(.tmp 38), (.const (.int .i64 (-1)))]) none,
  .op (.mov 6 (.tmp 39)) none,
  .keep [2, 3, 4, 6]]
def r23_11 : List G := [.op (.mov 40 (.tmp 4)) none,
  .op (.mov 41 (.tmp 6)) none,
  .op (.call (some 42) 30 [(.tmp 40), (.tmp 41)]) none,
  .op (.mov 7 (.tmp 42)) none,
  .keep [2, 3, 4, 6, 7]]
def r23_12 : List (Nat × G) := [(0, .op (.mov 43 (.tmp 4)) none),
  (0, .op (.mov 44 (.tmp 6)) none),
  (0, .op (.iaddrL 45 3 (.tmp 43) (.tmp 44)) none),
  (0, .op (.faddr 46 0 (.tmp 45)) none),
  (1, .op (.load 47 (.tmp 46)) none),
  (0, .op (.mov 48 (.tmp 4)) none),
  (0, .op (.mov 49 (.tmp 6)) none),
  (0, .op (.iaddrL 50 3 (.tmp 48) (.tmp 49)) none),
  (0, .op (.faddr 51 1 (.tmp 50)) none),
  (1, .op (.load 52 (.tmp 51)) none),
  (0, .op (.mov 53 (.tmp 4)) none),
  (0, .op (.mov 54 (.tmp 7)) none),
  (0, .op (.iaddrL 55 3 (.tmp 53) (.tmp 54)) none),
  (0, .op (.faddr 56 1 (.tmp 55)) none),
  (1, .op (.load 57 (.tmp 56)) none),
  (0, .op (.ari 58 .add .i64 (.tmp 52) (.tmp 57)) none),
  (0, .op (.build 59 72 [(0, 1, (.tmp 47)), (1, 1, (.tmp 58)), (2, 1, (.const (Go.Value.slice none 0 0)))]) none),
  (2, .op (.alloc 8 72) none),
  (0, .op (.storeN 3 (.tmp 8) (.tmp 59)) none),
  (0, .keep [2, 3, 4, 6, 7, 8])]
def r23_13 : List (Nat × G) := [(0, .op (.faddr 60 2 (.tmp 8)) none),
  (0, .op (.load 61 (.tmp 60)) none),
  (0, .op (.mov 62 (.tmp 4)) none),
  (0, .op (.mov 63 (.tmp 6)) none),
  (0, .op (.iaddrL 64 3 (.tmp 62) (.tmp 63)) none),
  (0, .op (.faddr 65 2 (.tmp 64)) none),
  (0, .op (.load 66 (.tmp 65)) none),
  (0, .op (.mov 68 (.tmp 4)) none),
  (0, .op (.mov 69 (.tmp 7)) none),
  (0, .op (.iaddrL 70 3 (.tmp 68) (.tmp 69)) none),
  (0, .op (.faddr 71 2 (.tmp 70)) none),
  (1, .op (.load 72 (.tmp 71)) none),
  (2, .op (.append 67 3 1 8 (.tmp 61) (.tmp 66)) none),
  (0, .op (.append 73 3 1 8 (.tmp 67) (.tmp 72)) none),
  (0, .op (.faddr 74 2 (.tmp 8)) none),
  (0, .op (.store (.tmp 74) (.tmp 73)) none),
  (0, .keep [2, 3, 4, 6, 7, 8])]
def r23_14 : List G := [.op (.mov 9 (.const (.int .i64 0))) none,
  .keep [2, 3, 4, 6, 7, 8, 9]]
def r23_15 : List G := [.op (.mov 75 (.tmp 9)) none,
  .op (.faddr 76 2 (.tmp 8)) none,
  .op (.load 77 (.tmp 76)) none,
  .op (.lenL 78 (.tmp 77)) none,
  .op (.ari 79 .lss .i64 (.tmp 75) (.tmp 78)) none,
  .keep [2, 3, 4, 6, 7, 8, 9, 79]]
def r23_17 : List G := [.op (.faddr 82 2 (.tmp 8)) none,
  .op (.load 83 (.tmp 82)) none,
  .op (.mov 84 (.tmp 9)) none,
  .op (.iaddrL 85 1 (.tmp 83) (.tmp 84)) none,
  .op (.load 86 (.tmp 85)) none,
  .op (.faddr 87 2 (.tmp 8)) none,
  .op (.load 88 (.tmp 87)) none,
  .op (.mov 89 (.tmp 9)) none,
  .op (.iaddrL 90 1 (.tmp 88) (.tmp 89)) none,
  .op (.load 91 (.tmp 90)) none,
  .op (.iaddrA 92 257 1 (.tmp 3) (.tmp 91)) none,
  .op (.load 93 (.tmp 92)) none,
  .op (.ari 94 .add .i64 (.tmp 93) (.const (.int .i64 1))) none,
  .op (.iaddrA 95 257 1 (.tmp 3) (.tmp 86)) none,
  .op (.store (.tmp 95) (.tmp 94)) none,
  .keep [2, 3, 4, 6, 7, 8, 9]]
def r23_16 : List G := [.op (.mov 80 (.tmp 9)) none,
  .op (.ari 81 .add .i64 (.tmp 80) (.const (.int .i64 1))) none,
  .op (.mov 9 (.tmp 81)) none,
  .keep [2, 3, 4, 6, 7, 8, 9]]
def r23_18 : List G := [.op (.mov 10 (.const (Go.Value.slice none 0 0))) none,
  .keep [2, 3, 4, 6, 7, 8, 10]]
def r23_19 : List G := [.op (.mov 11 (.const (.int .i64 0))) none,
  .keep [2, 3, 4, 6, 7, 8, 10, 11]]
def r23_20 : List G := [.op (.mov 96 (.tmp 11)) none,
  .op (.mov 97 (.tmp 4)) none,
  .op (.lenL 98 (.tmp 97)) none,
  .op (.ari 99 .lss .i64 (.tmp 96) (.tmp 98)) none,
  .keep [2, 3, 4, 6, 7, 8, 10, 11, 99]]
def r23_22 : List G := [.op (.mov 102 (.tmp 11)) none,
  .op (.mov 103 (.tmp 6)) none,
  .op (.ari 104 .neq .i64 (.tmp 102) (.tmp 103)) none,
  .op (.mov 105 (.tmp 104)) none,
  .op (.mov 106 (.tmp 11)) (some (105, true)),
  .op (.mov 107 (.tmp 7)) (some (105, true)),
  .op (.ari 108 .neq .i64 (.tmp 106) (.tmp 107)) (some (105, true)),
  .op (.pick 109 (.tmp 105) (.tmp 108) (.const (.bool false))) none,
  .keep [2, 3, 4, 6, 7, 8, 10, 11, 109]]
def r23_23 : List G := [.op (.mov 110 (.tmp 10)) none,
  .op (.mov 111 (.tmp 4)) none,
  .op (.mov 112 (.tmp 11)) none,
  .op (.iaddrL 113 3 (.tmp 111) (.tmp 112)) none,
  .op (.loadN 114 3 (.tmp 113)) none,
  .op (.bslice 115 72 1 3 [(0, 3, (.tmp 114))]) none,
  .op (.append 116 72 3 40 (.tmp 110) (.tmp 115)) none,
  .op (.mov 10 (.tmp 116)) none,
  .keep [2, 3, 4, 6, 7, 8, 10, 11]]
def r23_21 : List G := [.op (.mov 100 (.tmp 11)) none,
  .op (.ari 101 .add .i64 (.tmp 100) (.const (.int .i64 1))) none,
  .op (.mov 11 (.tmp 101)) none,
  .keep [2, 3, 4, 6, 7, 8, 10, 11]]
def r23_24 : List G := [.op (.mov 117 (.tmp 10)) none,
  .op (.loadN 118 3 (.tmp 8)) none,
  .op (.bslice 119 72 1 3 [(0, 3, (.tmp 118))]) none,
  .op (.append 120 72 3 40 (.tmp 117) (.tmp 119)) none,
  .op (.mov 4 (.tmp 120)) none,
  .keep [2, 3, 4]]
def r23_25 : List G := [.op (.loadN 121 257 (.tmp 3)) none,
  .op (.storeN 257 (.tmp 2) (.tmp 121)) none,
  .keep [2]]
def c23 : C := (.seq (.region r23_0) (.seq (.region r23_1) (.seq (.region r23_2) (.seq (.seq (.region r23_3) (.block 0 (.loop (.seq (.seq (.region r23_4) (.cond (.tmp 13) .skip (.exit 0))) (.seq (.block 1 (.seq (.region r23_6) (.cond (.tmp 19) (.region r23_7) .skip))) (.region r23_5)))))) (.seq (.region r23_8) (.seq (.block 2 (.loop (.seq (.seq (.region r23_9) (.cond (.tmp 37) .skip (.exit 2))) (.block 3 (.seq (.region r23_10) (.seq (.region r23_11) (.seq (.regionW r23_12) (.seq (.regionW r23_13) (.seq (.seq (.region r23_14) (.block 4 (.loop (.seq (.seq (.region r23_15) (.cond (.tmp 79) .skip (.exit 4))) (.seq (.block 5 (.regionD r23_17)) (.region r23_16)))))) (.seq (.region r23_18) (.seq (.seq (.region r23_19) (.block 6 (.loop (.seq (.seq (.region r23_20) (.cond (.tmp 99) .skip (.exit 6))) (.seq (.block 7 (.seq (.region r23_22) (.cond (.tmp 109) (.region r23_23) .skip))) (.region r23_21)))))) (.region r23_24)))))))))))) (.seq (.region r23_25) .ret)))))))
theorem x23 : (∀ (K : Env → World → Prop) (pan : List PanicEntry → World → Prop) (e : Env) (w : World), vcOps Try.prog r23_0 K pan e w = vcOps Try.prog [.op (.box 1 22 (.tmp 0)) none, .op (.alloc 2 48) none, .keep [1, 2]] K pan e w) ∧
  (∀ (K : Env → World → Prop) (pan : List PanicEntry → World → Prop) (e : Env) (w : World), vcOps Try.prog r23_1 K pan e w = vcOps Try.prog [.op (.alloc 3 48) none, .keep [1, 2, 3]] K pan e w) ∧
  (∀ (K : Env → World → Prop) (pan : List PanicEntry → World → Prop) (e : Env) (w : World), vcOps Try.prog r23_2 K pan e w = vcOps Try.prog [.op (.mov 4 (.const (Go.Value.slice none 0 0))) none, .keep [1, 2, 3, 4]] K pan e w) ∧
  (∀ (K : Env → World → Prop) (pan : List PanicEntry → World → Prop) (e : Env) (w : World), vcOps Try.prog r23_3 K pan e w = vcOps Try.prog [.op (.mov 5 (.const (.int .i64 0))) none, .keep [1, 2, 3, 4, 5]] K pan e w) ∧
  (∀ (K : Env → World → Prop) (pan : List PanicEntry → World → Prop) (e : Env) (w : World), vcOps Try.prog r23_4 K pan e w = vcOps Try.prog [.op (.mov 12 (.tmp 5)) none, .op (.ari 13 .lss .i64 (.tmp 12) (.const (.int .i64 256))) none, .keep [1, 2, 3, 4, 5, 13]] K pan e w) ∧
  (∀ (K : Env → World → Prop) (pan : List PanicEntry → World → Prop) (e : Env) (w : World), vcOps Try.prog r23_6 K pan e w = vcOps Try.prog [.op (.mov 16 (.tmp 5)) none, .op (.iaddrA 17 256 1 (.tmp 1) (.tmp 16)) none, .op (.load 18 (.tmp 17)) none, .op (.ari 19 .gtr .i64 (.tmp 18) (.const (.int .i64 0))) none, .keep [1, 2, 3, 4, 5, 19]] K pan e w) ∧
  (∀ (K : Env → World → Prop) (pan : List PanicEntry → World → Prop) (e : Env) (w : World), vcOps Try.prog r23_7 K pan e w = vcOps Try.prog [.op (.mov 20 (.tmp 4)) none, .op (.mov 21 (.tmp 5)) none, .op (.mov 22 (.tmp 5)) none, .op (.iaddrA 23 256 1 (.tmp 1) (.tmp 22)) none, .op (.load 24 (.tmp 23)) none, .op (.mov 25 (.tmp 5)) none, .op (.bslice 26 3 1 1 [(0, 1, (.tmp 25))]) none, .op (.build 27 72 [(0, 1, (.tmp 21)), (1, 1, (.tmp 24)), (2, 1, (.tmp 26))]) none, .op (.bslice 28 72 1 3 [(0, 3, (.tmp 27))]) none, .op (.append 29 72 3 40 (.tmp 20) (.tmp 28)) none, .op (.mov 4 (.tmp 29)) none, .keep [1, 2, 3, 4, 5]] K pan e w) ∧
  (∀ (K : Env → World → Prop) (pan : List PanicEntry → World → Prop) (e : Env) (w : World), vcOps Try.prog r23_5 K pan e w = vcOps Try.prog [.op (.mov 14 (.tmp 5)) none, .op (.ari 15 .add .i64 (.tmp 14) (.const (.int .i64 1))) none, .op (.mov 5 (.tmp 15)) none, .keep [1, 2, 3, 4, 5]] K pan e w) ∧
  (∀ (K : Env → World → Prop) (pan : List PanicEntry → World → Prop) (e : Env) (w : World), vcOps Try.prog r23_8 K pan e w = vcOps Try.prog [.op (.mov 30 (.tmp 4)) none, .op (.bslice 31 3 1 1 [(0, 1, (.const (.int .i64 256)))]) none, .op (.build 32 72 [(0, 1, (.const (.int .i64 256))), (1, 1, (.const (.int .i64 1))), (2, 1, (.tmp 31))]) none, .op (.bslice 33 72 1 3 [(0, 3, (.tmp 32))]) none, .op (.append 34 72 3 40 (.tmp 30) (.tmp 33)) none, .op (.mov 4 (.tmp 34)) none, .keep [2, 3, 4]] K pan e w) ∧
  (∀ (K : Env → World → Prop) (pan : List PanicEntry → World → Prop) (e : Env) (w : World), vcOps Try.prog r23_9 K pan e w = vcOps Try.prog [.op (.mov 35 (.tmp 4)) none, .op (.lenL 36 (.tmp 35)) none, .op (.ari 37 .gtr .i64 (.tmp 36) (.const (.int .i64 1))) none, .keep [2, 3, 4, 37]] K pan e w) ∧
  (∀ (K : Env → World → Prop) (pan : List PanicEntry → World → Prop) (e : Env) (w : World), vcOps Try.prog r23_10 K pan e w = vcOps Try.prog [.op (.mov 38 (.tmp 4)) none, .op (.call (some 39) 30 [(.tmp 38), (.const (.int .i64 (-1)))]) none, .op (.mov 6 (.tmp 39)) none, .keep [2, 3, 4, 6]] K pan e w) ∧
  (∀ (K : Env → World → Prop) (pan : List PanicEntry → World → Prop) (e : Env) (w : World), vcOps Try.prog r23_11 K pan e w = vcOps Try.prog [.op (.mov 40 (.tmp 4)) none, .op (.mov 41 (.tmp 6)) none, .op (.call (some 42) 30 [(.tmp 40), (.tmp 41)]) none, .op (.mov 7 (.tmp 42)) none, .keep [2, 3, 4, 6, 7]] K pan e w) ∧
  (∀ (w0 : Wat) (K : Env → World → Prop) (pan : List PanicEntry → World → Prop) (e : Env) (w : World), vcW Try.prog w0 r23_12 K pan e w = vcW Try.prog w0 [(0, .op (.mov 43 (.tmp 4)) none), (0, .op (.mov 44 (.tmp 6)) none), (0, .op (.iaddrL 45 3 (.tmp 43) (.tmp 44)) none), (0, .op (.faddr 46 0 (.tmp 45)) none), (1, .op (.load 47 (.tmp 46)) none), (0, .op (.mov 48 (.tmp 4)) none), (0, .op (.mov 49 (.tmp 6)) none), (0, .op (.iaddrL 50 3 (.tmp 48) (.tmp 49)) none), (0, .op (.faddr 51 1 (.tmp 50)) none), (1, .op (.load 52 (.tmp 51)) none), (0, .op (.mov 53 (.tmp 4)) none), (0, .op (.mov 54 (.tmp 7)) none), (0, .op (.iaddrL 55 3 (.tmp 53) (.tmp 54)) none), (0, .op (.faddr 56 1 (.tmp 55)) none), (1, .op (.load 57 (.tmp 56)) none), (0, .op (.ari 58 .add .i64 (.tmp 52) (.tmp 57)) none), (0, .op (.build 59 72 [(0, 1, (.tmp 47)), (1, 1, (.tmp 58)), (2, 1, (.const (Go.Value.slice none 0 0)))]) none), (2, .op (.alloc 8 72) none), (0, .op (.storeN 3 (.tmp 8) (.tmp 59)) none), (0, .keep [2, 3, 4, 6, 7, 8])] K pan e w) ∧
  (∀ (w0 : Wat) (K : Env → World → Prop) (pan : List PanicEntry → World → Prop) (e : Env) (w : World), vcW Try.prog w0 r23_13 K pan e w = vcW Try.prog w0 [(0, .op (.faddr 60 2 (.tmp 8)) none), (0, .op (.load 61 (.tmp 60)) none), (0, .op (.mov 62 (.tmp 4)) none), (0, .op (.mov 63 (.tmp 6)) none), (0, .op (.iaddrL 64 3 (.tmp 62) (.tmp 63)) none), (0, .op (.faddr 65 2 (.tmp 64)) none), (0, .op (.load 66 (.tmp 65)) none), (0, .op (.mov 68 (.tmp 4)) none), (0, .op (.mov 69 (.tmp 7)) none), (0, .op (.iaddrL 70 3 (.tmp 68) (.tmp 69)) none), (0, .op (.faddr 71 2 (.tmp 70)) none), (1, .op (.load 72 (.tmp 71)) none), (2, .op (.append 67 3 1 8 (.tmp 61) (.tmp 66)) none), (0, .op (.append 73 3 1 8 (.tmp 67) (.tmp 72)) none), (0, .op (.faddr 74 2 (.tmp 8)) none), (0, .op (.store (.tmp 74) (.tmp 73)) none), (0, .keep [2, 3, 4, 6, 7, 8])] K pan e w) ∧
  (∀ (K : Env → World → Prop) (pan : List PanicEntry → World → Prop) (e : Env) (w : World), vcOps Try.prog r23_14 K pan e w = vcOps Try.prog [.op (.mov 9 (.const (.int .i64 0))) none, .keep [2, 3, 4, 6, 7, 8, 9]] K pan e w) ∧
  (∀ (K : Env → World → Prop) (pan : List PanicEntry → World → Prop) (e : Env) (w : World), vcOps Try.prog r23_15 K pan e w = vcOps Try.prog [.op (.mov 75 (.tmp 9)) none, .op (.faddr 76 2 (.tmp 8)) none, .op (.load 77 (.tmp 76)) none, .op (.lenL 78 (.tmp 77)) none, .op (.ari 79 .lss .i64 (.tmp 75) (.tmp 78)) none, .keep [2, 3, 4, 6, 7, 8, 9, 79]] K pan e w) ∧
  (∀ (K : Env → World → Prop) (pan : List PanicEntry → World → Prop) (e : Env) (w : World), vcOps Try.prog r23_17 K pan e w = vcOps Try.prog [.op (.faddr 82 2 (.tmp 8)) none, .op (.load 83 (.tmp 82)) none, .op (.mov 84 (.tmp 9)) none, .op (.iaddrL 85 1 (.tmp 83) (.tmp 84)) none, .op (.load 86 (.tmp 85)) none, .op (.faddr 87 2 (.tmp 8)) none, .op (.load 88 (.tmp 87)) none, .op (.mov 89 (.tmp 9)) none, .op (.iaddrL 90 1 (.tmp 88) (.tmp 89)) none, .op (.load 91 (.tmp 90)) none, .op (.iaddrA 92 257 1 (.tmp 3) (.tmp 91)) none, .op (.load 93 (.tmp 92)) none, .op (.ari 94 .add .i64 (.tmp 93) (.const (.int .i64 1))) none, .op (.iaddrA 95 257 1 (.tmp 3) (.tmp 86)) none, .op (.store (.tmp 95) (.tmp 94)) none, .keep [2, 3, 4, 6, 7, 8, 9]] K pan e w) ∧
  (∀ (K : Env → World → Prop) (pan : List PanicEntry → World → Prop) (e : Env) (w : World), vcOps Try.prog r23_16 K pan e w = vcOps Try.prog [.op (.mov 80 (.tmp 9)) none, .op (.ari 81 .add .i64 (.tmp 80) (.const (.int .i64 1))) none, .op (.mov 9 (.tmp 81)) none, .keep [2, 3, 4, 6, 7, 8, 9]] K pan e w) ∧
  (∀ (K : Env → World → Prop) (pan : List PanicEntry → World → Prop) (e : Env) (w : World), vcOps Try.prog r23_18 K pan e w = vcOps Try.prog [.op (.mov 10 (.const (Go.Value.slice none 0 0))) none, .keep [2, 3, 4, 6, 7, 8, 10]] K pan e w) ∧
  (∀ (K : Env → World → Prop) (pan : List PanicEntry → World → Prop) (e : Env) (w : World), vcOps Try.prog r23_19 K pan e w = vcOps Try.prog [.op (.mov 11 (.const (.int .i64 0))) none, .keep [2, 3, 4, 6, 7, 8, 10, 11]] K pan e w) ∧
  (∀ (K : Env → World → Prop) (pan : List PanicEntry → World → Prop) (e : Env) (w : World), vcOps Try.prog r23_20 K pan e w = vcOps Try.prog [.op (.mov 96 (.tmp 11)) none, .op (.mov 97 (.tmp 4)) none, .op (.lenL 98 (.tmp 97)) none, .op (.ari 99 .lss .i64 (.tmp 96) (.tmp 98)) none, .keep [2, 3, 4, 6, 7, 8, 10, 11, 99]] K pan e w) ∧
  (∀ (K : Env → World → Prop) (pan : List PanicEntry → World → Prop) (e : Env) (w : World), vcOps Try.prog r23_22 K pan e w = vcOps Try.prog [.op (.mov 102 (.tmp 11)) none, .op (.mov 103 (.tmp 6)) none, .op (.ari 104 .neq .i64 (.tmp 102) (.tmp 103)) none, .op (.mov 105 (.tmp 104)) none, .op (.mov 106 (.tmp 11)) (some (105, true)), .op (.mov 107 (.tmp 7)) (some (105, true)), .op (.ari 108 .neq .i64 (.tmp 106) (.tmp 107)) (some (105, true)), .op (.pick 109 (.tmp 105) (.tmp 108) (.const (.bool false))) none, .keep [2, 3, 4, 6, 7, 8, 10, 11, 109]] K pan e w) ∧
  (∀ (K : Env → World → Prop) (pan : List PanicEntry → World → Prop) (e : Env) (w : World), vcOps Try.prog r23_23 K pan e w = vcOps Try.prog [.op (.mov 110 (.tmp 10)) none, .op (.mov 111 (.tmp 4)) none, .op (.mov 112 (.tmp 11)) none, .op (.iaddrL 113 3 (.tmp 111) (.tmp 112)) none, .op (.loadN 114 3 (.tmp 113)) none, .op (.bslice 115 72 1 3 [(0, 3, (.tmp 114))]) none, .op (.append 116 72 3 40 (.tmp 110) (.tmp 115)) none, .op (.mov 10 (.tmp 116)) none, .keep [2, 3, 4, 6, 7, 8, 10, 11]] K pan e w) ∧
  (∀ (K : Env → World → Prop) (pan : List PanicEntry → World → Prop) (e : Env) (w : World), vcOps Try.prog r23_21 K pan e w = vcOps Try.prog [.op (.mov 100 (.tmp 11)) none, .op (.ari 101 .add .i64 (.tmp 100) (.const (.int .i64 1))) none, .op (.mov 11 (.tmp 101)) none, .keep [2, 3, 4, 6, 7, 8, 10, 11]] K pan e w) ∧
  (∀ (K : Env → World → Prop) (pan : List PanicEntry → World → Prop) (e : Env) (w : World), vcOps Try.prog r23_24 K pan e w = vcOps Try.prog [.op (.mov 117 (.tmp 10)) none, .op (.loadN 118 3 (.tmp 8)) none, .op (.bslice 119 72 1 3 [(0, 3, (.tmp 118))]) none, .op (.append 120 72 3 40 (.tmp 117) (.tmp 119)) none, .op (.mov 4 (.tmp 120)) none, .keep [2, 3, 4]] K pan e w) ∧
  (∀ (K : Env → World → Prop) (pan : List PanicEntry → World → Prop) (e : Env) (w : World), vcOps Try.prog r23_25 K pan e w = vcOps Try.prog [.op (.loadN 121 257 (.tmp 3)) none, .op (.storeN 257 (.tmp 2) (.tmp 121)) none, .keep [2]] K pan e w) := ⟨fun _ _ _ _ => rfl, fun _ _ _ _ => rfl, fun _ _ _ _ => rfl, fun _ _ _ _ => rfl, fun _ _ _ _ => rfl, fun _ _ _ _ => rfl, fun _ _ _ _ => rfl, fun _ _ _ _ => rfl, fun _ _ _ _ => rfl, fun _ _ _ _ => rfl, fun _ _ _ _ => rfl, fun _ _ _ _ => rfl, fun _ _ _ _ _ => rfl, fun _ _ _ _ _ => rfl, fun _ _ _ _ => rfl, fun _ _ _ _ => rfl, fun _ _ _ _ => rfl, fun _ _ _ _ => rfl, fun _ _ _ _ => rfl, fun _ _ _ _ => rfl, fun _ _ _ _ => rfl, fun _ _ _ _ => rfl, fun _ _ _ _ => rfl, fun _ _ _ _ => rfl, fun _ _ _ _ => rfl, fun _ _ _ _ => rfl⟩
theorem low23 : Try.f23.body.bind (lowerC Try.prog 122 (fun i => List.lookup i [(12, [(0, 0), (1, 0), (2, 0), (3, 0), (4, 1), (5, 0), (6, 0), (7, 0), (8, 0), (9, 1), (10, 0), (11, 0), (12, 0), (13, 0), (14, 1), (15, 0), (16, 0), (17, 2), (18, 0)]), (13, [(0, 0), (1, 0), (2, 0), (3, 0), (4, 0), (5, 0), (6, 0), (8, 0), (9, 0), (10, 0), (11, 0), (12, 1), (7, 2), (13, 0), (14, 0), (15, 0)]), (17, [(0, 0), (1, 0), (2, 0), (3, 0), (4, 0), (5, 0), (6, 0), (7, 0), (8, 0), (9, 0), (10, 0), (11, 0), (12, 0), (13, 0), (14, 0)])])) = some c23.erase := by kernel_rfl
theorem enter23 {args : List Value} {w : World} {R : Ending → World → Prop} (ha : args.length ≤ 122) (h : vc Try.prog c23 (endPost [.cN 2 257] R) (argEnv 0 args) w) : Calls Try.prog 23 args.toArray w R :=
  calls_of_vc Try.func23 rfl low23 rfl ha h
end Go.Proofs.Ytomckpllbihikaa
