/-
  The code of the functions of layer 6, read.
-/
import Derived.Test.YtomckpllbihikaaProg
import Derived.Test.YtomckpllbihikaaX6
set_option autoImplicit false
namespace Go.Proofs.Ytomckpllbihikaa
open X
/-- The code of aquatint/best.Table. -/
def r8_0 : List G := [.op (.box 1 22 (.tmp 0)) none,
  .op (.alloc 2 23) none,
  .op (.mov 3 (.const (.string { data := #[] }))) none,
  .op (.mov 4 (.const (.int .i64 0))) none,
  .keep [1, 2]]
def r8_1 : List G := [.op (.alloc 5 23) none,
  .keep [1, 2, 5]]
def r8_2 : List G := [.op (.loadN 16 256 (.tmp 1)) none,
  .op (.call (some 17) 17 [(.tmp 16)]) none,
  .op (.not 18 (.tmp 17)) none,
  .keep [1, 2, 5, 18]]
def r8_3 : List G := [.op (.loadN 19 16 (.tmp 5)) none,
  .op (.storeN 16 (.tmp 2) (.tmp 19)) none,
  .op (.mov 3 (.const (.string { data := #[] }))) none,
  .op (.mov 4 (.const (.int .i64 1))) none,
  .keep [2, 3, 4]]
def r8_4 : List G := [.op (.build 20 50 []) none,
  .op (.box 21 50 (.tmp 20)) none,
  .op (.alloc 6 47) none,
  .op (.store (.tmp 6) (.tmp 21)) none,
  .keep [1, 2, 5, 6]]
def r8_5 : List G := [.op (.load 22 (.tmp 6)) none,
  .op (.nilCheck 23 (.tmp 22)) none,
  .op (.faddr 24 0 (.tmp 23)) none,
  .op (.sliceA 25 257 1 (.tmp 24) none none) none,
  .op (.sliceA 26 256 1 (.tmp 1) none none) none,
  .op (.copy (some 27) 1 (.tmp 25) (.tmp 26)) none,
  .keep [2, 5, 6]]
def r8_6 : List G := [.op (.load 28 (.tmp 6)) none,
  .op (.nilCheck 29 (.tmp 28)) none,
  .op (.faddr 30 0 (.tmp 29)) none,
  .op (.iaddrA 31 257 1 (.tmp 30) (.const (.int .i64 256))) none,
  .op (.store (.tmp 31) (.const (.int .i64 1))) none,
  .keep [2, 5, 6]]
def r8_7 : List G := [.op (.mov 32 (.const (.int .i64 0))) none,
  .keep [2, 5, 6, 32]]
def r8_8 : List G := [.op (.ari 33 .lss .i64 (.tmp 32) (.const (.int .i64 257))) none,
  .keep [2, 5, 6, 32, 33]]
def r8_9 : List G := [.op (.mov 34 (.tmp 32)) none,
  .op (.mov 7 (.tmp 34)) none,
  .keep [2, 5, 6, 7, 32]]
def r8_10 : List G := [.op (.load 35 (.tmp 6)) none,
  .op (.mov 36 (.tmp 7)) none,
  .op (.nilCheck 37 (.tmp 35)) none,
  .op (.faddr 38 514 (.tmp 37)) none,
  .op (.iaddrA 39 257 1 (.tmp 38) (.tmp 36)) none,
  .op (.store (.tmp 39) (.const (.int .i64 (-1)))) none,
  .keep [2, 5, 6, 32]]
def r8_11 : List G := [.op (.ari 40 .add .i64 (.tmp 32) (.const (.int .i64 1))) none,
  .op (.mov 32 (.tmp 40)) none,
  .keep [2, 5, 6, 32]]
def r8_12 : List G := [.op (.load 41 (.tmp 6)) none,
  .op (.call (some 42) 18 [(.tmp 41)]) none,
  .keep [2, 5, 6]]
def r8_13 : List G := [.op (.alloc 8 48) none,
  .keep [2, 5, 6, 8]]
def r8_14 : List G := [.op (.mov 9 (.const (Go.Value.slice none 0 0))) none,
  .keep [2, 5, 6, 8, 9]]
def r8_15 : List G := [.op (.load 43 (.tmp 6)) none,
  .op (.nilCheck 44 (.tmp 43)) none,
  .op (.faddr 45 257 (.tmp 44)) none,
  .op (.loadN 46 257 (.tmp 45)) none,
  .op (.mov 47 (.const (.int .i64 0))) none,
  .keep [2, 5, 6, 8, 9, 46, 47]]
def r8_16 : List G := [.op (.ari 48 .lss .i64 (.tmp 47) (.const (.int .i64 257))) none,
  .keep [2, 5, 6, 8, 9, 46, 47, 48]]
def r8_17 : List G := [.op (.mov 49 (.tmp 47)) none,
  .op (.idxA 50 257 1 false (.tmp 46) (.tmp 47)) none,
  .op (.mov 10 (.tmp 49)) none,
  .op (.mov 11 (.tmp 50)) none,
  .keep [2, 5, 6, 8, 9, 10, 11, 46, 47]]
def r8_18 : List G := [.op (.mov 51 (.tmp 11)) none,
  .op (.ari 52 .gtr .i64 (.tmp 51) (.const (.int .i64 0))) none,
  .keep [2, 5, 6, 8, 9, 10, 11, 46, 47, 52]]
def r8_19 : List G := [.op (.mov 53 (.tmp 11)) none,
  .op (.iaddrA 54 257 1 (.tmp 8) (.tmp 53)) none,
  .op (.load 55 (.tmp 54)) none,
  .op (.ari 56 .add .i64 (.tmp 55) (.const (.int .i64 1))) none,
  .op (.iaddrA 57 257 1 (.tmp 8) (.tmp 53)) none,
  .op (.store (.tmp 57) (.tmp 56)) none,
  .keep [2, 5, 6, 8, 9, 10, 11, 46, 47]]
def r8_20 : List G := [.op (.mov 58 (.tmp 11)) none,
  .op (.ari 59 .gtr .i64 (.tmp 58) (.const (.int .i64 0))) none,
  .op (.mov 60 (.tmp 59)) none,
  .op (.mov 61 (.tmp 10)) (some (60, true)),
  .op (.ari 62 .neq .i64 (.tmp 61) (.const (.int .i64 256))) (some (60, true)),
  .op (.pick 63 (.tmp 60) (.tmp 62) (.const (.bool false))) none,
  .keep [2, 5, 6, 8, 9, 10, 46, 47, 63]]
def r8_21 : List G := [.op (.mov 64 (.tmp 9)) none,
  .op (.mov 65 (.tmp 10)) none,
  .op (.bslice 66 3 1 1 [(0, 1, (.tmp 65))]) none,
  .op (.append 67 3 1 8 (.tmp 64) (.tmp 66)) none,
  .op (.mov 9 (.tmp 67)) none,
  .keep [2, 5, 6, 8, 9, 46, 47]]
def r8_22 : List G := [.op (.ari 68 .add .i64 (.tmp 47) (.const (.int .i64 1))) none,
  .op (.mov 47 (.tmp 68)) none,
  .keep [2, 5, 6, 8, 9, 46, 47]]
def r8_23 : List G := [.op (.mov 69 (.tmp 9)) none,
  .op (.lenL 70 (.tmp 69)) none,
  .op (.ari 71 .eql .i64 (.tmp 70) (.const (.int .i64 0))) none,
  .keep [2, 5, 6, 8, 9, 71]]
def r8_24 : List G := [.op (.loadN 72 16 (.tmp 5)) none,
  .op (.storeN 16 (.tmp 2) (.tmp 72)) none,
  .op (.mov 3 (.const (.string { data := #[] }))) none,
  .op (.mov 4 (.const (.int .i64 5))) none,
  .keep [2, 3, 4]]
def r8_25 : List G := [.op (.call (some 73) 19 [(.tmp 8)]) none,
  .keep [2, 5, 6, 8, 9]]
def r8_26 : List G := [.op (.mov 74 (.tmp 9)) none,
  .op (.mkFn 75 21 [(.tmp 6)]) none,
  .op (.call (some 76) 20 [(.tmp 74), (.tmp 75)]) none,
  .keep [2, 5, 8, 9]]
def r8_27 : List G := [.op (.mov 12 (.const (Go.Value.slice none 0 0))) none,
  .keep [2, 5, 8, 9, 12]]
def r8_28 : List G := [.op (.mov 77 (.tmp 9)) none,
  .op (.lenL 78 (.tmp 77)) none,
  .op (.mov 79 (.const (.int .i64 0))) none,
  .keep [2, 5, 8, 12, 77, 78, 79]]
def r8_29 : List G := [.op (.ari 80 .lss .i64 (.tmp 79) (.tmp 78)) none,
  .keep [2, 5, 8, 12, 77, 78, 79, 80]]
def r8_30 : List G := [.op (.iaddrL 81 1 (.tmp 77) (.tmp 79)) none,
  .op (.load 82 (.tmp 81)) none,
  .op (.mov 14 (.tmp 82)) none,
  .keep [2, 5, 8, 12, 14, 77, 78, 79]]
def r8_31 : List G := [.op (.mov 83 (.tmp 12)) none,
  .op (.mov 84 (.tmp 14)) none,
  .op (.conv 85 .u8 (.tmp 84)) none,
  .op (.bslice 86 5 1 1 [(0, 1, (.tmp 85))]) none,
  .op (.append 87 5 1 1 (.tmp 83) (.tmp 86)) none,
  .op (.mov 12 (.tmp 87)) none,
  .keep [2, 5, 8, 12, 77, 78, 79]]
def r8_32 : List G := [.op (.ari 88 .add .i64 (.tmp 79) (.const (.int .i64 1))) none,
  .op (.mov 79 (.tmp 88)) none,
  .keep [2, 5, 8, 12, 77, 78, 79]]
def r8_33 : List G := [.op (.mov 89 (.const (.int .i64 0))) none,
  .keep [2, 5, 8, 12, 89]]
def r8_34 : List G := [.op (.ari 90 .lss .i64 (.tmp 89) (.const (.int .i64 16))) none,
  .keep [2, 5, 8, 12, 89, 90]]
def r8_35 : List G := [.op (.mov 91 (.tmp 89)) none,
  .op (.mov 15 (.tmp 91)) none,
  .keep [2, 5, 8, 12, 15, 89]]
def r8_36 : List G := [.op (.mov 92 (.tmp 15)) none,
  .op (.mov 93 (.tmp 15)) none,
  .op (.ari 94 .add .i64 (.tmp 93) (.const (.int .i64 1))) none,
  .op (.iaddrA 95 257 1 (.tmp 8) (.tmp 94)) none,
  .op (.load 96 (.tmp 95)) none,
  .op (.conv 97 .u8 (.tmp 96)) none,
  .op (.iaddrA 98 16 1 (.tmp 5) (.tmp 92)) none,
  .op (.store (.tmp 98) (.tmp 97)) none,
  .keep [2, 5, 8, 12, 89]]
def r8_37 : List G := [.op (.ari 99 .add .i64 (.tmp 89) (.const (.int .i64 1))) none,
  .op (.mov 89 (.tmp 99)) none,
  .keep [2, 5, 8, 12, 89]]
def r8_38 : List (Nat × G) := [(0, .op (.loadN 100 16 (.tmp 5)) none),
  (0, .op (.mov 101 (.tmp 12)) none),
  (1, .op (.conBS 102 (.tmp 101)) none),
  (2, .op (.storeN 16 (.tmp 2) (.tmp 100)) none),
  (0, .op (.mov 3 (.tmp 102)) none),
  (0, .op (.mov 4 (.const (.int .i64 0))) none),
  (0, .keep [2, 3, 4])]
def c8 : C := (.seq (.region r8_0) (.seq (.region r8_1) (.seq (.seq (.region r8_2) (.cond (.tmp 18) (.seq (.region r8_3) .ret) .skip)) (.seq (.region r8_4) (.seq (.regionD r8_5) (.seq (.region r8_6) (.seq (.seq (.region r8_7) (.block 0 (.loop (.seq (.region r8_8) (.seq (.cond (.tmp 33) .skip (.exit 0)) (.seq (.block 1 (.seq (.region r8_9) (.region r8_10))) (.region r8_11))))))) (.seq (.region r8_12) (.seq (.region r8_13) (.seq (.region r8_14) (.seq (.seq (.region r8_15) (.block 2 (.loop (.seq (.region r8_16) (.seq (.cond (.tmp 48) .skip (.exit 2)) (.seq (.block 3 (.seq (.region r8_17) (.seq (.seq (.region r8_18) (.cond (.tmp 52) (.region r8_19) .skip)) (.seq (.region r8_20) (.cond (.tmp 63) (.region r8_21) .skip))))) (.region r8_22))))))) (.seq (.seq (.region r8_23) (.cond (.tmp 71) (.seq (.region r8_24) .ret) .skip)) (.seq (.region r8_25) (.seq (.region r8_26) (.seq (.region r8_27) (.seq (.seq (.region r8_28) (.block 4 (.loop (.seq (.region r8_29) (.seq (.cond (.tmp 80) .skip (.exit 4)) (.seq (.block 5 (.seq (.region r8_30) (.region r8_31))) (.region r8_32))))))) (.seq (.seq (.region r8_33) (.block 6 (.loop (.seq (.region r8_34) (.seq (.cond (.tmp 90) .skip (.exit 6)) (.seq (.block 7 (.seq (.region r8_35) (.region r8_36))) (.region r8_37))))))) (.seq (.regionW r8_38) .ret))))))))))))))))))
theorem x8 : (∀ (K : Env → World → Prop) (pan : List PanicEntry → World → Prop) (e : Env) (w : World), vcOps Try.prog r8_0 K pan e w = vcOps Try.prog [.op (.box 1 22 (.tmp 0)) none, .op (.alloc 2 23) none, .op (.mov 3 (.const (.string { data := #[] }))) none, .op (.mov 4 (.const (.int .i64 0))) none, .keep [1, 2]] K pan e w) ∧
  (∀ (K : Env → World → Prop) (pan : List PanicEntry → World → Prop) (e : Env) (w : World), vcOps Try.prog r8_1 K pan e w = vcOps Try.prog [.op (.alloc 5 23) none, .keep [1, 2, 5]] K pan e w) ∧
  (∀ (K : Env → World → Prop) (pan : List PanicEntry → World → Prop) (e : Env) (w : World), vcOps Try.prog r8_2 K pan e w = vcOps Try.prog [.op (.loadN 16 256 (.tmp 1)) none, .op (.call (some 17) 17 [(.tmp 16)]) none, .op (.not 18 (.tmp 17)) none, .keep [1, 2, 5, 18]] K pan e w) ∧
  (∀ (K : Env → World → Prop) (pan : List PanicEntry → World → Prop) (e : Env) (w : World), vcOps Try.prog r8_3 K pan e w = vcOps Try.prog [.op (.loadN 19 16 (.tmp 5)) none, .op (.storeN 16 (.tmp 2) (.tmp 19)) none, .op (.mov 3 (.const (.string { data := #[] }))) none, .op (.mov 4 (.const (.int .i64 1))) none, .keep [2, 3, 4]] K pan e w) ∧
  (∀ (K : Env → World → Prop) (pan : List PanicEntry → World → Prop) (e : Env) (w : World), vcOps Try.prog r8_4 K pan e w = vcOps Try.prog [.op (.build 20 50 []) none, .op (.box 21 50 (.tmp 20)) none, .op (.alloc 6 47) none, .op (.store (.tmp 6) (.tmp 21)) none, .keep [1, 2, 5, 6]] K pan e w) ∧
  (∀ (K : Env → World → Prop) (pan : List PanicEntry → World → Prop) (e : Env) (w : World), vcOps Try.prog r8_5 K pan e w = vcOps Try.prog [.op (.load 22 (.tmp 6)) none, .op (.nilCheck 23 (.tmp 22)) none, .op (.faddr 24 0 (.tmp 23)) none, .op (.sliceA 25 257 1 (.tmp 24) none none) none, .op (.sliceA 26 256 1 (.tmp 1) none none) none, .op (.copy (some 27) 1 (.tmp 25) (.tmp 26)) none, .keep [2, 5, 6]] K pan e w) ∧
  (∀ (K : Env → World → Prop) (pan : List PanicEntry → World → Prop) (e : Env) (w : World), vcOps Try.prog r8_6 K pan e w = vcOps Try.prog [.op (.load 28 (.tmp 6)) none, .op (.nilCheck 29 (.tmp 28)) none, .op (.faddr 30 0 (.tmp 29)) none, .op (.iaddrA 31 257 1 (.tmp 30) (.const (.int .i64 256))) none, .op (.store (.tmp 31) (.const (.int .i64 1))) none, .keep [2, 5, 6]] K pan e w) ∧
  (∀ (K : Env → World → Prop) (pan : List PanicEntry → World → Prop) (e : Env) (w : World), vcOps Try.prog r8_7 K pan e w = vcOps Try.prog [.op (.mov 32 (.const (.int .i64 0))) none, .keep [2, 5, 6, 32]] K pan e w) ∧
  (∀ (K : Env → World → Prop) (pan : List PanicEntry → World → Prop) (e : Env) (w : World), vcOps Try.prog r8_8 K pan e w = vcOps Try.prog [.op (.ari 33 .lss .i64 (.tmp 32) (.const (.int .i64 257))) none, .keep [2, 5, 6, 32, 33]] K pan e w) ∧
  (∀ (K : Env → World → Prop) (pan : List PanicEntry → World → Prop) (e : Env) (w : World), vcOps Try.prog r8_9 K pan e w = vcOps Try.prog [.op (.mov 34 (.tmp 32)) none, .op (.mov 7 (.tmp 34)) none, .keep [2, 5, 6, 7, 32]] K pan e w) ∧
  (∀ (K : Env → World → Prop) (pan : List PanicEntry → World → Prop) (e : Env) (w : World), vcOps Try.prog r8_10 K pan e w = vcOps Try.prog [.op (.load 35 (.tmp 6)) none, .op (.mov 36 (.tmp 7)) none, .op (.nilCheck 37 (.tmp 35)) none, .op (.faddr 38 514 (.tmp 37)) none, .op (.iaddrA 39 257 1 (.tmp 38) (.tmp 36)) none, .op (.store (.tmp 39) (.const (.int .i64 (-1)))) none, .keep [2, 5, 6, 32]] K pan e w) ∧
  (∀ (K : Env → World → Prop) (pan : List PanicEntry → World → Prop) (e : Env) (w : World), vcOps Try.prog r8_11 K pan e w = vcOps Try.prog [.op (.ari 40 .add .i64 (.tmp 32) (.const (.int .i64 1))) none, .op (.mov 32 (.tmp 40)) none, .keep [2, 5, 6, 32]] K pan e w) ∧
  (∀ (K : Env → World → Prop) (pan : List PanicEntry → World → Prop) (e : Env) (w : World), vcOps Try.prog r8_12 K pan e w = vcOps Try.prog [.op (.load 41 (.tmp 6)) none, .op (.call (some 42) 18 [(.tmp 41)]) none, .keep [2, 5, 6]] K pan e w) ∧
  (∀ (K : Env → World → Prop) (pan : List PanicEntry → World → Prop) (e : Env) (w : World), vcOps Try.prog r8_13 K pan e w = vcOps Try.prog [.op (.alloc 8 48) none, .keep [2, 5, 6, 8]] K pan e w) ∧
  (∀ (K : Env → World → Prop) (pan : List PanicEntry → World → Prop) (e : Env) (w : World), vcOps Try.prog r8_14 K pan e w = vcOps Try.prog [.op (.mov 9 (.const (Go.Value.slice none 0 0))) none, .keep [2, 5, 6, 8, 9]] K pan e w) ∧
  (∀ (K : Env → World → Prop) (pan : List PanicEntry → World → Prop) (e : Env) (w : World), vcOps Try.prog r8_15 K pan e w = vcOps Try.prog [.op (.load 43 (.tmp 6)) none, .op (.nilCheck 44 (.tmp 43)) none, .op (.faddr 45 257 (.tmp 44)) none, .op (.loadN 46 257 (.tmp 45)) none, .op (.mov 47 (.const (.int .i64 0))) none, .keep [2, 5, 6, 8, 9, 46, 47]] K pan e w) ∧
  (∀ (K : Env → World → Prop) (pan : List PanicEntry → World → Prop) (e : Env) (w : World), vcOps Try.prog r8_16 K pan e w = vcOps Try.prog [.op (.ari 48 .lss .i64 (.tmp 47) (.const (.int .i64 257))) none, .keep [2, 5, 6, 8, 9, 46, 47, 48]] K pan e w) ∧
  (∀ (K : Env → World → Prop) (pan : List PanicEntry → World → Prop) (e : Env) (w : World), vcOps Try.prog r8_17 K pan e w = vcOps Try.prog [.op (.mov 49 (.tmp 47)) none, .op (.idxA 50 257 1 false (.tmp 46) (.tmp 47)) none, .op (.mov 10 (.tmp 49)) none, .op (.mov 11 (.tmp 50)) none, .keep [2, 5, 6, 8, 9, 10, 11, 46, 47]] K pan e w) ∧
  (∀ (K : Env → World → Prop) (pan : List PanicEntry → World → Prop) (e : Env) (w : World), vcOps Try.prog r8_18 K pan e w = vcOps Try.prog [.op (.mov 51 (.tmp 11)) none, .op (.ari 52 .gtr .i64 (.tmp 51) (.const (.int .i64 0))) none, .keep [2, 5, 6, 8, 9, 10, 11, 46, 47, 52]] K pan e w) ∧
  (∀ (K : Env → World → Prop) (pan : List PanicEntry → World → Prop) (e : Env) (w : World), vcOps Try.prog r8_19 K pan e w = vcOps Try.prog [.op (.mov 53 (.tmp 11)) none, .op (.iaddrA 54 257 1 (.tmp 8) (.tmp 53)) none, .op (.load 55 (.tmp 54)) none, .op (.ari 56 .add .i64 (.tmp 55) (.const (.int .i64 1))) none, .op (.iaddrA 57 257 1 (.tmp 8) (.tmp 53)) none, .op (.store (.tmp 57) (.tmp 56)) none, .keep [2, 5, 6, 8, 9, 10, 11, 46, 47]] K pan e w) ∧
  (∀ (K : Env → World → Prop) (pan : List PanicEntry → World → Prop) (e : Env) (w : World), vcOps Try.prog r8_20 K pan e w = vcOps Try.prog [.op (.mov 58 (.tmp 11)) none, .op (.ari 59 .gtr .i64 (.tmp 58) (.const (.int .i64 0))) none, .op (.mov 60 (.tmp 59)) none, .op (.mov 61 (.tmp 10)) (some (60, true)), .op (.ari 62 .neq .i64 (.tmp 61) (.const (.int .i64 256))) (some (60, true)), .op (.pick 63 (.tmp 60) (.tmp 62) (.const (.bool false))) none, .keep [2, 5, 6, 8, 9, 10, 46, 47, 63]] K pan e w) ∧
  (∀ (K : Env → World → Prop) (pan : List PanicEntry → World → Prop) (e : Env) (w : World), vcOps Try.prog r8_21 K pan e w = vcOps Try.prog [.op (.mov 64 (.tmp 9)) none, .op (.mov 65 (.tmp 10)) none, .op (.bslice 66 3 1 1 [(0, 1, (.tmp 65))]) none, .op (.append 67 3 1 8 (.tmp 64) (.tmp 66)) none, .op (.mov 9 (.tmp 67)) none, .keep [2, 5, 6, 8, 9, 46, 47]] K pan e w) ∧
  (∀ (K : Env → World → Prop) (pan : List PanicEntry → World → Prop) (e : Env) (w : World), vcOps Try.prog r8_22 K pan e w = vcOps Try.prog [.op (.ari 68 .add .i64 (.tmp 47) (.const (.int .i64 1))) none, .op (.mov 47 (.tmp 68)) none, .keep [2, 5, 6, 8, 9, 46, 47]] K pan e w) ∧
  (∀ (K : Env → World → Prop) (pan : List PanicEntry → World → Prop) (e : Env) (w : World), vcOps Try.prog r8_23 K pan e w = vcOps Try.prog [.op (.mov 69 (.tmp 9)) none, .op (.lenL 70 (.tmp 69)) none, .op (.ari 71 .eql .i64 (.tmp 70) (.const (.int .i64 0))) none, .keep [2, 5, 6, 8, 9, 71]] K pan e w) ∧
  (∀ (K : Env → World → Prop) (pan : List PanicEntry → World → Prop) (e : Env) (w : World), vcOps Try.prog r8_24 K pan e w = vcOps Try.prog [.op (.loadN 72 16 (.tmp 5)) none, .op (.storeN 16 (.tmp 2) (.tmp 72)) none, .op (.mov 3 (.const (.string { data := #[] }))) none, .op (.mov 4 (.const (.int .i64 5))) none, .keep [2, 3, 4]] K pan e w) ∧
  (∀ (K : Env → World → Prop) (pan : List PanicEntry → World → Prop) (e : Env) (w : World), vcOps Try.prog r8_25 K pan e w = vcOps Try.prog [.op (.call (some 73) 19 [(.tmp 8)]) none, .keep [2, 5, 6, 8, 9]] K pan e w) ∧
  (∀ (K : Env → World → Prop) (pan : List PanicEntry → World → Prop) (e : Env) (w : World), vcOps Try.prog r8_26 K pan e w = vcOps Try.prog [.op (.mov 74 (.tmp 9)) none, .op (.mkFn 75 21 [(.tmp 6)]) none, .op (.call (some 76) 20 [(.tmp 74), (.tmp 75)]) none, .keep [2, 5, 8, 9]] K pan e w) ∧
  (∀ (K : Env → World → Prop) (pan : List PanicEntry → World → Prop) (e : Env) (w : World), vcOps Try.prog r8_27 K pan e w = vcOps Try.prog [.op (.mov 12 (.const (Go.Value.slice none 0 0))) none, .keep [2, 5, 8, 9, 12]] K pan e w) ∧
  (∀ (K : Env → World → Prop) (pan : List PanicEntry → World → Prop) (e : Env) (w : World), vcOps Try.prog r8_28 K pan e w = vcOps Try.prog [.op (.mov 77 (.tmp 9)) none, .op (.lenL 78 (.tmp 77)) none, .op (.mov 79 (.const (.int .i64 0))) none, .keep [2, 5, 8, 12, 77, 78, 79]] K pan e w) ∧
  (∀ (K : Env → World → Prop) (pan : List PanicEntry → World → Prop) (e : Env) (w : World), vcOps Try.prog r8_29 K pan e w = vcOps Try.prog [.op (.ari 80 .lss .i64 (.tmp 79) (.tmp 78)) none, .keep [2, 5, 8, 12, 77, 78, 79, 80]] K pan e w) ∧
  (∀ (K : Env → World → Prop) (pan : List PanicEntry → World → Prop) (e : Env) (w : World), vcOps Try.prog r8_30 K pan e w = vcOps Try.prog [.op (.iaddrL 81 1 (.tmp 77) (.tmp 79)) none, .op (.load 82 (.tmp 81)) none, .op (.mov 14 (.tmp 82)) none, .keep [2, 5, 8, 12, 14, 77, 78, 79]] K pan e w) ∧
  (∀ (K : Env → World → Prop) (pan : List PanicEntry → World → Prop) (e : Env) (w : World), vcOps Try.prog r8_31 K pan e w = vcOps Try.prog [.op (.mov 83 (.tmp 12)) none, .op (.mov 84 (.tmp 14)) none, .op (.conv 85 .u8 (.tmp 84)) none, .op (.bslice 86 5 1 1 [(0, 1, (.tmp 85))]) none, .op (.append 87 5 1 1 (.tmp 83) (.tmp 86)) none, .op (.mov 12 (.tmp 87)) none, .keep [2, 5, 8, 12, 77, 78, 79]] K pan e w) ∧
  (∀ (K : Env → World → Prop) (pan : List PanicEntry → World → Prop) (e : Env) (w : World), vcOps Try.prog r8_32 K pan e w = vcOps Try.prog [.op (.ari 88 .add .i64 (.tmp 79) (.const (.int .i64 1))) none, .op (.mov 79 (.tmp 88)) none, .keep [2, 5, 8, 12, 77, 78, 79]] K pan e w) ∧
  (∀ (K : Env → World → Prop) (pan : List PanicEntry → World → Prop) (e : Env) (w : World), vcOps Try.prog r8_33 K pan e w = vcOps Try.prog [.op (.mov 89 (.const (.int .i64 0))) none, .keep [2, 5, 8, 12, 89]] K pan e w) ∧
  (∀ (K : Env → World → Prop) (pan : List PanicEntry → World → Prop) (e : Env) (w : World), vcOps Try.prog r8_34 K pan e w = vcOps Try.prog [.op (.ari 90 .lss .i64 (.tmp 89) (.const (.int .i64 16))) none, .keep [2, 5, 8, 12, 89, 90]] K pan e w) ∧
  (∀ (K : Env → World → Prop) (pan : List PanicEntry → World → Prop) (e : Env) (w : World), vcOps Try.prog r8_35 K pan e w = vcOps Try.prog [.op (.mov 91 (.tmp 89)) none, .op (.mov 15 (.tmp 91)) none, .keep [2, 5, 8, 12, 15, 89]] K pan e w) ∧
  (∀ (K : Env → World → Prop) (pan : List PanicEntry → World → Prop) (e : Env) (w : World), vcOps Try.prog r8_36 K pan e w = vcOps Try.prog [.op (.mov 92 (.tmp 15)) none, .op (.mov 93 (.tmp 15)) none, .op (.ari 94 .add .i64 (.tmp 93) (.const (.int .i64 1))) none, .op (.iaddrA 95 257 1 (.tmp 8) (.tmp 94)) none, .op (.load 96 (.tmp 95)) none, .op (.conv 97 .u8 (.tmp 96)) none, .op (.iaddrA 98 16 1 (.tmp 5) (.tmp 92)) none, .op (.store (.tmp 98) (.tmp 97)) none, .keep [2, 5, 8, 12, 89]] K pan e w) ∧
  (∀ (K : Env → World → Prop) (pan : List PanicEntry → World → Prop) (e : Env) (w : World), vcOps Try.prog r8_37 K pan e w = vcOps Try.prog [.op (.ari 99 .add .i64 (.tmp 89) (.const (.int .i64 1))) none, .op (.mov 89 (.tmp 99)) none, .keep [2, 5, 8, 12, 89]] K pan e w) ∧
  (∀ (w0 : Wat) (K : Env → World → Prop) (pan : List PanicEntry → World → Prop) (e : Env) (w : World), vcW Try.prog w0 r8_38 K pan e w = vcW Try.prog w0 [(0, .op (.loadN 100 16 (.tmp 5)) none), (0, .op (.mov 101 (.tmp 12)) none), (1, .op (.conBS 102 (.tmp 101)) none), (2, .op (.storeN 16 (.tmp 2) (.tmp 100)) none), (0, .op (.mov 3 (.tmp 102)) none), (0, .op (.mov 4 (.const (.int .i64 0))) none), (0, .keep [2, 3, 4])] K pan e w) := ⟨fun _ _ _ _ => rfl, fun _ _ _ _ => rfl, fun _ _ _ _ => rfl, fun _ _ _ _ => rfl, fun _ _ _ _ => rfl, fun _ _ _ _ => rfl, fun _ _ _ _ => rfl, fun _ _ _ _ => rfl, fun _ _ _ _ => rfl, fun _ _ _ _ => rfl, fun _ _ _ _ => rfl, fun _ _ _ _ => rfl, fun _ _ _ _ => rfl, fun _ _ _ _ => rfl, fun _ _ _ _ => rfl, fun _ _ _ _ => rfl, fun _ _ _ _ => rfl, fun _ _ _ _ => rfl, fun _ _ _ _ => rfl, fun _ _ _ _ => rfl, fun _ _ _ _ => rfl, fun _ _ _ _ => rfl, fun _ _ _ _ => rfl, fun _ _ _ _ => rfl, fun _ _ _ _ => rfl, fun _ _ _ _ => rfl, fun _ _ _ _ => rfl, fun _ _ _ _ => rfl, fun _ _ _ _ => rfl, fun _ _ _ _ => rfl, fun _ _ _ _ => rfl, fun _ _ _ _ => rfl, fun _ _ _ _ => rfl, fun _ _ _ _ => rfl, fun _ _ _ _ => rfl, fun _ _ _ _ => rfl, fun _ _ _ _ => rfl, fun _ _ _ _ => rfl, fun _ _ _ _ _ => rfl⟩
theorem low8 : Try.f8.body.bind (lowerC Try.prog 103 (fun i => List.lookup i [(5, [(0, 0), (1, 0), (2, 0), (3, 0), (4, 0), (5, 0)]), (38, [(0, 0), (1, 0), (2, 1), (3, 2), (4, 0), (5, 0)])])) = some c8.erase := by kernel_rfl
theorem enter8 {args : List Value} {w : World} {R : Ending → World → Prop} (ha : args.length ≤ 103) (h : vc Try.prog c8 (endPost [.cN 2 16, .t 3, .t 4] R) (argEnv 0 args) w) : Calls Try.prog 8 args.toArray w R :=
  calls_of_vc Try.func8 rfl low8 rfl ha h
/-- The code of aquatint/aquatintlaw06.right. -/
def r9_0 : List G := [.op (.box 1 22 (.tmp 0)) none,
  .op (.mov 2 (.const (.bool false))) none,
  .keep [1]]
def r9_1 : List G := [.op (.mov 3 (.const (.bool false))) none,
  .keep [1, 3]]
def r9_2 : List G := [.op (.mov 4 (.const (.int .i64 0))) none,
  .keep [1, 3, 4]]
def r9_3 : List G := [.op (.mov 5 (.tmp 4)) none,
  .op (.ari 6 .lss .i64 (.tmp 5) (.const (.int .i64 256))) none,
  .keep [1, 3, 4, 6]]
def r9_5 : List G := [.op (.mov 9 (.tmp 4)) none,
  .op (.iaddrA 10 256 1 (.tmp 1) (.tmp 9)) none,
  .op (.load 11 (.tmp 10)) none,
  .op (.ari 12 .lss .i64 (.tmp 11) (.const (.int .i64 0))) none,
  .op (.mov 13 (.tmp 12)) none,
  .op (.mov 14 (.tmp 4)) (some (13, false)),
  .op (.iaddrA 15 256 1 (.tmp 1) (.tmp 14)) (some (13, false)),
  .op (.load 16 (.tmp 15)) (some (13, false)),
  .op (.ari 17 .gtr .i64 (.tmp 16) (.const (.int .i64 1099511627776))) (some (13, false)),
  .op (.pick 18 (.tmp 13) (.const (.bool true)) (.tmp 17)) none,
  .keep [1, 3, 4, 18]]
def r9_6 : List G := [.op (.mov 2 (.const (.bool false))) none,
  .keep [2]]
def r9_7 : List G := [.op (.mov 19 (.tmp 3)) none,
  .op (.mov 20 (.tmp 19)) none,
  .op (.mov 21 (.tmp 4)) (some (20, false)),
  .op (.iaddrA 22 256 1 (.tmp 1) (.tmp 21)) (some (20, false)),
  .op (.load 23 (.tmp 22)) (some (20, false)),
  .op (.ari 24 .gtr .i64 (.tmp 23) (.const (.int .i64 0))) (some (20, false)),
  .op (.pick 25 (.tmp 20) (.const (.bool true)) (.tmp 24)) none,
  .op (.mov 3 (.tmp 25)) none,
  .keep [1, 3, 4]]
def r9_4 : List G := [.op (.mov 7 (.tmp 4)) none,
  .op (.ari 8 .add .i64 (.tmp 7) (.const (.int .i64 1))) none,
  .op (.mov 4 (.tmp 8)) none,
  .keep [1, 3, 4]]
def r9_8 : List G := [.op (.mov 26 (.tmp 3)) none,
  .op (.mov 2 (.tmp 26)) none,
  .keep [2]]
def c9 : C := (.seq (.region r9_0) (.seq (.region r9_1) (.seq (.seq (.region r9_2) (.block 0 (.loop (.seq (.seq (.region r9_3) (.cond (.tmp 6) .skip (.exit 0))) (.seq (.block 1 (.seq (.seq (.region r9_5) (.cond (.tmp 18) (.seq (.region r9_6) .ret) .skip)) (.region r9_7))) (.region r9_4)))))) (.seq (.region r9_8) .ret))))
theorem x9 : (∀ (K : Env → World → Prop) (pan : List PanicEntry → World → Prop) (e : Env) (w : World), vcOps Try.prog r9_0 K pan e w = vcOps Try.prog [.op (.box 1 22 (.tmp 0)) none, .op (.mov 2 (.const (.bool false))) none, .keep [1]] K pan e w) ∧
  (∀ (K : Env → World → Prop) (pan : List PanicEntry → World → Prop) (e : Env) (w : World), vcOps Try.prog r9_1 K pan e w = vcOps Try.prog [.op (.mov 3 (.const (.bool false))) none, .keep [1, 3]] K pan e w) ∧
  (∀ (K : Env → World → Prop) (pan : List PanicEntry → World → Prop) (e : Env) (w : World), vcOps Try.prog r9_2 K pan e w = vcOps Try.prog [.op (.mov 4 (.const (.int .i64 0))) none, .keep [1, 3, 4]] K pan e w) ∧
  (∀ (K : Env → World → Prop) (pan : List PanicEntry → World → Prop) (e : Env) (w : World), vcOps Try.prog r9_3 K pan e w = vcOps Try.prog [.op (.mov 5 (.tmp 4)) none, .op (.ari 6 .lss .i64 (.tmp 5) (.const (.int .i64 256))) none, .keep [1, 3, 4, 6]] K pan e w) ∧
  (∀ (K : Env → World → Prop) (pan : List PanicEntry → World → Prop) (e : Env) (w : World), vcOps Try.prog r9_5 K pan e w = vcOps Try.prog [.op (.mov 9 (.tmp 4)) none, .op (.iaddrA 10 256 1 (.tmp 1) (.tmp 9)) none, .op (.load 11 (.tmp 10)) none, .op (.ari 12 .lss .i64 (.tmp 11) (.const (.int .i64 0))) none, .op (.mov 13 (.tmp 12)) none, .op (.mov 14 (.tmp 4)) (some (13, false)), .op (.iaddrA 15 256 1 (.tmp 1) (.tmp 14)) (some (13, false)), .op (.load 16 (.tmp 15)) (some (13, false)), .op (.ari 17 .gtr .i64 (.tmp 16) (.const (.int .i64 1099511627776))) (some (13, false)), .op (.pick 18 (.tmp 13) (.const (.bool true)) (.tmp 17)) none, .keep [1, 3, 4, 18]] K pan e w) ∧
  (∀ (K : Env → World → Prop) (pan : List PanicEntry → World → Prop) (e : Env) (w : World), vcOps Try.prog r9_6 K pan e w = vcOps Try.prog [.op (.mov 2 (.const (.bool false))) none, .keep [2]] K pan e w) ∧
  (∀ (K : Env → World → Prop) (pan : List PanicEntry → World → Prop) (e : Env) (w : World), vcOps Try.prog r9_7 K pan e w = vcOps Try.prog [.op (.mov 19 (.tmp 3)) none, .op (.mov 20 (.tmp 19)) none, .op (.mov 21 (.tmp 4)) (some (20, false)), .op (.iaddrA 22 256 1 (.tmp 1) (.tmp 21)) (some (20, false)), .op (.load 23 (.tmp 22)) (some (20, false)), .op (.ari 24 .gtr .i64 (.tmp 23) (.const (.int .i64 0))) (some (20, false)), .op (.pick 25 (.tmp 20) (.const (.bool true)) (.tmp 24)) none, .op (.mov 3 (.tmp 25)) none, .keep [1, 3, 4]] K pan e w) ∧
  (∀ (K : Env → World → Prop) (pan : List PanicEntry → World → Prop) (e : Env) (w : World), vcOps Try.prog r9_4 K pan e w = vcOps Try.prog [.op (.mov 7 (.tmp 4)) none, .op (.ari 8 .add .i64 (.tmp 7) (.const (.int .i64 1))) none, .op (.mov 4 (.tmp 8)) none, .keep [1, 3, 4]] K pan e w) ∧
  (∀ (K : Env → World → Prop) (pan : List PanicEntry → World → Prop) (e : Env) (w : World), vcOps Try.prog r9_8 K pan e w = vcOps Try.prog [.op (.mov 26 (.tmp 3)) none, .op (.mov 2 (.tmp 26)) none, .keep [2]] K pan e w) := ⟨fun _ _ _ _ => rfl, fun _ _ _ _ => rfl, fun _ _ _ _ => rfl, fun _ _ _ _ => rfl, fun _ _ _ _ => rfl, fun _ _ _ _ => rfl, fun _ _ _ _ => rfl, fun _ _ _ _ => rfl, fun _ _ _ _ => rfl⟩
theorem low9 : Try.f9.body.bind (lowerC Try.prog 27 (fun _ => none)) = some c9.erase := by kernel_rfl
theorem enter9 {args : List Value} {w : World} {R : Ending → World → Prop} (ha : args.length ≤ 27) (h : vc Try.prog c9 (endPost [.t 2] R) (argEnv 0 args) w) : Calls Try.prog 9 args.toArray w R :=
  calls_of_vc Try.func9 rfl low9 rfl ha h
/-- The code of aquatint/huff.New. -/
def r11_0 : List G := [.op (.box 2 23 (.tmp 0)) none,
  .op (.mov 4 (.const (.pointer none))) none,
  .op (.mov 5 (.const (.int .i64 0))) none,
  .keep [1, 2]]
def r11_1 : List G := [.op (.loadN 10 16 (.tmp 2)) none,
  .op (.mov 11 (.tmp 1)) none,
  .op (.build 12 62 [(0, 16, (.tmp 10)), (16, 1, (.tmp 11))]) none,
  .op (.box 13 62 (.tmp 12)) none,
  .op (.mov 6 (.tmp 13)) none,
  .keep [1, 2, 6]]
def r11_2 : List G := [.op (.mov 7 (.const (.int .i64 0))) none,
  .op (.mov 8 (.const (.int .i64 0))) none,
  .keep [1, 2, 6, 7, 8]]
def r11_3 : List G := [.op (.mov 9 (.const (.int .i64 1))) none,
  .keep [1, 2, 6, 7, 8, 9]]
def r11_4 : List G := [.op (.mov 14 (.tmp 9)) none,
  .op (.ari 15 .leq .i64 (.tmp 14) (.const (.int .i64 16))) none,
  .keep [1, 2, 6, 7, 8, 9, 15]]
def r11_6 : List G := [.op (.mov 18 (.tmp 7)) none,
  .op (.shf 19 .shl .i64 (.tmp 18) (.const (.int .u64 1))) none,
  .op (.mov 7 (.tmp 19)) none,
  .keep [1, 2, 6, 7, 8, 9]]
def r11_7 : List G := [.op (.mov 20 (.tmp 6)) none,
  .op (.mov 21 (.tmp 9)) none,
  .op (.mov 22 (.tmp 6)) none,
  .op (.mov 23 (.tmp 9)) none,
  .op (.mov 24 (.tmp 7)) none,
  .op (.mov 25 (.tmp 8)) none,
  .op (.nilCheck 26 (.tmp 20)) none,
  .op (.faddr 27 529 (.tmp 26)) none,
  .op (.iaddrA 28 17 1 (.tmp 27) (.tmp 21)) none,
  .op (.nilCheck 29 (.tmp 22)) none,
  .op (.faddr 30 546 (.tmp 29)) none,
  .op (.store (.tmp 28) (.tmp 24)) none,
  .op (.iaddrA 31 17 1 (.tmp 30) (.tmp 23)) none,
  .op (.store (.tmp 31) (.tmp 25)) none,
  .keep [1, 2, 6, 7, 8, 9]]
def r11_8 : List G := [.op (.mov 32 (.tmp 9)) none,
  .op (.ari 33 .sub .i64 (.tmp 32) (.const (.int .i64 1))) none,
  .op (.iaddrA 34 16 1 (.tmp 2) (.tmp 33)) none,
  .op (.load 35 (.tmp 34)) none,
  .op (.mov 36 (.const (.int .u8 0))) none,
  .keep [1, 2, 6, 7, 8, 9, 35, 36]]
def r11_9 : List G := [.op (.ari 37 .lss .u8 (.tmp 36) (.tmp 35)) none,
  .keep [1, 2, 6, 7, 8, 9, 35, 36, 37]]
def r11_10 : List G := [.op (.mov 38 (.tmp 8)) none,
  .op (.mov 39 (.tmp 1)) none,
  .op (.lenS 40 (.tmp 39)) none,
  .op (.ari 41 .geq .i64 (.tmp 38) (.tmp 40)) none,
  .op (.mov 42 (.tmp 41)) none,
  .op (.mov 43 (.tmp 7)) (some (42, false)),
  .op (.mov 44 (.tmp 9)) (some (42, false)),
  .op (.shf 45 .shl .i64 (.const (.int .i64 1)) (.tmp 44)) (some (42, false)),
  .op (.ari 46 .sub .i64 (.tmp 45) (.const (.int .i64 1))) (some (42, false)),
  .op (.ari 47 .geq .i64 (.tmp 43) (.tmp 46)) (some (42, false)),
  .op (.pick 48 (.tmp 42) (.const (.bool true)) (.tmp 47)) none,
  .op (.mov 49 (.tmp 48)) none,
  .op (.mov 50 (.tmp 6)) (some (49, false)),
  .op (.mov 51 (.tmp 1)) (some (49, false)),
  .op (.mov 52 (.tmp 8)) (some (49, false)),
  .op (.idxS 53 (.tmp 51) (.tmp 52)) (some (49, false)),
  .op (.nilCheck 54 (.tmp 50)) (some (49, false)),
  .op (.faddr 55 17 (.tmp 54)) (some (49, false)),
  .op (.iaddrA 56 256 2 (.tmp 55) (.tmp 53)) (some (49, false)),
  .op (.faddr 57 1 (.tmp 56)) (some (49, false)),
  .op (.load 58 (.tmp 57)) (some (49, false)),
  .op (.ari 59 .gtr .i64 (.tmp 58) (.const (.int .i64 0))) (some (49, false)),
  .op (.pick 60 (.tmp 49) (.const (.bool true)) (.tmp 59)) none,
  .keep [1, 2, 6, 7, 8, 9, 35, 36, 60]]
def r11_11 : List G := [.op (.mov 4 (.const (.pointer none))) none,
  .op (.mov 5 (.const (.int .i64 5))) none,
  .keep [4, 5]]
def r11_12 : List G := [.op (.mov 61 (.tmp 6)) none,
  .op (.mov 62 (.tmp 1)) none,
  .op (.mov 63 (.tmp 8)) none,
  .op (.idxS 64 (.tmp 62) (.tmp 63)) none,
  .op (.mov 65 (.tmp 7)) none,
  .op (.mov 66 (.tmp 9)) none,
  .op (.build 67 58 [(0, 1, (.tmp 65)), (1, 1, (.tmp 66))]) none,
  .op (.nilCheck 68 (.tmp 61)) none,
  .op (.faddr 69 17 (.tmp 68)) none,
  .op (.iaddrA 70 256 2 (.tmp 69) (.tmp 64)) none,
  .op (.storeN 2 (.tmp 70) (.tmp 67)) none,
  .keep [1, 2, 6, 7, 8, 9, 35, 36]]
def r11_13 : List G := [.op (.mov 71 (.tmp 7)) none,
  .op (.ari 72 .add .i64 (.tmp 71) (.const (.int .i64 1))) none,
  .op (.mov 73 (.tmp 8)) none,
  .op (.ari 74 .add .i64 (.tmp 73) (.const (.int .i64 1))) none,
  .op (.mov 7 (.tmp 72)) none,
  .op (.mov 8 (.tmp 74)) none,
  .keep [1, 2, 6, 7, 8, 9, 35, 36]]
def r11_14 : List G := [.op (.ari 75 .add .u8 (.tmp 36) (.const (.int .u8 1))) none,
  .op (.mov 36 (.tmp 75)) none,
  .keep [1, 2, 6, 7, 8, 9, 35, 36]]
def r11_5 : List G := [.op (.mov 16 (.tmp 9)) none,
  .op (.ari 17 .add .i64 (.tmp 16) (.const (.int .i64 1))) none,
  .op (.mov 9 (.tmp 17)) none,
  .keep [1, 2, 6, 7, 8, 9]]
def r11_15 : List G := [.op (.mov 76 (.tmp 8)) none,
  .op (.ari 77 .eql .i64 (.tmp 76) (.const (.int .i64 0))) none,
  .op (.mov 78 (.tmp 77)) none,
  .op (.mov 79 (.tmp 8)) (some (78, false)),
  .op (.mov 80 (.tmp 1)) (some (78, false)),
  .op (.lenS 81 (.tmp 80)) (some (78, false)),
  .op (.ari 82 .neq .i64 (.tmp 79) (.tmp 81)) (some (78, false)),
  .op (.pick 83 (.tmp 78) (.const (.bool true)) (.tmp 82)) none,
  .keep [6, 83]]
def r11_16 : List G := [.op (.mov 4 (.const (.pointer none))) none,
  .op (.mov 5 (.const (.int .i64 5))) none,
  .keep [4, 5]]
def r11_17 : List G := [.op (.mov 84 (.tmp 6)) none,
  .op (.mov 4 (.tmp 84)) none,
  .op (.mov 5 (.const (.int .i64 0))) none,
  .keep [4, 5]]
def c11 : C := (.seq (.region r11_0) (.seq (.region r11_1) (.seq (.region r11_2) (.seq (.seq (.region r11_3) (.block 0 (.loop (.seq (.seq (.region r11_4) (.cond (.tmp 15) .skip (.exit 0))) (.seq (.block 1 (.seq (.region r11_6) (.seq (.regionD r11_7) (.seq (.region r11_8) (.block 2 (.loop (.seq (.region r11_9) (.seq (.cond (.tmp 37) .skip (.exit 2)) (.seq (.block 3 (.seq (.seq (.regionD r11_10) (.cond (.tmp 60) (.seq (.region r11_11) .ret) .skip)) (.seq (.regionD r11_12) (.region r11_13)))) (.region r11_14)))))))))) (.region r11_5)))))) (.seq (.seq (.region r11_15) (.cond (.tmp 83) (.seq (.region r11_16) .ret) .skip)) (.seq (.region r11_17) .ret))))))
theorem x11 : (∀ (K : Env → World → Prop) (pan : List PanicEntry → World → Prop) (e : Env) (w : World), vcOps Try.prog r11_0 K pan e w = vcOps Try.prog [.op (.box 2 23 (.tmp 0)) none, .op (.mov 4 (.const (.pointer none))) none, .op (.mov 5 (.const (.int .i64 0))) none, .keep [1, 2]] K pan e w) ∧
  (∀ (K : Env → World → Prop) (pan : List PanicEntry → World → Prop) (e : Env) (w : World), vcOps Try.prog r11_1 K pan e w = vcOps Try.prog [.op (.loadN 10 16 (.tmp 2)) none, .op (.mov 11 (.tmp 1)) none, .op (.build 12 62 [(0, 16, (.tmp 10)), (16, 1, (.tmp 11))]) none, .op (.box 13 62 (.tmp 12)) none, .op (.mov 6 (.tmp 13)) none, .keep [1, 2, 6]] K pan e w) ∧
  (∀ (K : Env → World → Prop) (pan : List PanicEntry → World → Prop) (e : Env) (w : World), vcOps Try.prog r11_2 K pan e w = vcOps Try.prog [.op (.mov 7 (.const (.int .i64 0))) none, .op (.mov 8 (.const (.int .i64 0))) none, .keep [1, 2, 6, 7, 8]] K pan e w) ∧
  (∀ (K : Env → World → Prop) (pan : List PanicEntry → World → Prop) (e : Env) (w : World), vcOps Try.prog r11_3 K pan e w = vcOps Try.prog [.op (.mov 9 (.const (.int .i64 1))) none, .keep [1, 2, 6, 7, 8, 9]] K pan e w) ∧
  (∀ (K : Env → World → Prop) (pan : List PanicEntry → World → Prop) (e : Env) (w : World), vcOps Try.prog r11_4 K pan e w = vcOps Try.prog [.op (.mov 14 (.tmp 9)) none, .op (.ari 15 .leq .i64 (.tmp 14) (.const (.int .i64 16))) none, .keep [1, 2, 6, 7, 8, 9, 15]] K pan e w) ∧
  (∀ (K : Env → World → Prop) (pan : List PanicEntry → World → Prop) (e : Env) (w : World), vcOps Try.prog r11_6 K pan e w = vcOps Try.prog [.op (.mov 18 (.tmp 7)) none, .op (.shf 19 .shl .i64 (.tmp 18) (.const (.int .u64 1))) none, .op (.mov 7 (.tmp 19)) none, .keep [1, 2, 6, 7, 8, 9]] K pan e w) ∧
  (∀ (K : Env → World → Prop) (pan : List PanicEntry → World → Prop) (e : Env) (w : World), vcOps Try.prog r11_7 K pan e w = vcOps Try.prog [.op (.mov 20 (.tmp 6)) none, .op (.mov 21 (.tmp 9)) none, .op (.mov 22 (.tmp 6)) none, .op (.mov 23 (.tmp 9)) none, .op (.mov 24 (.tmp 7)) none, .op (.mov 25 (.tmp 8)) none, .op (.nilCheck 26 (.tmp 20)) none, .op (.faddr 27 529 (.tmp 26)) none, .op (.iaddrA 28 17 1 (.tmp 27) (.tmp 21)) none, .op (.nilCheck 29 (.tmp 22)) none, .op (.faddr 30 546 (.tmp 29)) none, .op (.store (.tmp 28) (.tmp 24)) none, .op (.iaddrA 31 17 1 (.tmp 30) (.tmp 23)) none, .op (.store (.tmp 31) (.tmp 25)) none, .keep [1, 2, 6, 7, 8, 9]] K pan e w) ∧
  (∀ (K : Env → World → Prop) (pan : List PanicEntry → World → Prop) (e : Env) (w : World), vcOps Try.prog r11_8 K pan e w = vcOps Try.prog [.op (.mov 32 (.tmp 9)) none, .op (.ari 33 .sub .i64 (.tmp 32) (.const (.int .i64 1))) none, .op (.iaddrA 34 16 1 (.tmp 2) (.tmp 33)) none, .op (.load 35 (.tmp 34)) none, .op (.mov 36 (.const (.int .u8 0))) none, .keep [1, 2, 6, 7, 8, 9, 35, 36]] K pan e w) ∧
  (∀ (K : Env → World → Prop) (pan : List PanicEntry → World → Prop) (e : Env) (w : World), vcOps Try.prog r11_9 K pan e w = vcOps Try.prog [.op (.ari 37 .lss .u8 (.tmp 36) (.tmp 35)) none, .keep [1, 2, 6, 7, 8, 9, 35, 36, 37]] K pan e w) ∧
  (∀ (K : Env → World → Prop) (pan : List PanicEntry → World → Prop) (e : Env) (w : World), vcOps Try.prog r11_10 K pan e w = vcOps Try.prog [.op (.mov 38 (.tmp 8)) none, .op (.mov 39 (.tmp 1)) none, .op (.lenS 40 (.tmp 39)) none, .op (.ari 41 .geq .i64 (.tmp 38) (.tmp 40)) none, .op (.mov 42 (.tmp 41)) none, .op (.mov 43 (.tmp 7)) (some (42, false)), .op (.mov 44 (.tmp 9)) (some (42, false)), .op (.shf 45 .shl .i64 (.const (.int .i64 1)) (.tmp 44)) (some (42, false)), .op (.ari 46 .sub .i64 (.tmp 45) (.const (.int .i64 1))) (some (42, false)), .op (.ari 47 .geq .i64 (.tmp 43) (.tmp 46)) (some (42, false)), .op (.pick 48 (.tmp 42) (.const (.bool true)) (.tmp 47)) none, .op (.mov 49 (.tmp 48)) none, .op (.mov 50 (.tmp 6)) (some (49, false)), .op (.mov 51 (.tmp 1)) (some (49, false)), .op (.mov 52 (.tmp 8)) (some (49, false)), .op (.idxS 53 (.tmp 51) (.tmp 52)) (some (49, false)), .op (.nilCheck 54 (.tmp 50)) (some (49, false)), .op (.faddr 55 17 (.tmp 54)) (some (49, false)), .op (.iaddrA 56 256 2 (.tmp 55) (.tmp 53)) (some (49, false)), .op (.faddr 57 1 (.tmp 56)) (some (49, false)), .op (.load 58 (.tmp 57)) (some (49, false)), .op (.ari 59 .gtr .i64 (.tmp 58) (.const (.int .i64 0))) (some (49, false)), .op (.pick 60 (.tmp 49) (.const (.bool true)) (.tmp 59)) none, .keep [1, 2, 6, 7, 8, 9, 35, 36, 60]] K pan e w) ∧
  (∀ (K : Env → World → Prop) (pan : List PanicEntry → World → Prop) (e : Env) (w : World), vcOps Try.prog r11_11 K pan e w = vcOps Try.prog [.op (.mov 4 (.const (.pointer none))) none, .op (.mov 5 (.const (.int .i64 5))) none, .keep [4, 5]] K pan e w) ∧
  (∀ (K : Env → World → Prop) (pan : List PanicEntry → World → Prop) (e : Env) (w : World), vcOps Try.prog r11_12 K pan e w = vcOps Try.prog [.op (.mov 61 (.tmp 6)) none, .op (.mov 62 (.tmp 1)) none, .op (.mov 63 (.tmp 8)) none, .op (.idxS 64 (.tmp 62) (.tmp 63)) none, .op (.mov 65 (.tmp 7)) none, .op (.mov 66 (.tmp 9)) none, .op (.build 67 58 [(0, 1, (.tmp 65)), (1, 1, (.tmp 66))]) none, .op (.nilCheck 68 (.tmp 61)) none, .op (.faddr 69 17 (.tmp 68)) none, .op (.iaddrA 70 256 2 (.tmp 69) (.tmp 64)) none, .op (.storeN 2 (.tmp 70) (.tmp 67)) none, .keep [1, 2, 6, 7, 8, 9, 35, 36]] K pan e w) ∧
  (∀ (K : Env → World → Prop) (pan : List PanicEntry → World → Prop) (e : Env) (w : World), vcOps Try.prog r11_13 K pan e w = vcOps Try.prog [.op (.mov 71 (.tmp 7)) none, .op (.ari 72 .add .i64 (.tmp 71) (.const (.int .i64 1))) none, .op (.mov 73 (.tmp 8)) none, .op (.ari 74 .add .i64 (.tmp 73) (.const (.int .i64 1))) none, .op (.mov 7 (.tmp 72)) none, .op (.mov 8 (.tmp 74)) none, .keep [1, 2, 6, 7, 8, 9, 35, 36]] K pan e w) ∧
  (∀ (K : Env → World → Prop) (pan : List PanicEntry → World → Prop) (e : Env) (w : World), vcOps Try.prog r11_14 K pan e w = vcOps Try.prog [.op (.ari 75 .add .u8 (.tmp 36) (.const (.int .u8 1))) none, .op (.mov 36 (.tmp 75)) none, .keep [1, 2, 6, 7, 8, 9, 35, 36]] K pan e w) ∧
  (∀ (K : Env → World → Prop) (pan : List PanicEntry → World → Prop) (e : Env) (w : World), vcOps Try.prog r11_5 K pan e w = vcOps Try.prog [.op (.mov 16 (.tmp 9)) none, .op (.ari 17 .add .i64 (.tmp 16) (.const (.int .i64 1))) none, .op (.mov 9 (.tmp 17)) none, .keep [1, 2, 6, 7, 8, 9]] K pan e w) ∧
  (∀ (K : Env → World → Prop) (pan : List PanicEntry → World → Prop) (e : Env) (w : World), vcOps Try.prog r11_15 K pan e w = vcOps Try.prog [.op (.mov 76 (.tmp 8)) none, .op (.ari 77 .eql .i64 (.tmp 76) (.const (.int .i64 0))) none, .op (.mov 78 (.tmp 77)) none, .op (.mov 79 (.tmp 8)) (some (78, false)), .op (.mov 80 (.tmp 1)) (some (78, false)), .op (.lenS 81 (.tmp 80)) (some (78, false)), .op (.ari 82 .neq .i64 (.tmp 79) (.tmp 81)) (some (78, false)), .op (.pick 83 (.tmp 78) (.const (.bool true)) (.tmp 82)) none, .keep [6, 83]] K pan e w) ∧
  (∀ (K : Env → World → Prop) (pan : List PanicEntry → World → Prop) (e : Env) (w : World), vcOps Try.prog r11_16 K pan e w = vcOps Try.prog [.op (.mov 4 (.const (.pointer none))) none, .op (.mov 5 (.const (.int .i64 5))) none, .keep [4, 5]] K pan e w) ∧
  (∀ (K : Env → World → Prop) (pan : List PanicEntry → World → Prop) (e : Env) (w : World), vcOps Try.prog r11_17 K pan e w = vcOps Try.prog [.op (.mov 84 (.tmp 6)) none, .op (.mov 4 (.tmp 84)) none, .op (.mov 5 (.const (.int .i64 0))) none, .keep [4, 5]] K pan e w) := ⟨fun _ _ _ _ => rfl, fun _ _ _ _ => rfl, fun _ _ _ _ => rfl, fun _ _ _ _ => rfl, fun _ _ _ _ => rfl, fun _ _ _ _ => rfl, fun _ _ _ _ => rfl, fun _ _ _ _ => rfl, fun _ _ _ _ => rfl, fun _ _ _ _ => rfl, fun _ _ _ _ => rfl, fun _ _ _ _ => rfl, fun _ _ _ _ => rfl, fun _ _ _ _ => rfl, fun _ _ _ _ => rfl, fun _ _ _ _ => rfl, fun _ _ _ _ => rfl, fun _ _ _ _ => rfl⟩
theorem low11 : Try.f11.body.bind (lowerC Try.prog 85 (fun i => List.lookup i [(7, [(0, 0), (1, 0), (2, 0), (3, 0), (4, 0), (5, 0), (6, 0), (7, 0), (8, 0), (10, 0), (11, 0), (9, 0), (12, 0), (13, 0)]), (10, [(0, 0), (1, 0), (2, 0), (3, 0), (4, 0), (5, 0), (6, 0), (7, 0), (8, 0), (9, 0), (10, 0), (11, 0), (12, 0), (13, 0), (14, 0), (15, 0), (16, 0), (17, 0), (18, 0), (19, 0), (20, 0), (21, 0), (22, 0)]), (12, [(0, 0), (1, 0), (2, 0), (3, 0), (4, 0), (5, 0), (6, 0), (7, 0), (8, 0), (9, 0), (10, 0)])])) = some c11.erase := by kernel_rfl
theorem enter11 {args : List Value} {w : World} {R : Ending → World → Prop} (ha : args.length ≤ 85) (h : vc Try.prog c11 (endPost [.t 4, .t 5] R) (argEnv 0 args) w) : Calls Try.prog 11 args.toArray w R :=
  calls_of_vc Try.func11 rfl low11 rfl ha h
/-- The code of (*aquatint/huff.Table).Code. -/
def r12_0 : List G := [.op (.mov 4 (.const (.int .i64 0))) none,
  .op (.mov 5 (.const (.int .i64 0))) none,
  .op (.mov 6 (.const (.bool false))) none,
  .keep [0, 1]]
def r12_1 : List G := [.op (.mov 8 (.tmp 0)) none,
  .op (.nilq 9 false (.tmp 8)) none,
  .op (.mov 10 (.tmp 9)) none,
  .op (.mov 11 (.tmp 1)) (some (10, false)),
  .op (.ari 12 .lss .i64 (.tmp 11) (.const (.int .i64 0))) (some (10, false)),
  .op (.pick 13 (.tmp 10) (.const (.bool true)) (.tmp 12)) none,
  .op (.mov 14 (.tmp 13)) none,
  .op (.mov 15 (.tmp 1)) (some (14, false)),
  .op (.ari 16 .geq .i64 (.tmp 15) (.const (.int .i64 256))) (some (14, false)),
  .op (.pick 17 (.tmp 14) (.const (.bool true)) (.tmp 16)) none,
  .keep [0, 1, 17]]
def r12_2 : List G := [.op (.mov 4 (.const (.int .i64 0))) none,
  .op (.mov 5 (.const (.int .i64 0))) none,
  .op (.mov 6 (.const (.bool false))) none,
  .keep [4, 5, 6]]
def r12_3 : List G := [.op (.mov 18 (.tmp 0)) none,
  .op (.mov 19 (.tmp 1)) none,
  .op (.nilCheck 20 (.tmp 18)) none,
  .op (.faddr 21 17 (.tmp 20)) none,
  .op (.iaddrA 22 256 2 (.tmp 21) (.tmp 19)) none,
  .op (.loadN 23 2 (.tmp 22)) none,
  .op (.alloc 7 58) none,
  .op (.storeN 2 (.tmp 7) (.tmp 23)) none,
  .keep [7]]
def r12_4 : List G := [.op (.faddr 24 0 (.tmp 7)) none,
  .op (.load 25 (.tmp 24)) none,
  .op (.faddr 26 1 (.tmp 7)) none,
  .op (.load 27 (.tmp 26)) none,
  .op (.faddr 28 1 (.tmp 7)) none,
  .op (.load 29 (.tmp 28)) none,
  .op (.ari 30 .gtr .i64 (.tmp 29) (.const (.int .i64 0))) none,
  .op (.mov 4 (.tmp 25)) none,
  .op (.mov 5 (.tmp 27)) none,
  .op (.mov 6 (.tmp 30)) none,
  .keep [4, 5, 6]]
def c12 : C := (.seq (.region r12_0) (.seq (.seq (.region r12_1) (.cond (.tmp 17) (.seq (.region r12_2) .ret) .skip)) (.seq (.region r12_3) (.seq (.regionD r12_4) .ret))))
theorem x12 : (∀ (K : Env → World → Prop) (pan : List PanicEntry → World → Prop) (e : Env) (w : World), vcOps Try.prog r12_0 K pan e w = vcOps Try.prog [.op (.mov 4 (.const (.int .i64 0))) none, .op (.mov 5 (.const (.int .i64 0))) none, .op (.mov 6 (.const (.bool false))) none, .keep [0, 1]] K pan e w) ∧
  (∀ (K : Env → World → Prop) (pan : List PanicEntry → World → Prop) (e : Env) (w : World), vcOps Try.prog r12_1 K pan e w = vcOps Try.prog [.op (.mov 8 (.tmp 0)) none, .op (.nilq 9 false (.tmp 8)) none, .op (.mov 10 (.tmp 9)) none, .op (.mov 11 (.tmp 1)) (some (10, false)), .op (.ari 12 .lss .i64 (.tmp 11) (.const (.int .i64 0))) (some (10, false)), .op (.pick 13 (.tmp 10) (.const (.bool true)) (.tmp 12)) none, .op (.mov 14 (.tmp 13)) none, .op (.mov 15 (.tmp 1)) (some (14, false)), .op (.ari 16 .geq .i64 (.tmp 15) (.const (.int .i64 256))) (some (14, false)), .op (.pick 17 (.tmp 14) (.const (.bool true)) (.tmp 16)) none, .keep [0, 1, 17]] K pan e w) ∧
  (∀ (K : Env → World → Prop) (pan : List PanicEntry → World → Prop) (e : Env) (w : World), vcOps Try.prog r12_2 K pan e w = vcOps Try.prog [.op (.mov 4 (.const (.int .i64 0))) none, .op (.mov 5 (.const (.int .i64 0))) none, .op (.mov 6 (.const (.bool false))) none, .keep [4, 5, 6]] K pan e w) ∧
  (∀ (K : Env → World → Prop) (pan : List PanicEntry → World → Prop) (e : Env) (w : World), vcOps Try.prog r12_3 K pan e w = vcOps Try.prog [.op (.mov 18 (.tmp 0)) none, .op (.mov 19 (.tmp 1)) none, .op (.nilCheck 20 (.tmp 18)) none, .op (.faddr 21 17 (.tmp 20)) none, .op (.iaddrA 22 256 2 (.tmp 21) (.tmp 19)) none, .op (.loadN 23 2 (.tmp 22)) none, .op (.alloc 7 58) none, .op (.storeN 2 (.tmp 7) (.tmp 23)) none, .keep [7]] K pan e w) ∧
  (∀ (K : Env → World → Prop) (pan : List PanicEntry → World → Prop) (e : Env) (w : World), vcOps Try.prog r12_4 K pan e w = vcOps Try.prog [.op (.faddr 24 0 (.tmp 7)) none, .op (.load 25 (.tmp 24)) none, .op (.faddr 26 1 (.tmp 7)) none, .op (.load 27 (.tmp 26)) none, .op (.faddr 28 1 (.tmp 7)) none, .op (.load 29 (.tmp 28)) none, .op (.ari 30 .gtr .i64 (.tmp 29) (.const (.int .i64 0))) none, .op (.mov 4 (.tmp 25)) none, .op (.mov 5 (.tmp 27)) none, .op (.mov 6 (.tmp 30)) none, .keep [4, 5, 6]] K pan e w) := ⟨fun _ _ _ _ => rfl, fun _ _ _ _ => rfl, fun _ _ _ _ => rfl, fun _ _ _ _ => rfl, fun _ _ _ _ => rfl⟩
theorem low12 : Try.f12.body.bind (lowerC Try.prog 31 (fun i => List.lookup i [(4, [(0, 0), (1, 0), (2, 0), (3, 0), (4, 0), (5, 0), (6, 0), (7, 0), (8, 0), (9, 0)])])) = some c12.erase := by kernel_rfl
theorem enter12 {args : List Value} {w : World} {R : Ending → World → Prop} (ha : args.length ≤ 31) (h : vc Try.prog c12 (endPost [.t 4, .t 5, .t 6] R) (argEnv 0 args) w) : Calls Try.prog 12 args.toArray w R :=
  calls_of_vc Try.func12 rfl low12 rfl ha h
/-- The code of aquatint/best.Cost. -/
def r14_0 : List G := [.op (.box 2 22 (.tmp 0)) none,
  .op (.mov 4 (.const (.int .i64 0))) none,
  .op (.mov 5 (.const (.bool false))) none,
  .keep [1, 2]]
def r14_1 : List G := [.op (.mov 12 (.tmp 1)) none,
  .op (.nilq 13 false (.tmp 12)) none,
  .op (.mov 14 (.tmp 13)) none,
  .op (.loadN 15 256 (.tmp 2)) (some (14, false)),
  .op (.call (some 16) 17 [(.tmp 15)]) (some (14, false)),
  .op (.not 17 (.tmp 16)) (some (14, false)),
  .op (.pick 18 (.tmp 14) (.const (.bool true)) (.tmp 17)) none,
  .keep [1, 2, 18]]
def r14_2 : List G := [.op (.mov 4 (.const (.int .i64 0))) none,
  .op (.mov 5 (.const (.bool false))) none,
  .keep [4, 5]]
def r14_3 : List G := [.op (.mov 6 (.const (.int .i64 0))) none,
  .keep [1, 2, 6]]
def r14_4 : List G := [.op (.loadN 19 256 (.tmp 2)) none,
  .op (.mov 20 (.const (.int .i64 0))) none,
  .keep [1, 6, 19, 20]]
def r14_5 : List G := [.op (.ari 21 .lss .i64 (.tmp 20) (.const (.int .i64 256))) none,
  .keep [1, 6, 19, 20, 21]]
def r14_6 : List G := [.op (.mov 22 (.tmp 20)) none,
  .op (.idxA 23 256 1 false (.tmp 19) (.tmp 20)) none,
  .op (.mov 7 (.tmp 22)) none,
  .op (.mov 8 (.tmp 23)) none,
  .keep [1, 6, 7, 8, 19, 20]]
def r14_7 : List G := [.op (.mov 25 (.tmp 1)) none,
  .op (.mov 26 (.tmp 7)) none,
  .op (.call (some 27) 12 [(.tmp 25), (.tmp 26)]) none,
  .op (.mov 24 (.tmp 27)) none,
  .op (.ext 28 0 (.tmp 24)) none,
  .op (.ext 29 1 (.tmp 24)) none,
  .op (.ext 30 2 (.tmp 24)) none,
  .op (.mov 9 (.tmp 28)) none,
  .op (.mov 10 (.tmp 29)) none,
  .op (.mov 11 (.tmp 30)) none,
  .keep [1, 6, 8, 10, 11, 19, 20]]
def r14_8 : List G := [.op (.mov 31 (.tmp 8)) none,
  .op (.ari 32 .gtr .i64 (.tmp 31) (.const (.int .i64 0))) none,
  .op (.mov 33 (.tmp 32)) none,
  .op (.mov 34 (.tmp 11)) (some (33, true)),
  .op (.not 35 (.tmp 34)) (some (33, true)),
  .op (.pick 36 (.tmp 33) (.tmp 35) (.const (.bool false))) none,
  .keep [1, 6, 8, 10, 19, 20, 36]]
def r14_9 : List G := [.op (.mov 4 (.const (.int .i64 0))) none,
  .op (.mov 5 (.const (.bool false))) none,
  .keep [4, 5]]
def r14_10 : List G := [.op (.mov 37 (.tmp 6)) none,
  .op (.mov 38 (.tmp 8)) none,
  .op (.mov 39 (.tmp 10)) none,
  .op (.ari 40 .mul .i64 (.tmp 38) (.tmp 39)) none,
  .op (.ari 41 .add .i64 (.tmp 37) (.tmp 40)) none,
  .op (.mov 6 (.tmp 41)) none,
  .keep [1, 6, 19, 20]]
def r14_11 : List G := [.op (.ari 42 .add .i64 (.tmp 20) (.const (.int .i64 1))) none,
  .op (.mov 20 (.tmp 42)) none,
  .keep [1, 6, 19, 20]]
def r14_12 : List G := [.op (.mov 43 (.tmp 6)) none,
  .op (.mov 4 (.tmp 43)) none,
  .op (.mov 5 (.const (.bool true))) none,
  .keep [4, 5]]
def c14 : C := (.seq (.region r14_0) (.seq (.seq (.region r14_1) (.cond (.tmp 18) (.seq (.region r14_2) .ret) .skip)) (.seq (.region r14_3) (.seq (.seq (.region r14_4) (.block 0 (.loop (.seq (.region r14_5) (.seq (.cond (.tmp 21) .skip (.exit 0)) (.seq (.block 1 (.seq (.region r14_6) (.seq (.region r14_7) (.seq (.seq (.region r14_8) (.cond (.tmp 36) (.seq (.region r14_9) .ret) .skip)) (.region r14_10))))) (.region r14_11))))))) (.seq (.region r14_12) .ret)))))
theorem x14 : (∀ (K : Env → World → Prop) (pan : List PanicEntry → World → Prop) (e : Env) (w : World), vcOps Try.prog r14_0 K pan e w = vcOps Try.prog [.op (.box 2 22 (.tmp 0)) none, .op (.mov 4 (.const (.int .i64 0))) none, .op (.mov 5 (.const (.bool false))) none, .keep [1, 2]] K pan e w) ∧
  (∀ (K : Env → World → Prop) (pan : List PanicEntry → World → Prop) (e : Env) (w : World), vcOps Try.prog r14_1 K pan e w = vcOps Try.prog [.op (.mov 12 (.tmp 1)) none, .op (.nilq 13 false (.tmp 12)) none, .op (.mov 14 (.tmp 13)) none, .op (.loadN 15 256 (.tmp 2)) (some (14, false)), .op (.call (some 16) 17 [(.tmp 15)]) (some (14, false)), .op (.not 17 (.tmp 16)) (some (14, false)), .op (.pick 18 (.tmp 14) (.const (.bool true)) (.tmp 17)) none, .keep [1, 2, 18]] K pan e w) ∧
  (∀ (K : Env → World → Prop) (pan : List PanicEntry → World → Prop) (e : Env) (w : World), vcOps Try.prog r14_2 K pan e w = vcOps Try.prog [.op (.mov 4 (.const (.int .i64 0))) none, .op (.mov 5 (.const (.bool false))) none, .keep [4, 5]] K pan e w) ∧
  (∀ (K : Env → World → Prop) (pan : List PanicEntry → World → Prop) (e : Env) (w : World), vcOps Try.prog r14_3 K pan e w = vcOps Try.prog [.op (.mov 6 (.const (.int .i64 0))) none, .keep [1, 2, 6]] K pan e w) ∧
  (∀ (K : Env → World → Prop) (pan : List PanicEntry → World → Prop) (e : Env) (w : World), vcOps Try.prog r14_4 K pan e w = vcOps Try.prog [.op (.loadN 19 256 (.tmp 2)) none, .op (.mov 20 (.const (.int .i64 0))) none, .keep [1, 6, 19, 20]] K pan e w) ∧
  (∀ (K : Env → World → Prop) (pan : List PanicEntry → World → Prop) (e : Env) (w : World), vcOps Try.prog r14_5 K pan e w = vcOps Try.prog [.op (.ari 21 .lss .i64 (.tmp 20) (.const (.int .i64 256))) none, .keep [1, 6, 19, 20, 21]] K pan e w) ∧
  (∀ (K : Env → World → Prop) (pan : List PanicEntry → World → Prop) (e : Env) (w : World), vcOps Try.prog r14_6 K pan e w = vcOps Try.prog [.op (.mov 22 (.tmp 20)) none, .op (.idxA 23 256 1 false (.tmp 19) (.tmp 20)) none, .op (.mov 7 (.tmp 22)) none, .op (.mov 8 (.tmp 23)) none, .keep [1, 6, 7, 8, 19, 20]] K pan e w) ∧
  (∀ (K : Env → World → Prop) (pan : List PanicEntry → World → Prop) (e : Env) (w : World), vcOps Try.prog r14_7 K pan e w = vcOps Try.prog [.op (.mov 25 (.tmp 1)) none, .op (.mov 26 (.tmp 7)) none, .op (.call (some 27) 12 [(.tmp 25), (.tmp 26)]) none, .op (.mov 24 (.tmp 27)) none, .op (.ext 28 0 (.tmp 24)) none, .op (.ext 29 1 (.tmp 24)) none, .op (.ext 30 2 (.tmp 24)) none, .op (.mov 9 (.tmp 28)) none, .op (.mov 10 (.tmp 29)) none, .op (.mov 11 (.tmp 30)) none, .keep [1, 6, 8, 10, 11, 19, 20]] K pan e w) ∧
  (∀ (K : Env → World → Prop) (pan : List PanicEntry → World → Prop) (e : Env) (w : World), vcOps Try.prog r14_8 K pan e w = vcOps Try.prog [.op (.mov 31 (.tmp 8)) none, .op (.ari 32 .gtr .i64 (.tmp 31) (.const (.int .i64 0))) none, .op (.mov 33 (.tmp 32)) none, .op (.mov 34 (.tmp 11)) (some (33, true)), .op (.not 35 (.tmp 34)) (some (33, true)), .op (.pick 36 (.tmp 33) (.tmp 35) (.const (.bool false))) none, .keep [1, 6, 8, 10, 19, 20, 36]] K pan e w) ∧
  (∀ (K : Env → World → Prop) (pan : List PanicEntry → World → Prop) (e : Env) (w : World), vcOps Try.prog r14_9 K pan e w = vcOps Try.prog [.op (.mov 4 (.const (.int .i64 0))) none, .op (.mov 5 (.const (.bool false))) none, .keep [4, 5]] K pan e w) ∧
  (∀ (K : Env → World → Prop) (pan : List PanicEntry → World → Prop) (e : Env) (w : World), vcOps Try.prog r14_10 K pan e w = vcOps Try.prog [.op (.mov 37 (.tmp 6)) none, .op (.mov 38 (.tmp 8)) none, .op (.mov 39 (.tmp 10)) none, .op (.ari 40 .mul .i64 (.tmp 38) (.tmp 39)) none, .op (.ari 41 .add .i64 (.tmp 37) (.tmp 40)) none, .op (.mov 6 (.tmp 41)) none, .keep [1, 6, 19, 20]] K pan e w) ∧
  (∀ (K : Env → World → Prop) (pan : List PanicEntry → World → Prop) (e : Env) (w : World), vcOps Try.prog r14_11 K pan e w = vcOps Try.prog [.op (.ari 42 .add .i64 (.tmp 20) (.const (.int .i64 1))) none, .op (.mov 20 (.tmp 42)) none, .keep [1, 6, 19, 20]] K pan e w) ∧
  (∀ (K : Env → World → Prop) (pan : List PanicEntry → World → Prop) (e : Env) (w : World), vcOps Try.prog r14_12 K pan e w = vcOps Try.prog [.op (.mov 43 (.tmp 6)) none, .op (.mov 4 (.tmp 43)) none, .op (.mov 5 (.const (.bool true))) none, .keep [4, 5]] K pan e w) := ⟨fun _ _ _ _ => rfl, fun _ _ _ _ => rfl, fun _ _ _ _ => rfl, fun _ _ _ _ => rfl, fun _ _ _ _ => rfl, fun _ _ _ _ => rfl, fun _ _ _ _ => rfl, fun _ _ _ _ => rfl, fun _ _ _ _ => rfl, fun _ _ _ _ => rfl, fun _ _ _ _ => rfl, fun _ _ _ _ => rfl, fun _ _ _ _ => rfl⟩
theorem low14 : Try.f14.body.bind (lowerC Try.prog 44 (fun _ => none)) = some c14.erase := by kernel_rfl
theorem enter14 {args : List Value} {w : World} {R : Ending → World → Prop} (ha : args.length ≤ 44) (h : vc Try.prog c14 (endPost [.t 4, .t 5] R) (argEnv 0 args) w) : Calls Try.prog 14 args.toArray w R :=
  calls_of_vc Try.func14 rfl low14 rfl ha h
/-- The code of aquatint/best.right. -/
def r17_0 : List G := [.op (.box 1 22 (.tmp 0)) none,
  .op (.mov 2 (.const (.bool false))) none,
  .keep [1]]
def r17_1 : List G := [.op (.sliceA 3 256 1 (.tmp 1) none none) none,
  .op (.call (some 4) 24 [(.tmp 3), (.func 25)]) none,
  .op (.not 5 (.tmp 4)) none,
  .op (.mov 2 (.tmp 5)) none,
  .keep [2]]
def c17 : C := (.seq (.region r17_0) (.seq (.region r17_1) .ret))
theorem x17 : (∀ (K : Env → World → Prop) (pan : List PanicEntry → World → Prop) (e : Env) (w : World), vcOps Try.prog r17_0 K pan e w = vcOps Try.prog [.op (.box 1 22 (.tmp 0)) none, .op (.mov 2 (.const (.bool false))) none, .keep [1]] K pan e w) ∧
  (∀ (K : Env → World → Prop) (pan : List PanicEntry → World → Prop) (e : Env) (w : World), vcOps Try.prog r17_1 K pan e w = vcOps Try.prog [.op (.sliceA 3 256 1 (.tmp 1) none none) none, .op (.call (some 4) 24 [(.tmp 3), (.func 25)]) none, .op (.not 5 (.tmp 4)) none, .op (.mov 2 (.tmp 5)) none, .keep [2]] K pan e w) := ⟨fun _ _ _ _ => rfl, fun _ _ _ _ => rfl⟩
theorem low17 : Try.f17.body.bind (lowerC Try.prog 6 (fun _ => none)) = some c17.erase := by kernel_rfl
theorem enter17 {args : List Value} {w : World} {R : Ending → World → Prop} (ha : args.length ≤ 6) (h : vc Try.prog c17 (endPost [.t 2] R) (argEnv 0 args) w) : Calls Try.prog 17 args.toArray w R :=
  calls_of_vc Try.func17 rfl low17 rfl ha h
/-- The code of (*aquatint/best.tree).lengths. -/
def r18_0 : List G := [.op (.mov 5 (.tmp 0)) none,
  .op (.call (some 6) 26 [(.tmp 5), (.const (.int .i64 (-1)))]) none,
  .op (.mov 2 (.tmp 6)) none,
  .keep [0, 2]]
def r18_1 : List G := [.op (.mov 7 (.tmp 0)) none,
  .op (.mov 8 (.tmp 2)) none,
  .op (.call (some 9) 26 [(.tmp 7), (.tmp 8)]) none,
  .op (.mov 3 (.tmp 9)) none,
  .keep [0, 2, 3]]
def r18_2 : List G := [.op (.mov 10 (.tmp 3)) none,
  .op (.ari 11 .lss .i64 (.tmp 10) (.const (.int .i64 0))) none,
  .keep [0, 2, 3, 11]]
def r18_3 : List G := [.op (.mov 12 (.tmp 0)) none,
  .op (.mov 13 (.tmp 2)) none,
  .op (.nilCheck 14 (.tmp 12)) none,
  .op (.faddr 15 0 (.tmp 14)) none,
  .op (.iaddrA 16 257 1 (.tmp 15) (.tmp 13)) none,
  .op (.load 17 (.tmp 16)) none,
  .op (.mov 18 (.tmp 0)) none,
  .op (.mov 19 (.tmp 3)) none,
  .op (.nilCheck 20 (.tmp 18)) none,
  .op (.faddr 21 0 (.tmp 20)) none,
  .op (.iaddrA 22 257 1 (.tmp 21) (.tmp 19)) none,
  .op (.load 23 (.tmp 22)) none,
  .op (.ari 24 .add .i64 (.tmp 17) (.tmp 23)) none,
  .op (.nilCheck 25 (.tmp 12)) none,
  .op (.faddr 26 0 (.tmp 25)) none,
  .op (.iaddrA 27 257 1 (.tmp 26) (.tmp 13)) none,
  .op (.store (.tmp 27) (.tmp 24)) none,
  .keep [0, 2, 3]]
def r18_4 : List G := [.op (.mov 28 (.tmp 0)) none,
  .op (.mov 29 (.tmp 3)) none,
  .op (.nilCheck 30 (.tmp 28)) none,
  .op (.faddr 31 0 (.tmp 30)) none,
  .op (.iaddrA 32 257 1 (.tmp 31) (.tmp 29)) none,
  .op (.store (.tmp 32) (.const (.int .i64 0))) none,
  .keep [0, 2, 3]]
def r18_5 : List G := [.op (.mov 33 (.tmp 0)) none,
  .op (.mov 34 (.tmp 2)) none,
  .op (.call (some 35) 27 [(.tmp 33), (.tmp 34)]) none,
  .op (.mov 4 (.tmp 35)) none,
  .keep [0, 3, 4]]
def r18_6 : List G := [.op (.mov 36 (.tmp 0)) none,
  .op (.mov 37 (.tmp 3)) none,
  .op (.call (some 38) 27 [(.tmp 36), (.tmp 37)]) none,
  .keep [0, 3, 4]]
def r18_7 : List G := [.op (.mov 39 (.tmp 0)) none,
  .op (.mov 40 (.tmp 4)) none,
  .op (.mov 41 (.tmp 3)) none,
  .op (.nilCheck 42 (.tmp 39)) none,
  .op (.faddr 43 514 (.tmp 42)) none,
  .op (.iaddrA 44 257 1 (.tmp 43) (.tmp 40)) none,
  .op (.store (.tmp 44) (.tmp 41)) none,
  .keep [0]]
def c18 : C := (.block 0 (.loop (.block 1 (.seq (.region r18_0) (.seq (.region r18_1) (.seq (.seq (.region r18_2) (.cond (.tmp 11) .ret .skip)) (.seq (.regionD r18_3) (.seq (.region r18_4) (.seq (.region r18_5) (.seq (.region r18_6) (.region r18_7)))))))))))
theorem x18 : (∀ (K : Env → World → Prop) (pan : List PanicEntry → World → Prop) (e : Env) (w : World), vcOps Try.prog r18_0 K pan e w = vcOps Try.prog [.op (.mov 5 (.tmp 0)) none, .op (.call (some 6) 26 [(.tmp 5), (.const (.int .i64 (-1)))]) none, .op (.mov 2 (.tmp 6)) none, .keep [0, 2]] K pan e w) ∧
  (∀ (K : Env → World → Prop) (pan : List PanicEntry → World → Prop) (e : Env) (w : World), vcOps Try.prog r18_1 K pan e w = vcOps Try.prog [.op (.mov 7 (.tmp 0)) none, .op (.mov 8 (.tmp 2)) none, .op (.call (some 9) 26 [(.tmp 7), (.tmp 8)]) none, .op (.mov 3 (.tmp 9)) none, .keep [0, 2, 3]] K pan e w) ∧
  (∀ (K : Env → World → Prop) (pan : List PanicEntry → World → Prop) (e : Env) (w : World), vcOps Try.prog r18_2 K pan e w = vcOps Try.prog [.op (.mov 10 (.tmp 3)) none, .op (.ari 11 .lss .i64 (.tmp 10) (.const (.int .i64 0))) none, .keep [0, 2, 3, 11]] K pan e w) ∧
  (∀ (K : Env → World → Prop) (pan : List PanicEntry → World → Prop) (e : Env) (w : World), vcOps Try.prog r18_3 K pan e w = vcOps Try.prog [.op (.mov 12 (.tmp 0)) none, .op (.mov 13 (.tmp 2)) none, .op (.nilCheck 14 (.tmp 12)) none, .op (.faddr 15 0 (.tmp 14)) none, .op (.iaddrA 16 257 1 (.tmp 15) (.tmp 13)) none, .op (.load 17 (.tmp 16)) none, .op (.mov 18 (.tmp 0)) none, .op (.mov 19 (.tmp 3)) none, .op (.nilCheck 20 (.tmp 18)) none, .op (.faddr 21 0 (.tmp 20)) none, .op (.iaddrA 22 257 1 (.tmp 21) (.tmp 19)) none, .op (.load 23 (.tmp 22)) none, .op (.ari 24 .add .i64 (.tmp 17) (.tmp 23)) none, .op (.nilCheck 25 (.tmp 12)) none, .op (.faddr 26 0 (.tmp 25)) none, .op (.iaddrA 27 257 1 (.tmp 26) (.tmp 13)) none, .op (.store (.tmp 27) (.tmp 24)) none, .keep [0, 2, 3]] K pan e w) ∧
  (∀ (K : Env → World → Prop) (pan : List PanicEntry → World → Prop) (e : Env) (w : World), vcOps Try.prog r18_4 K pan e w = vcOps Try.prog [.op (.mov 28 (.tmp 0)) none, .op (.mov 29 (.tmp 3)) none, .op (.nilCheck 30 (.tmp 28)) none, .op (.faddr 31 0 (.tmp 30)) none, .op (.iaddrA 32 257 1 (.tmp 31) (.tmp 29)) none, .op (.store (.tmp 32) (.const (.int .i64 0))) none, .keep [0, 2, 3]] K pan e w) ∧
  (∀ (K : Env → World → Prop) (pan : List PanicEntry → World → Prop) (e : Env) (w : World), vcOps Try.prog r18_5 K pan e w = vcOps Try.prog [.op (.mov 33 (.tmp 0)) none, .op (.mov 34 (.tmp 2)) none, .op (.call (some 35) 27 [(.tmp 33), (.tmp 34)]) none, .op (.mov 4 (.tmp 35)) none, .keep [0, 3, 4]] K pan e w) ∧
  (∀ (K : Env → World → Prop) (pan : List PanicEntry → World → Prop) (e : Env) (w : World), vcOps Try.prog r18_6 K pan e w = vcOps Try.prog [.op (.mov 36 (.tmp 0)) none, .op (.mov 37 (.tmp 3)) none, .op (.call (some 38) 27 [(.tmp 36), (.tmp 37)]) none, .keep [0, 3, 4]] K pan e w) ∧
  (∀ (K : Env → World → Prop) (pan : List PanicEntry → World → Prop) (e : Env) (w : World), vcOps Try.prog r18_7 K pan e w = vcOps Try.prog [.op (.mov 39 (.tmp 0)) none, .op (.mov 40 (.tmp 4)) none, .op (.mov 41 (.tmp 3)) none, .op (.nilCheck 42 (.tmp 39)) none, .op (.faddr 43 514 (.tmp 42)) none, .op (.iaddrA 44 257 1 (.tmp 43) (.tmp 40)) none, .op (.store (.tmp 44) (.tmp 41)) none, .keep [0]] K pan e w) := ⟨fun _ _ _ _ => rfl, fun _ _ _ _ => rfl, fun _ _ _ _ => rfl, fun _ _ _ _ => rfl, fun _ _ _ _ => rfl, fun _ _ _ _ => rfl, fun _ _ _ _ => rfl, fun _ _ _ _ => rfl⟩
theorem low18 : Try.f18.body.bind (lowerC Try.prog 45 (fun i => List.lookup i [(3, [(0, 0), (1, 0), (2, 0), (3, 0), (4, 0), (5, 0), (6, 0), (7, 0), (8, 0), (9, 0), (10, 0), (11, 0), (12, 0), (13, 0), (14, 0), (15, 0), (16, 0)])])) = some c18.erase := by kernel_rfl
theorem enter18 {args : List Value} {w : World} {R : Ending → World → Prop} (ha : args.length ≤ 45) (h : vc Try.prog c18 (endPost [] R) (argEnv 0 args) w) : Calls Try.prog 18 args.toArray w R :=
  calls_of_vc Try.func18 rfl low18 rfl ha h
/-- The code of aquatint/best.shorten. -/
def r19_0 : List G := [.op (.mov 2 (.const (.int .i64 256))) none,
  .keep [0, 2]]
def r19_1 : List G := [.op (.mov 5 (.tmp 2)) none,
  .op (.ari 6 .gtr .i64 (.tmp 5) (.const (.int .i64 16))) none,
  .keep [0, 2, 6]]
def r19_3 : List G := [.op (.mov 9 (.tmp 0)) none,
  .op (.mov 10 (.tmp 2)) none,
  .op (.nilCheck 11 (.tmp 9)) none,
  .op (.iaddrA 12 257 1 (.tmp 11) (.tmp 10)) none,
  .op (.load 13 (.tmp 12)) none,
  .op (.ari 14 .gtr .i64 (.tmp 13) (.const (.int .i64 0))) none,
  .keep [0, 2, 14]]
def r19_4 : List G := [.op (.mov 15 (.tmp 2)) none,
  .op (.ari 16 .sub .i64 (.tmp 15) (.const (.int .i64 2))) none,
  .op (.mov 3 (.tmp 16)) none,
  .keep [0, 2, 3]]
def r19_5 : List G := [.op (.mov 17 (.tmp 0)) none,
  .op (.mov 18 (.tmp 3)) none,
  .op (.nilCheck 19 (.tmp 17)) none,
  .op (.iaddrA 20 257 1 (.tmp 19) (.tmp 18)) none,
  .op (.load 21 (.tmp 20)) none,
  .op (.ari 22 .eql .i64 (.tmp 21) (.const (.int .i64 0))) none,
  .keep [0, 2, 3, 22]]
def r19_6 : List G := [.op (.mov 23 (.tmp 3)) none,
  .op (.ari 24 .sub .i64 (.tmp 23) (.const (.int .i64 1))) none,
  .op (.mov 3 (.tmp 24)) none,
  .keep [0, 2, 3]]
def r19_7 : List G := [.op (.mov 25 (.tmp 0)) none,
  .op (.mov 26 (.tmp 2)) none,
  .op (.nilCheck 27 (.tmp 25)) none,
  .op (.iaddrA 28 257 1 (.tmp 27) (.tmp 26)) none,
  .op (.load 29 (.tmp 28)) none,
  .op (.ari 30 .sub .i64 (.tmp 29) (.const (.int .i64 2))) none,
  .op (.nilCheck 31 (.tmp 25)) none,
  .op (.iaddrA 32 257 1 (.tmp 31) (.tmp 26)) none,
  .op (.store (.tmp 32) (.tmp 30)) none,
  .keep [0, 2, 3]]
def r19_8 : List G := [.op (.mov 33 (.tmp 0)) none,
  .op (.mov 34 (.tmp 2)) none,
  .op (.ari 35 .sub .i64 (.tmp 34) (.const (.int .i64 1))) none,
  .op (.nilCheck 36 (.tmp 33)) none,
  .op (.iaddrA 37 257 1 (.tmp 36) (.tmp 35)) none,
  .op (.load 38 (.tmp 37)) none,
  .op (.ari 39 .add .i64 (.tmp 38) (.const (.int .i64 1))) none,
  .op (.nilCheck 40 (.tmp 33)) none,
  .op (.iaddrA 41 257 1 (.tmp 40) (.tmp 35)) none,
  .op (.store (.tmp 41) (.tmp 39)) none,
  .keep [0, 2, 3]]
def r19_9 : List G := [.op (.mov 42 (.tmp 0)) none,
  .op (.mov 43 (.tmp 3)) none,
  .op (.ari 44 .add .i64 (.tmp 43) (.const (.int .i64 1))) none,
  .op (.nilCheck 45 (.tmp 42)) none,
  .op (.iaddrA 46 257 1 (.tmp 45) (.tmp 44)) none,
  .op (.load 47 (.tmp 46)) none,
  .op (.ari 48 .add .i64 (.tmp 47) (.const (.int .i64 2))) none,
  .op (.nilCheck 49 (.tmp 42)) none,
  .op (.iaddrA 50 257 1 (.tmp 49) (.tmp 44)) none,
  .op (.store (.tmp 50) (.tmp 48)) none,
  .keep [0, 2, 3]]
def r19_10 : List G := [.op (.mov 51 (.tmp 0)) none,
  .op (.mov 52 (.tmp 3)) none,
  .op (.nilCheck 53 (.tmp 51)) none,
  .op (.iaddrA 54 257 1 (.tmp 53) (.tmp 52)) none,
  .op (.load 55 (.tmp 54)) none,
  .op (.ari 56 .sub .i64 (.tmp 55) (.const (.int .i64 1))) none,
  .op (.nilCheck 57 (.tmp 51)) none,
  .op (.iaddrA 58 257 1 (.tmp 57) (.tmp 52)) none,
  .op (.store (.tmp 58) (.tmp 56)) none,
  .keep [0, 2]]
def r19_2 : List G := [.op (.mov 7 (.tmp 2)) none,
  .op (.ari 8 .sub .i64 (.tmp 7) (.const (.int .i64 1))) none,
  .op (.mov 2 (.tmp 8)) none,
  .keep [0, 2]]
def r19_11 : List G := [.op (.mov 4 (.const (.int .i64 16))) none,
  .keep [0, 4]]
def r19_12 : List G := [.op (.mov 59 (.tmp 0)) none,
  .op (.mov 60 (.tmp 4)) none,
  .op (.nilCheck 61 (.tmp 59)) none,
  .op (.iaddrA 62 257 1 (.tmp 61) (.tmp 60)) none,
  .op (.load 63 (.tmp 62)) none,
  .op (.ari 64 .eql .i64 (.tmp 63) (.const (.int .i64 0))) none,
  .keep [0, 4, 64]]
def r19_13 : List G := [.op (.mov 65 (.tmp 4)) none,
  .op (.ari 66 .sub .i64 (.tmp 65) (.const (.int .i64 1))) none,
  .op (.mov 4 (.tmp 66)) none,
  .keep [0, 4]]
def r19_14 : List G := [.op (.mov 67 (.tmp 0)) none,
  .op (.mov 68 (.tmp 4)) none,
  .op (.nilCheck 69 (.tmp 67)) none,
  .op (.iaddrA 70 257 1 (.tmp 69) (.tmp 68)) none,
  .op (.load 71 (.tmp 70)) none,
  .op (.ari 72 .sub .i64 (.tmp 71) (.const (.int .i64 1))) none,
  .op (.nilCheck 73 (.tmp 67)) none,
  .op (.iaddrA 74 257 1 (.tmp 73) (.tmp 68)) none,
  .op (.store (.tmp 74) (.tmp 72)) none,
  .keep []]
def c19 : C := (.seq (.seq (.region r19_0) (.block 0 (.loop (.seq (.seq (.region r19_1) (.cond (.tmp 6) .skip (.exit 0))) (.seq (.block 1 (.block 2 (.loop (.seq (.seq (.region r19_3) (.cond (.tmp 14) .skip (.exit 2))) (.block 3 (.seq (.region r19_4) (.seq (.block 4 (.loop (.seq (.seq (.region r19_5) (.cond (.tmp 22) .skip (.exit 4))) (.block 5 (.region r19_6))))) (.seq (.regionD r19_7) (.seq (.regionD r19_8) (.seq (.regionD r19_9) (.regionD r19_10))))))))))) (.region r19_2)))))) (.seq (.region r19_11) (.seq (.block 6 (.loop (.seq (.seq (.region r19_12) (.cond (.tmp 64) .skip (.exit 6))) (.block 7 (.region r19_13))))) (.regionD r19_14))))
theorem x19 : (∀ (K : Env → World → Prop) (pan : List PanicEntry → World → Prop) (e : Env) (w : World), vcOps Try.prog r19_0 K pan e w = vcOps Try.prog [.op (.mov 2 (.const (.int .i64 256))) none, .keep [0, 2]] K pan e w) ∧
  (∀ (K : Env → World → Prop) (pan : List PanicEntry → World → Prop) (e : Env) (w : World), vcOps Try.prog r19_1 K pan e w = vcOps Try.prog [.op (.mov 5 (.tmp 2)) none, .op (.ari 6 .gtr .i64 (.tmp 5) (.const (.int .i64 16))) none, .keep [0, 2, 6]] K pan e w) ∧
  (∀ (K : Env → World → Prop) (pan : List PanicEntry → World → Prop) (e : Env) (w : World), vcOps Try.prog r19_3 K pan e w = vcOps Try.prog [.op (.mov 9 (.tmp 0)) none, .op (.mov 10 (.tmp 2)) none, .op (.nilCheck 11 (.tmp 9)) none, .op (.iaddrA 12 257 1 (.tmp 11) (.tmp 10)) none, .op (.load 13 (.tmp 12)) none, .op (.ari 14 .gtr .i64 (.tmp 13) (.const (.int .i64 0))) none, .keep [0, 2, 14]] K pan e w) ∧
  (∀ (K : Env → World → Prop) (pan : List PanicEntry → World → Prop) (e : Env) (w : World), vcOps Try.prog r19_4 K pan e w = vcOps Try.prog [.op (.mov 15 (.tmp 2)) none, .op (.ari 16 .sub .i64 (.tmp 15) (.const (.int .i64 2))) none, .op (.mov 3 (.tmp 16)) none, .keep [0, 2, 3]] K pan e w) ∧
  (∀ (K : Env → World → Prop) (pan : List PanicEntry → World → Prop) (e : Env) (w : World), vcOps Try.prog r19_5 K pan e w = vcOps Try.prog [.op (.mov 17 (.tmp 0)) none, .op (.mov 18 (.tmp 3)) none, .op (.nilCheck 19 (.tmp 17)) none, .op (.iaddrA 20 257 1 (.tmp 19) (.tmp 18)) none, .op (.load 21 (.tmp 20)) none, .op (.ari 22 .eql .i64 (.tmp 21) (.const (.int .i64 0))) none, .keep [0, 2, 3, 22]] K pan e w) ∧
  (∀ (K : Env → World → Prop) (pan : List PanicEntry → World → Prop) (e : Env) (w : World), vcOps Try.prog r19_6 K pan e w = vcOps Try.prog [.op (.mov 23 (.tmp 3)) none, .op (.ari 24 .sub .i64 (.tmp 23) (.const (.int .i64 1))) none, .op (.mov 3 (.tmp 24)) none, .keep [0, 2, 3]] K pan e w) ∧
  (∀ (K : Env → World → Prop) (pan : List PanicEntry → World → Prop) (e : Env) (w : World), vcOps Try.prog r19_7 K pan e w = vcOps Try.prog [.op (.mov 25 (.tmp 0)) none, .op (.mov 26 (.tmp 2)) none, .op (.nilCheck 27 (.tmp 25)) none, .op (.iaddrA 28 257 1 (.tmp 27) (.tmp 26)) none, .op (.load 29 (.tmp 28)) none, .op (.ari 30 .sub .i64 (.tmp 29) (.const (.int .i64 2))) none, .op (.nilCheck 31 (.tmp 25)) none, .op (.iaddrA 32 257 1 (.tmp 31) (.tmp 26)) none, .op (.store (.tmp 32) (.tmp 30)) none, .keep [0, 2, 3]] K pan e w) ∧
  (∀ (K : Env → World → Prop) (pan : List PanicEntry → World → Prop) (e : Env) (w : World), vcOps Try.prog r19_8 K pan e w = vcOps Try.prog [.op (.mov 33 (.tmp 0)) none, .op (.mov 34 (.tmp 2)) none, .op (.ari 35 .sub .i64 (.tmp 34) (.const (.int .i64 1))) none, .op (.nilCheck 36 (.tmp 33)) none, .op (.iaddrA 37 257 1 (.tmp 36) (.tmp 35)) none, .op (.load 38 (.tmp 37)) none, .op (.ari 39 .add .i64 (.tmp 38) (.const (.int .i64 1))) none, .op (.nilCheck 40 (.tmp 33)) none, .op (.iaddrA 41 257 1 (.tmp 40) (.tmp 35)) none, .op (.store (.tmp 41) (.tmp 39)) none, .keep [0, 2, 3]] K pan e w) ∧
  (∀ (K : Env → World → Prop) (pan : List PanicEntry → World → Prop) (e : Env) (w : World), vcOps Try.prog r19_9 K pan e w = vcOps Try.prog [.op (.mov 42 (.tmp 0)) none, .op (.mov 43 (.tmp 3)) none, .op (.ari 44 .add .i64 (.tmp 43) (.const (.int .i64 1))) none, .op (.nilCheck 45 (.tmp 42)) none, .op (.iaddrA 46 257 1 (.tmp 45) (.tmp 44)) none, .op (.load 47 (.tmp 46)) none, .op (.ari 48 .add .i64 (.tmp 47) (.const (.int .i64 2))) none, .op (.nilCheck 49 (.tmp 42)) none, .op (.iaddrA 50 257 1 (.tmp 49) (.tmp 44)) none, .op (.store (.tmp 50) (.tmp 48)) none, .keep [0, 2, 3]] K pan e w) ∧
  (∀ (K : Env → World → Prop) (pan : List PanicEntry → World → Prop) (e : Env) (w : World), vcOps Try.prog r19_10 K pan e w = vcOps Try.prog [.op (.mov 51 (.tmp 0)) none, .op (.mov 52 (.tmp 3)) none, .op (.nilCheck 53 (.tmp 51)) none, .op (.iaddrA 54 257 1 (.tmp 53) (.tmp 52)) none, .op (.load 55 (.tmp 54)) none, .op (.ari 56 .sub .i64 (.tmp 55) (.const (.int .i64 1))) none, .op (.nilCheck 57 (.tmp 51)) none, .op (.iaddrA 58 257 1 (.tmp 57) (.tmp 52)) none, .op (.store (.tmp 58) (.tmp 56)) none, .keep [0, 2]] K pan e w) ∧
  (∀ (K : Env → World → Prop) (pan : List PanicEntry → World → Prop) (e : Env) (w : World), vcOps Try.prog r19_2 K pan e w = vcOps Try.prog [.op (.mov 7 (.tmp 2)) none, .op (.ari 8 .sub .i64 (.tmp 7) (.const (.int .i64 1))) none, .op (.mov 2 (.tmp 8)) none, .keep [0, 2]] K pan e w) ∧
  (∀ (K : Env → World → Prop) (pan : List PanicEntry → World → Prop) (e : Env) (w : World), vcOps Try.prog r19_11 K pan e w = vcOps Try.prog [.op (.mov 4 (.const (.int .i64 16))) none, .keep [0, 4]] K pan e w) ∧
  (∀ (K : Env → World → Prop) (pan : List PanicEntry → World → Prop) (e : Env) (w : World), vcOps Try.prog r19_12 K pan e w = vcOps Try.prog [.op (.mov 59 (.tmp 0)) none, .op (.mov 60 (.tmp 4)) none, .op (.nilCheck 61 (.tmp 59)) none, .op (.iaddrA 62 257 1 (.tmp 61) (.tmp 60)) none, .op (.load 63 (.tmp 62)) none, .op (.ari 64 .eql .i64 (.tmp 63) (.const (.int .i64 0))) none, .keep [0, 4, 64]] K pan e w) ∧
  (∀ (K : Env → World → Prop) (pan : List PanicEntry → World → Prop) (e : Env) (w : World), vcOps Try.prog r19_13 K pan e w = vcOps Try.prog [.op (.mov 65 (.tmp 4)) none, .op (.ari 66 .sub .i64 (.tmp 65) (.const (.int .i64 1))) none, .op (.mov 4 (.tmp 66)) none, .keep [0, 4]] K pan e w) ∧
  (∀ (K : Env → World → Prop) (pan : List PanicEntry → World → Prop) (e : Env) (w : World), vcOps Try.prog r19_14 K pan e w = vcOps Try.prog [.op (.mov 67 (.tmp 0)) none, .op (.mov 68 (.tmp 4)) none, .op (.nilCheck 69 (.tmp 67)) none, .op (.iaddrA 70 257 1 (.tmp 69) (.tmp 68)) none, .op (.load 71 (.tmp 70)) none, .op (.ari 72 .sub .i64 (.tmp 71) (.const (.int .i64 1))) none, .op (.nilCheck 73 (.tmp 67)) none, .op (.iaddrA 74 257 1 (.tmp 73) (.tmp 68)) none, .op (.store (.tmp 74) (.tmp 72)) none, .keep []] K pan e w) := ⟨fun _ _ _ _ => rfl, fun _ _ _ _ => rfl, fun _ _ _ _ => rfl, fun _ _ _ _ => rfl, fun _ _ _ _ => rfl, fun _ _ _ _ => rfl, fun _ _ _ _ => rfl, fun _ _ _ _ => rfl, fun _ _ _ _ => rfl, fun _ _ _ _ => rfl, fun _ _ _ _ => rfl, fun _ _ _ _ => rfl, fun _ _ _ _ => rfl, fun _ _ _ _ => rfl, fun _ _ _ _ => rfl⟩
theorem low19 : Try.f19.body.bind (lowerC Try.prog 75 (fun i => List.lookup i [(7, [(0, 0), (1, 0), (2, 0), (3, 0), (4, 0), (5, 0), (6, 0), (7, 0), (8, 0)]), (8, [(0, 0), (1, 0), (2, 0), (3, 0), (4, 0), (5, 0), (6, 0), (7, 0), (8, 0), (9, 0)]), (9, [(0, 0), (1, 0), (2, 0), (3, 0), (4, 0), (5, 0), (6, 0), (7, 0), (8, 0), (9, 0)]), (10, [(0, 0), (1, 0), (2, 0), (3, 0), (4, 0), (5, 0), (6, 0), (7, 0), (8, 0)]), (14, [(0, 0), (1, 0), (2, 0), (3, 0), (4, 0), (5, 0), (6, 0), (7, 0), (8, 0)])])) = some c19.erase := by kernel_rfl
theorem enter19 {args : List Value} {w : World} {R : Ending → World → Prop} (ha : args.length ≤ 75) (h : vc Try.prog c19 (endPost [] R) (argEnv 0 args) w) : Calls Try.prog 19 args.toArray w R :=
  calls_of_vc Try.func19 rfl low19 rfl ha h
/-- The code of aquatint/aquatintref05.Find. -/
def r16_0 : List G := [.op (.alloc 4 43) none,
  .op (.mov 5 (.const (.bool false))) none,
  .keep [0, 1, 4]]
def r16_1 : List G := [.op (.mov 6 (.const (.int .i64 0))) none,
  .keep [0, 1, 4, 6]]
def r16_2 : List G := [.op (.mov 7 (.tmp 6)) none,
  .op (.mov 8 (.tmp 0)) none,
  .op (.lenL 9 (.tmp 8)) none,
  .op (.ari 10 .lss .i64 (.tmp 7) (.tmp 9)) none,
  .keep [0, 1, 4, 6, 10]]
def r16_4 : List G := [.op (.mov 13 (.tmp 0)) none,
  .op (.mov 14 (.tmp 6)) none,
  .op (.iaddrL 15 3 (.tmp 13) (.tmp 14)) none,
  .op (.faddr 16 0 (.tmp 15)) none,
  .op (.load 17 (.tmp 16)) none,
  .op (.mov 18 (.tmp 1)) none,
  .op (.ari 19 .eql .i64 (.tmp 17) (.tmp 18)) none,
  .keep [0, 1, 4, 6, 19]]
def r16_5 : List G := [.op (.mov 20 (.tmp 0)) none,
  .op (.mov 21 (.tmp 6)) none,
  .op (.iaddrL 22 3 (.tmp 20) (.tmp 21)) none,
  .op (.loadN 23 3 (.tmp 22)) none,
  .op (.storeN 3 (.tmp 4) (.tmp 23)) none,
  .op (.mov 5 (.const (.bool true))) none,
  .keep [4, 5]]
def r16_3 : List G := [.op (.mov 11 (.tmp 6)) none,
  .op (.ari 12 .add .i64 (.tmp 11) (.const (.int .i64 1))) none,
  .op (.mov 6 (.tmp 12)) none,
  .keep [0, 1, 4, 6]]
def r16_6 : List G := [.op (.build 24 43 []) none,
  .op (.storeN 3 (.tmp 4) (.tmp 24)) none,
  .op (.mov 5 (.const (.bool false))) none,
  .keep [4, 5]]
def c16 : C := (.seq (.region r16_0) (.seq (.seq (.region r16_1) (.block 0 (.loop (.seq (.seq (.region r16_2) (.cond (.tmp 10) .skip (.exit 0))) (.seq (.block 1 (.seq (.region r16_4) (.cond (.tmp 19) (.seq (.region r16_5) .ret) .skip))) (.region r16_3)))))) (.seq (.region r16_6) .ret)))
theorem x16 : (∀ (K : Env → World → Prop) (pan : List PanicEntry → World → Prop) (e : Env) (w : World), vcOps Try.prog r16_0 K pan e w = vcOps Try.prog [.op (.alloc 4 43) none, .op (.mov 5 (.const (.bool false))) none, .keep [0, 1, 4]] K pan e w) ∧
  (∀ (K : Env → World → Prop) (pan : List PanicEntry → World → Prop) (e : Env) (w : World), vcOps Try.prog r16_1 K pan e w = vcOps Try.prog [.op (.mov 6 (.const (.int .i64 0))) none, .keep [0, 1, 4, 6]] K pan e w) ∧
  (∀ (K : Env → World → Prop) (pan : List PanicEntry → World → Prop) (e : Env) (w : World), vcOps Try.prog r16_2 K pan e w = vcOps Try.prog [.op (.mov 7 (.tmp 6)) none, .op (.mov 8 (.tmp 0)) none, .op (.lenL 9 (.tmp 8)) none, .op (.ari 10 .lss .i64 (.tmp 7) (.tmp 9)) none, .keep [0, 1, 4, 6, 10]] K pan e w) ∧
  (∀ (K : Env → World → Prop) (pan : List PanicEntry → World → Prop) (e : Env) (w : World), vcOps Try.prog r16_4 K pan e w = vcOps Try.prog [.op (.mov 13 (.tmp 0)) none, .op (.mov 14 (.tmp 6)) none, .op (.iaddrL 15 3 (.tmp 13) (.tmp 14)) none, .op (.faddr 16 0 (.tmp 15)) none, .op (.load 17 (.tmp 16)) none, .op (.mov 18 (.tmp 1)) none, .op (.ari 19 .eql .i64 (.tmp 17) (.tmp 18)) none, .keep [0, 1, 4, 6, 19]] K pan e w) ∧
  (∀ (K : Env → World → Prop) (pan : List PanicEntry → World → Prop) (e : Env) (w : World), vcOps Try.prog r16_5 K pan e w = vcOps Try.prog [.op (.mov 20 (.tmp 0)) none, .op (.mov 21 (.tmp 6)) none, .op (.iaddrL 22 3 (.tmp 20) (.tmp 21)) none, .op (.loadN 23 3 (.tmp 22)) none, .op (.storeN 3 (.tmp 4) (.tmp 23)) none, .op (.mov 5 (.const (.bool true))) none, .keep [4, 5]] K pan e w) ∧
  (∀ (K : Env → World → Prop) (pan : List PanicEntry → World → Prop) (e : Env) (w : World), vcOps Try.prog r16_3 K pan e w = vcOps Try.prog [.op (.mov 11 (.tmp 6)) none, .op (.ari 12 .add .i64 (.tmp 11) (.const (.int .i64 1))) none, .op (.mov 6 (.tmp 12)) none, .keep [0, 1, 4, 6]] K pan e w) ∧
  (∀ (K : Env → World → Prop) (pan : List PanicEntry → World → Prop) (e : Env) (w : World), vcOps Try.prog r16_6 K pan e w = vcOps Try.prog [.op (.build 24 43 []) none, .op (.storeN 3 (.tmp 4) (.tmp 24)) none, .op (.mov 5 (.const (.bool false))) none, .keep [4, 5]] K pan e w) := ⟨fun _ _ _ _ => rfl, fun _ _ _ _ => rfl, fun _ _ _ _ => rfl, fun _ _ _ _ => rfl, fun _ _ _ _ => rfl, fun _ _ _ _ => rfl, fun _ _ _ _ => rfl⟩
theorem low16 : Try.f16.body.bind (lowerC Try.prog 25 (fun _ => none)) = some c16.erase := by kernel_rfl
theorem enter16 {args : List Value} {w : World} {R : Ending → World → Prop} (ha : args.length ≤ 25) (h : vc Try.prog c16 (endPost [.cN 4 3, .t 5] R) (argEnv 0 args) w) : Calls Try.prog 16 args.toArray w R :=
  calls_of_vc Try.func16 rfl low16 rfl ha h
/-- The code of (*aquatint/best.tree).least. -/
def r26_0 : List G := [.op (.mov 4 (.const (.int .i64 0))) none,
  .keep [0, 1]]
def r26_1 : List G := [.op (.mov 5 (.const (.int .i64 (-1)))) none,
  .keep [0, 1, 5]]
def r26_2 : List G := [.op (.mov 8 (.tmp 0)) none,
  .op (.nilCheck 9 (.tmp 8)) none,
  .op (.faddr 10 0 (.tmp 9)) none,
  .op (.loadN 11 257 (.tmp 10)) none,
  .op (.mov 12 (.const (.int .i64 0))) none,
  .keep [0, 1, 5, 11, 12]]
def r26_3 : List G := [.op (.ari 13 .lss .i64 (.tmp 12) (.const (.int .i64 257))) none,
  .keep [0, 1, 5, 11, 12, 13]]
def r26_4 : List G := [.op (.mov 14 (.tmp 12)) none,
  .op (.idxA 15 257 1 false (.tmp 11) (.tmp 12)) none,
  .op (.mov 6 (.tmp 14)) none,
  .op (.mov 7 (.tmp 15)) none,
  .keep [0, 1, 5, 6, 7, 11, 12]]
def r26_5 : List G := [.op (.mov 16 (.tmp 7)) none,
  .op (.ari 17 .gtr .i64 (.tmp 16) (.const (.int .i64 0))) none,
  .op (.mov 18 (.tmp 17)) none,
  .op (.mov 19 (.tmp 6)) (some (18, true)),
  .op (.mov 20 (.tmp 1)) (some (18, true)),
  .op (.ari 21 .neq .i64 (.tmp 19) (.tmp 20)) (some (18, true)),
  .op (.pick 22 (.tmp 18) (.tmp 21) (.const (.bool false))) none,
  .op (.mov 23 (.tmp 22)) none,
  .op (.mov 24 (.tmp 5)) (some (23, true)),
  .op (.ari 25 .lss .i64 (.tmp 24) (.const (.int .i64 0))) (some (23, true)),
  .op (.mov 26 (.tmp 25)) (some (23, true)),
  .op (.mov 27 (.tmp 7)) (some (26, false)),
  .op (.mov 28 (.tmp 0)) (some (26, false)),
  .op (.mov 29 (.tmp 5)) (some (26, false)),
  .op (.nilCheck 30 (.tmp 28)) (some (26, false)),
  .op (.faddr 31 0 (.tmp 30)) (some (26, false)),
  .op (.iaddrA 32 257 1 (.tmp 31) (.tmp 29)) (some (26, false)),
  .op (.load 33 (.tmp 32)) (some (26, false)),
  .op (.ari 34 .leq .i64 (.tmp 27) (.tmp 33)) (some (26, false)),
  .op (.pick 35 (.tmp 26) (.const (.bool true)) (.tmp 34)) (some (23, true)),
  .op (.pick 36 (.tmp 23) (.tmp 35) (.const (.bool false))) none,
  .keep [0, 1, 5, 6, 11, 12, 36]]
def r26_6 : List G := [.op (.mov 37 (.tmp 6)) none,
  .op (.mov 5 (.tmp 37)) none,
  .keep [0, 1, 5, 11, 12]]
def r26_7 : List G := [.op (.ari 38 .add .i64 (.tmp 12) (.const (.int .i64 1))) none,
  .op (.mov 12 (.tmp 38)) none,
  .keep [0, 1, 5, 11, 12]]
def r26_8 : List G := [.op (.mov 39 (.tmp 5)) none,
  .op (.mov 4 (.tmp 39)) none,
  .keep [4]]
def c26 : C := (.seq (.region r26_0) (.seq (.region r26_1) (.seq (.seq (.region r26_2) (.block 0 (.loop (.seq (.region r26_3) (.seq (.cond (.tmp 13) .skip (.exit 0)) (.seq (.block 1 (.seq (.region r26_4) (.seq (.region r26_5) (.cond (.tmp 36) (.region r26_6) .skip)))) (.region r26_7))))))) (.seq (.region r26_8) .ret))))
theorem x26 : (∀ (K : Env → World → Prop) (pan : List PanicEntry → World → Prop) (e : Env) (w : World), vcOps Try.prog r26_0 K pan e w = vcOps Try.prog [.op (.mov 4 (.const (.int .i64 0))) none, .keep [0, 1]] K pan e w) ∧
  (∀ (K : Env → World → Prop) (pan : List PanicEntry → World → Prop) (e : Env) (w : World), vcOps Try.prog r26_1 K pan e w = vcOps Try.prog [.op (.mov 5 (.const (.int .i64 (-1)))) none, .keep [0, 1, 5]] K pan e w) ∧
  (∀ (K : Env → World → Prop) (pan : List PanicEntry → World → Prop) (e : Env) (w : World), vcOps Try.prog r26_2 K pan e w = vcOps Try.prog [.op (.mov 8 (.tmp 0)) none, .op (.nilCheck 9 (.tmp 8)) none, .op (.faddr 10 0 (.tmp 9)) none, .op (.loadN 11 257 (.tmp 10)) none, .op (.mov 12 (.const (.int .i64 0))) none, .keep [0, 1, 5, 11, 12]] K pan e w) ∧
  (∀ (K : Env → World → Prop) (pan : List PanicEntry → World → Prop) (e : Env) (w : World), vcOps Try.prog r26_3 K pan e w = vcOps Try.prog [.op (.ari 13 .lss .i64 (.tmp 12) (.const (.int .i64 257))) none, .keep [0, 1, 5, 11, 12, 13]] K pan e w) ∧
  (∀ (K : Env → World → Prop) (pan : List PanicEntry → World → Prop) (e : Env) (w : World), vcOps Try.prog r26_4 K pan e w = vcOps Try.prog [.op (.mov 14 (.tmp 12)) none, .op (.idxA 15 257 1 false (.tmp 11) (.tmp 12)) none, .op (.mov 6 (.tmp 14)) none, .op (.mov 7 (.tmp 15)) none, .keep [0, 1, 5, 6, 7, 11, 12]] K pan e w) ∧
  (∀ (K : Env → World → Prop) (pan : List PanicEntry → World → Prop) (e : Env) (w : World), vcOps Try.prog r26_5 K pan e w = vcOps Try.prog [.op (.mov 16 (.tmp 7)) none, .op (.ari 17 .gtr .i64 (.tmp 16) (.const (.int .i64 0))) none, .op (.mov 18 (.tmp 17)) none, .op (.mov 19 (.tmp 6)) (some (18, true)), .op (.mov 20 (.tmp 1)) (some (18, true)), .op (.ari 21 .neq .i64 (.tmp 19) (.tmp 20)) (some (18, true)), .op (.pick 22 (.tmp 18) (.tmp 21) (.const (.bool false))) none, .op (.mov 23 (.tmp 22)) none, .op (.mov 24 (.tmp 5)) (some (23, true)), .op (.ari 25 .lss .i64 (.tmp 24) (.const (.int .i64 0))) (some (23, true)), .op (.mov 26 (.tmp 25)) (some (23, true)), .op (.mov 27 (.tmp 7)) (some (26, false)), .op (.mov 28 (.tmp 0)) (some (26, false)), .op (.mov 29 (.tmp 5)) (some (26, false)), .op (.nilCheck 30 (.tmp 28)) (some (26, false)), .op (.faddr 31 0 (.tmp 30)) (some (26, false)), .op (.iaddrA 32 257 1 (.tmp 31) (.tmp 29)) (some (26, false)), .op (.load 33 (.tmp 32)) (some (26, false)), .op (.ari 34 .leq .i64 (.tmp 27) (.tmp 33)) (some (26, false)), .op (.pick 35 (.tmp 26) (.const (.bool true)) (.tmp 34)) (some (23, true)), .op (.pick 36 (.tmp 23) (.tmp 35) (.const (.bool false))) none, .keep [0, 1, 5, 6, 11, 12, 36]] K pan e w) ∧
  (∀ (K : Env → World → Prop) (pan : List PanicEntry → World → Prop) (e : Env) (w : World), vcOps Try.prog r26_6 K pan e w = vcOps Try.prog [.op (.mov 37 (.tmp 6)) none, .op (.mov 5 (.tmp 37)) none, .keep [0, 1, 5, 11, 12]] K pan e w) ∧
  (∀ (K : Env → World → Prop) (pan : List PanicEntry → World → Prop) (e : Env) (w : World), vcOps Try.prog r26_7 K pan e w = vcOps Try.prog [.op (.ari 38 .add .i64 (.tmp 12) (.const (.int .i64 1))) none, .op (.mov 12 (.tmp 38)) none, .keep [0, 1, 5, 11, 12]] K pan e w) ∧
  (∀ (K : Env → World → Prop) (pan : List PanicEntry → World → Prop) (e : Env) (w : World), vcOps Try.prog r26_8 K pan e w = vcOps Try.prog [.op (.mov 39 (.tmp 5)) none, .op (.mov 4 (.tmp 39)) none, .keep [4]] K pan e w) := ⟨fun _ _ _ _ => rfl, fun _ _ _ _ => rfl, fun _ _ _ _ => rfl, fun _ _ _ _ => rfl, fun _ _ _ _ => rfl, fun _ _ _ _ => rfl, fun _ _ _ _ => rfl, fun _ _ _ _ => rfl, fun _ _ _ _ => rfl⟩
theorem low26 : Try.f26.body.bind (lowerC Try.prog 40 (fun _ => none)) = some c26.erase := by kernel_rfl
theorem enter26 {args : List Value} {w : World} {R : Ending → World → Prop} (ha : args.length ≤ 40) (h : vc Try.prog c26 (endPost [.t 4] R) (argEnv 0 args) w) : Calls Try.prog 26 args.toArray w R :=
  calls_of_vc Try.func26 rfl low26 rfl ha h
/-- The code of (*aquatint/best.tree).longer. -/
def r27_0 : List G := [.op (.mov 4 (.const (.int .i64 0))) none,
  .keep [0, 1]]
def r27_1 : List G := [.op (.mov 5 (.tmp 0)) none,
  .op (.mov 6 (.tmp 1)) none,
  .op (.nilCheck 7 (.tmp 5)) none,
  .op (.faddr 8 257 (.tmp 7)) none,
  .op (.iaddrA 9 257 1 (.tmp 8) (.tmp 6)) none,
  .op (.load 10 (.tmp 9)) none,
  .op (.ari 11 .add .i64 (.tmp 10) (.const (.int .i64 1))) none,
  .op (.nilCheck 12 (.tmp 5)) none,
  .op (.faddr 13 257 (.tmp 12)) none,
  .op (.iaddrA 14 257 1 (.tmp 13) (.tmp 6)) none,
  .op (.store (.tmp 14) (.tmp 11)) none,
  .keep [0, 1]]
def r27_2 : List G := [.op (.mov 15 (.tmp 0)) none,
  .op (.mov 16 (.tmp 1)) none,
  .op (.nilCheck 17 (.tmp 15)) none,
  .op (.faddr 18 514 (.tmp 17)) none,
  .op (.iaddrA 19 257 1 (.tmp 18) (.tmp 16)) none,
  .op (.load 20 (.tmp 19)) none,
  .op (.ari 21 .lss .i64 (.tmp 20) (.const (.int .i64 0))) none,
  .keep [0, 1, 21]]
def r27_3 : List G := [.op (.mov 22 (.tmp 1)) none,
  .op (.mov 4 (.tmp 22)) none,
  .keep [4]]
def r27_4 : List G := [.op (.mov 23 (.tmp 0)) none,
  .op (.mov 24 (.tmp 1)) none,
  .op (.nilCheck 25 (.tmp 23)) none,
  .op (.faddr 26 514 (.tmp 25)) none,
  .op (.iaddrA 27 257 1 (.tmp 26) (.tmp 24)) none,
  .op (.load 28 (.tmp 27)) none,
  .op (.mov 1 (.tmp 28)) none,
  .keep [0, 1]]
def c27 : C := (.seq (.region r27_0) (.block 0 (.loop (.block 1 (.seq (.regionD r27_1) (.seq (.seq (.region r27_2) (.cond (.tmp 21) (.seq (.region r27_3) .ret) .skip)) (.region r27_4)))))))
theorem x27 : (∀ (K : Env → World → Prop) (pan : List PanicEntry → World → Prop) (e : Env) (w : World), vcOps Try.prog r27_0 K pan e w = vcOps Try.prog [.op (.mov 4 (.const (.int .i64 0))) none, .keep [0, 1]] K pan e w) ∧
  (∀ (K : Env → World → Prop) (pan : List PanicEntry → World → Prop) (e : Env) (w : World), vcOps Try.prog r27_1 K pan e w = vcOps Try.prog [.op (.mov 5 (.tmp 0)) none, .op (.mov 6 (.tmp 1)) none, .op (.nilCheck 7 (.tmp 5)) none, .op (.faddr 8 257 (.tmp 7)) none, .op (.iaddrA 9 257 1 (.tmp 8) (.tmp 6)) none, .op (.load 10 (.tmp 9)) none, .op (.ari 11 .add .i64 (.tmp 10) (.const (.int .i64 1))) none, .op (.nilCheck 12 (.tmp 5)) none, .op (.faddr 13 257 (.tmp 12)) none, .op (.iaddrA 14 257 1 (.tmp 13) (.tmp 6)) none, .op (.store (.tmp 14) (.tmp 11)) none, .keep [0, 1]] K pan e w) ∧
  (∀ (K : Env → World → Prop) (pan : List PanicEntry → World → Prop) (e : Env) (w : World), vcOps Try.prog r27_2 K pan e w = vcOps Try.prog [.op (.mov 15 (.tmp 0)) none, .op (.mov 16 (.tmp 1)) none, .op (.nilCheck 17 (.tmp 15)) none, .op (.faddr 18 514 (.tmp 17)) none, .op (.iaddrA 19 257 1 (.tmp 18) (.tmp 16)) none, .op (.load 20 (.tmp 19)) none, .op (.ari 21 .lss .i64 (.tmp 20) (.const (.int .i64 0))) none, .keep [0, 1, 21]] K pan e w) ∧
  (∀ (K : Env → World → Prop) (pan : List PanicEntry → World → Prop) (e : Env) (w : World), vcOps Try.prog r27_3 K pan e w = vcOps Try.prog [.op (.mov 22 (.tmp 1)) none, .op (.mov 4 (.tmp 22)) none, .keep [4]] K pan e w) ∧
  (∀ (K : Env → World → Prop) (pan : List PanicEntry → World → Prop) (e : Env) (w : World), vcOps Try.prog r27_4 K pan e w = vcOps Try.prog [.op (.mov 23 (.tmp 0)) none, .op (.mov 24 (.tmp 1)) none, .op (.nilCheck 25 (.tmp 23)) none, .op (.faddr 26 514 (.tmp 25)) none, .op (.iaddrA 27 257 1 (.tmp 26) (.tmp 24)) none, .op (.load 28 (.tmp 27)) none, .op (.mov 1 (.tmp 28)) none, .keep [0, 1]] K pan e w) := ⟨fun _ _ _ _ => rfl, fun _ _ _ _ => rfl, fun _ _ _ _ => rfl, fun _ _ _ _ => rfl, fun _ _ _ _ => rfl⟩
theorem low27 : Try.f27.body.bind (lowerC Try.prog 29 (fun i => List.lookup i [(1, [(0, 0), (1, 0), (2, 0), (3, 0), (4, 0), (5, 0), (6, 0), (7, 0), (8, 0), (9, 0), (10, 0)])])) = some c27.erase := by kernel_rfl
theorem enter27 {args : List Value} {w : World} {R : Ending → World → Prop} (ha : args.length ≤ 29) (h : vc Try.prog c27 (endPost [.t 4] R) (argEnv 0 args) w) : Calls Try.prog 27 args.toArray w R :=
  calls_of_vc Try.func27 rfl low27 rfl ha h
/-- The code of aquatint/aquatintref06.Least. -/
def r30_0 : List G := [.op (.mov 4 (.const (.int .i64 0))) none,
  .keep [0, 1]]
def r30_1 : List G := [.op (.mov 5 (.const (.int .i64 (-1)))) none,
  .keep [0, 1, 5]]
def r30_2 : List G := [.op (.mov 6 (.const (.int .i64 0))) none,
  .keep [0, 1, 5, 6]]
def r30_3 : List G := [.op (.mov 7 (.tmp 6)) none,
  .op (.mov 8 (.tmp 0)) none,
  .op (.lenL 9 (.tmp 8)) none,
  .op (.ari 10 .lss .i64 (.tmp 7) (.tmp 9)) none,
  .keep [0, 1, 5, 6, 10]]
def r30_5 : List G := [.op (.mov 13 (.tmp 6)) none,
  .op (.mov 14 (.tmp 1)) none,
  .op (.ari 15 .eql .i64 (.tmp 13) (.tmp 14)) none,
  .keep [0, 1, 5, 6, 15]]
def r30_6 : List G := [.op (.mov 16 (.tmp 5)) none,
  .op (.ari 17 .lss .i64 (.tmp 16) (.const (.int .i64 0))) none,
  .op (.mov 18 (.tmp 17)) none,
  .op (.mov 19 (.tmp 0)) (some (18, false)),
  .op (.mov 20 (.tmp 6)) (some (18, false)),
  .op (.iaddrL 21 3 (.tmp 19) (.tmp 20)) (some (18, false)),
  .op (.faddr 22 1 (.tmp 21)) (some (18, false)),
  .op (.load 23 (.tmp 22)) (some (18, false)),
  .op (.mov 24 (.tmp 0)) (some (18, false)),
  .op (.mov 25 (.tmp 5)) (some (18, false)),
  .op (.iaddrL 26 3 (.tmp 24) (.tmp 25)) (some (18, false)),
  .op (.faddr 27 1 (.tmp 26)) (some (18, false)),
  .op (.load 28 (.tmp 27)) (some (18, false)),
  .op (.ari 29 .lss .i64 (.tmp 23) (.tmp 28)) (some (18, false)),
  .op (.pick 30 (.tmp 18) (.const (.bool true)) (.tmp 29)) none,
  .op (.mov 31 (.tmp 30)) none,
  .op (.mov 32 (.tmp 0)) (some (31, false)),
  .op (.mov 33 (.tmp 6)) (some (31, false)),
  .op (.iaddrL 34 3 (.tmp 32) (.tmp 33)) (some (31, false)),
  .op (.faddr 35 1 (.tmp 34)) (some (31, false)),
  .op (.load 36 (.tmp 35)) (some (31, false)),
  .op (.mov 37 (.tmp 0)) (some (31, false)),
  .op (.mov 38 (.tmp 5)) (some (31, false)),
  .op (.iaddrL 39 3 (.tmp 37) (.tmp 38)) (some (31, false)),
  .op (.faddr 40 1 (.tmp 39)) (some (31, false)),
  .op (.load 41 (.tmp 40)) (some (31, false)),
  .op (.ari 42 .eql .i64 (.tmp 36) (.tmp 41)) (some (31, false)),
  .op (.mov 43 (.tmp 42)) (some (31, false)),
  .op (.mov 44 (.tmp 0)) (some (43, true)),
  .op (.mov 45 (.tmp 6)) (some (43, true)),
  .op (.iaddrL 46 3 (.tmp 44) (.tmp 45)) (some (43, true)),
  .op (.faddr 47 0 (.tmp 46)) (some (43, true)),
  .op (.load 48 (.tmp 47)) (some (43, true)),
  .op (.mov 49 (.tmp 0)) (some (43, true)),
  .op (.mov 50 (.tmp 5)) (some (43, true)),
  .op (.iaddrL 51 3 (.tmp 49) (.tmp 50)) (some (43, true)),
  .op (.faddr 52 0 (.tmp 51)) (some (43, true)),
  .op (.load 53 (.tmp 52)) (some (43, true)),
  .op (.ari 54 .gtr .i64 (.tmp 48) (.tmp 53)) (some (43, true)),
  .op (.pick 55 (.tmp 43) (.tmp 54) (.const (.bool false))) (some (31, false)),
  .op (.pick 56 (.tmp 31) (.const (.bool true)) (.tmp 55)) none,
  .keep [0, 1, 5, 6, 56]]
def r30_7 : List G := [.op (.mov 57 (.tmp 6)) none,
  .op (.mov 5 (.tmp 57)) none,
  .keep [0, 1, 5, 6]]
def r30_4 : List G := [.op (.mov 11 (.tmp 6)) none,
  .op (.ari 12 .add .i64 (.tmp 11) (.const (.int .i64 1))) none,
  .op (.mov 6 (.tmp 12)) none,
  .keep [0, 1, 5, 6]]
def r30_8 : List G := [.op (.mov 58 (.tmp 5)) none,
  .op (.mov 4 (.tmp 58)) none,
  .keep [4]]
def c30 : C := (.seq (.region r30_0) (.seq (.region r30_1) (.seq (.seq (.region r30_2) (.block 0 (.loop (.seq (.seq (.region r30_3) (.cond (.tmp 10) .skip (.exit 0))) (.seq (.block 1 (.seq (.seq (.region r30_5) (.cond (.tmp 15) (.exit 1) .skip)) (.seq (.regionD r30_6) (.cond (.tmp 56) (.region r30_7) .skip)))) (.region r30_4)))))) (.seq (.region r30_8) .ret))))
theorem x30 : (∀ (K : Env → World → Prop) (pan : List PanicEntry → World → Prop) (e : Env) (w : World), vcOps Try.prog r30_0 K pan e w = vcOps Try.prog [.op (.mov 4 (.const (.int .i64 0))) none, .keep [0, 1]] K pan e w) ∧
  (∀ (K : Env → World → Prop) (pan : List PanicEntry → World → Prop) (e : Env) (w : World), vcOps Try.prog r30_1 K pan e w = vcOps Try.prog [.op (.mov 5 (.const (.int .i64 (-1)))) none, .keep [0, 1, 5]] K pan e w) ∧
  (∀ (K : Env → World → Prop) (pan : List PanicEntry → World → Prop) (e : Env) (w : World), vcOps Try.prog r30_2 K pan e w = vcOps Try.prog [.op (.mov 6 (.const (.int .i64 0))) none, .keep [0, 1, 5, 6]] K pan e w) ∧
  (∀ (K : Env → World → Prop) (pan : List PanicEntry → World → Prop) (e : Env) (w : World), vcOps Try.prog r30_3 K pan e w = vcOps Try.prog [.op (.mov 7 (.tmp 6)) none, .op (.mov 8 (.tmp 0)) none, .op (.lenL 9 (.tmp 8)) none, .op (.ari 10 .lss .i64 (.tmp 7) (.tmp 9)) none, .keep [0, 1, 5, 6, 10]] K pan e w) ∧
  (∀ (K : Env → World → Prop) (pan : List PanicEntry → World → Prop) (e : Env) (w : World), vcOps Try.prog r30_5 K pan e w = vcOps Try.prog [.op (.mov 13 (.tmp 6)) none, .op (.mov 14 (.tmp 1)) none, .op (.ari 15 .eql .i64 (.tmp 13) (.tmp 14)) none, .keep [0, 1, 5, 6, 15]] K pan e w) ∧
  (∀ (K : Env → World → Prop) (pan : List PanicEntry → World → Prop) (e : Env) (w : World), vcOps Try.prog r30_6 K pan e w = vcOps Try.prog [.op (.mov 16 (.tmp 5)) none, .op (.ari 17 .lss .i64 (.tmp 16) (.const (.int .i64 0))) none, .op (.mov 18 (.tmp 17)) none, .op (.mov 19 (.tmp 0)) (some (18, false)), .op (.mov 20 (.tmp 6)) (some (18, false)), .op (.iaddrL 21 3 (.tmp 19) (.tmp 20)) (some (18, false)), .op (.faddr 22 1 (.tmp 21)) (some (18, false)), .op (.load 23 (.tmp 22)) (some (18, false)), .op (.mov 24 (.tmp 0)) (some (18, false)), .op (.mov 25 (.tmp 5)) (some (18, false)), .op (.iaddrL 26 3 (.tmp 24) (.tmp 25)) (some (18, false)), .op (.faddr 27 1 (.tmp 26)) (some (18, false)), .op (.load 28 (.tmp 27)) (some (18, false)), .op (.ari 29 .lss .i64 (.tmp 23) (.tmp 28)) (some (18, false)), .op (.pick 30 (.tmp 18) (.const (.bool true)) (.tmp 29)) none, .op (.mov 31 (.tmp 30)) none, .op (.mov 32 (.tmp 0)) (some (31, false)), .op (.mov 33 (.tmp 6)) (some (31, false)), .op (.iaddrL 34 3 (.tmp 32) (.tmp 33)) (some (31, false)), .op (.faddr 35 1 (.tmp 34)) (some (31, false)), .op (.load 36 (.tmp 35)) (some (31, false)), .op (.mov 37 (.tmp 0)) (some (31, false)), .op (.mov 38 (.tmp 5)) (some (31, false)), .op (.iaddrL 39 3 (.tmp 37) (.tmp 38)) (some (31, false)), .op (.faddr 40 1 (.tmp 39)) (some (31, false)), .op (.load 41 (.tmp 40)) (some (31, false)), .op (.ari 42 .eql .i64 (.tmp 36) (.tmp 41)) (some (31, false)), .op (.mov 43 (.tmp 42)) (some (31, false)), .op (.mov 44 (.tmp 0)) (some (43, true)), .op (.mov 45 (.tmp 6)) (some (43, true)), .op (.iaddrL 46 3 (.tmp 44) (.tmp 45)) (some (43, true)), .op (.faddr 47 0 (.tmp 46)) (some (43, true)), .op (.load 48 (.tmp 47)) (some (43, true)), .op (.mov 49 (.tmp 0)) (some (43, true)), .op (.mov 50 (.tmp 5)) (some (43, true)), .op (.iaddrL 51 3 (.tmp 49) (.tmp 50)) (some (43, true)), .op (.faddr 52 0 (.tmp 51)) (some (43, true)), .op (.load 53 (.tmp 52)) (some (43, true)), .op (.ari 54 .gtr .i64 (.tmp 48) (.tmp 53)) (some (43, true)), .op (.pick 55 (.tmp 43) (.tmp 54) (.const (.bool false))) (some (31, false)), .op (.pick 56 (.tmp 31) (.const (.bool true)) (.tmp 55)) none, .keep [0, 1, 5, 6, 56]] K pan e w) ∧
  (∀ (K : Env → World → Prop) (pan : List PanicEntry → World → Prop) (e : Env) (w : World), vcOps Try.prog r30_7 K pan e w = vcOps Try.prog [.op (.mov 57 (.tmp 6)) none, .op (.mov 5 (.tmp 57)) none, .keep [0, 1, 5, 6]] K pan e w) ∧
  (∀ (K : Env → World → Prop) (pan : List PanicEntry → World → Prop) (e : Env) (w : World), vcOps Try.prog r30_4 K pan e w = vcOps Try.prog [.op (.mov 11 (.tmp 6)) none, .op (.ari 12 .add .i64 (.tmp 11) (.const (.int .i64 1))) none, .op (.mov 6 (.tmp 12)) none, .keep [0, 1, 5, 6]] K pan e w) ∧
  (∀ (K : Env → World → Prop) (pan : List PanicEntry → World → Prop) (e : Env) (w : World), vcOps Try.prog r30_8 K pan e w = vcOps Try.prog [.op (.mov 58 (.tmp 5)) none, .op (.mov 4 (.tmp 58)) none, .keep [4]] K pan e w) := ⟨fun _ _ _ _ => rfl, fun _ _ _ _ => rfl, fun _ _ _ _ => rfl, fun _ _ _ _ => rfl, fun _ _ _ _ => rfl, fun _ _ _ _ => rfl, fun _ _ _ _ => rfl, fun _ _ _ _ => rfl, fun _ _ _ _ => rfl⟩
theorem low30 : Try.f30.body.bind (lowerC Try.prog 59 (fun i => List.lookup i [(6, [(0, 0), (1, 0), (2, 0), (3, 0), (4, 0), (5, 0), (6, 0), (7, 0), (8, 0), (9, 0), (10, 0), (11, 0), (12, 0), (13, 0), (14, 0), (15, 0), (16, 0), (17, 0), (18, 0), (19, 0), (20, 0), (21, 0), (22, 0), (23, 0), (24, 0), (25, 0), (26, 0), (27, 0), (28, 0), (29, 0), (30, 0), (31, 0), (32, 0), (33, 0), (34, 0), (35, 0), (36, 0), (37, 0), (38, 0), (39, 0), (40, 0)])])) = some c30.erase := by kernel_rfl
theorem enter30 {args : List Value} {w : World} {R : Ending → World → Prop} (ha : args.length ≤ 59) (h : vc Try.prog c30 (endPost [.t 4] R) (argEnv 0 args) w) : Calls Try.prog 30 args.toArray w R :=
  calls_of_vc Try.func30 rfl low30 rfl ha h
end Go.Proofs.Ytomckpllbihikaa
