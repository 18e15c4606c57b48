/-
  The code of the document's edits, read. Conditions: none.
-/
import Derived.Test.YtgibicifflfpfaaDoorE1
set_option autoImplicit false
set_option linter.unusedSimpArgs false
set_option linter.unusedVariables false
namespace Go.Proofs.YtgibicifflfpfaaDoor
open X
set_option maxRecDepth 100000
/-- The code of aquatint/aquatintref21.Clean. -/
def r10_0 : List G := [.op (.box 1 23 (.tmp 0)) none,
  .op (.mov 2 (.const (.bool false))) none,
  .keep [1]]
def r10_1 : List G := [.op (.faddr 5 1 (.tmp 1)) none,
  .op (.load 6 (.tmp 5)) none,
  .op (.faddr 7 2 (.tmp 1)) none,
  .op (.load 8 (.tmp 7)) none,
  .op (.faddr 9 3 (.tmp 1)) none,
  .op (.load 10 (.tmp 9)) none,
  .op (.faddr 11 4 (.tmp 1)) none,
  .op (.load 12 (.tmp 11)) none,
  .op (.bslice 13 3 4 1 [(0, 1, (.tmp 6)), (1, 1, (.tmp 8)), (2, 1, (.tmp 10)), (3, 1, (.tmp 12))]) none,
  .op (.mov 3 (.tmp 13)) none,
  .keep [1, 3]]
def r10_2 : List G := [.op (.mov 4 (.const (.int .i64 0))) none,
  .keep [1, 3, 4]]
def r10_3 : List G := [.op (.mov 14 (.tmp 4)) none,
  .op (.ari 15 .lss .i64 (.tmp 14) (.const (.int .i64 4))) none,
  .keep [1, 3, 4, 15]]
def r10_5 : List G := [.op (.mov 18 (.tmp 3)) none,
  .op (.mov 19 (.tmp 4)) none,
  .op (.iaddrL 20 1 (.tmp 18) (.tmp 19)) none,
  .op (.load 21 (.tmp 20)) none,
  .op (.ari 22 .lss .i64 (.tmp 21) (.const (.int .i64 0))) none,
  .op (.mov 23 (.tmp 22)) none,
  .op (.mov 24 (.tmp 3)) (some (23, false)),
  .op (.mov 25 (.tmp 4)) (some (23, false)),
  .op (.iaddrL 26 1 (.tmp 24) (.tmp 25)) (some (23, false)),
  .op (.load 27 (.tmp 26)) (some (23, false)),
  .op (.ari 28 .gtr .i64 (.tmp 27) (.const (.int .i64 2147483647))) (some (23, false)),
  .op (.pick 29 (.tmp 23) (.const (.bool true)) (.tmp 28)) none,
  .keep [1, 3, 4, 29]]
def r10_6 : List G := [.op (.mov 2 (.const (.bool false))) none,
  .keep [2]]
def r10_4 : List G := [.op (.mov 16 (.tmp 4)) none,
  .op (.ari 17 .add .i64 (.tmp 16) (.const (.int .i64 1))) none,
  .op (.mov 4 (.tmp 17)) none,
  .keep [1, 3, 4]]
def r10_7 : List G := [.op (.faddr 30 0 (.tmp 1)) none,
  .op (.load 31 (.tmp 30)) none,
  .keep [1, 31]]
def r10_8 : List G := [.op (.ari 33 .eql .i64 (.tmp 31) (.const (.int .i64 0))) none,
  .op (.mov 32 (.tmp 33)) none,
  .keep [1, 31, 32]]
def r10_9 : List G := [.op (.faddr 34 1 (.tmp 1)) none,
  .op (.load 35 (.tmp 34)) none,
  .op (.ari 36 .leq .i64 (.tmp 35) (.const (.int .i64 7))) none,
  .op (.mov 37 (.tmp 36)) none,
  .op (.faddr 38 2 (.tmp 1)) (some (37, true)),
  .op (.load 39 (.tmp 38)) (some (37, true)),
  .op (.ari 40 .eql .i64 (.tmp 39) (.const (.int .i64 0))) (some (37, true)),
  .op (.pick 41 (.tmp 37) (.tmp 40) (.const (.bool false))) none,
  .op (.mov 42 (.tmp 41)) none,
  .op (.faddr 43 3 (.tmp 1)) (some (42, true)),
  .op (.load 44 (.tmp 43)) (some (42, true)),
  .op (.ari 45 .eql .i64 (.tmp 44) (.const (.int .i64 0))) (some (42, true)),
  .op (.pick 46 (.tmp 42) (.tmp 45) (.const (.bool false))) none,
  .op (.mov 47 (.tmp 46)) none,
  .op (.faddr 48 4 (.tmp 1)) (some (47, true)),
  .op (.load 49 (.tmp 48)) (some (47, true)),
  .op (.ari 50 .eql .i64 (.tmp 49) (.const (.int .i64 0))) (some (47, true)),
  .op (.pick 51 (.tmp 47) (.tmp 50) (.const (.bool false))) none,
  .op (.mov 52 (.tmp 51)) none,
  .op (.faddr 53 5 (.tmp 1)) (some (52, true)),
  .op (.load 54 (.tmp 53)) (some (52, true)),
  .op (.sop 55 .eql (.tmp 54) (.const (.string { data := #[] }))) (some (52, true)),
  .op (.pick 56 (.tmp 52) (.tmp 55) (.const (.bool false))) none,
  .op (.mov 2 (.tmp 56)) none,
  .keep [2]]
def r10_10 : List G := [.op (.ari 58 .eql .i64 (.tmp 31) (.const (.int .i64 1))) none,
  .op (.mov 57 (.tmp 58)) none,
  .keep [1, 31, 57]]
def r10_11 : List G := [.op (.ari 59 .eql .i64 (.tmp 31) (.const (.int .i64 2))) none,
  .op (.mov 57 (.tmp 59)) none,
  .keep [1, 31, 57]]
def r10_12 : List G := [.op (.faddr 60 5 (.tmp 1)) none,
  .op (.load 61 (.tmp 60)) none,
  .op (.sop 62 .eql (.tmp 61) (.const (.string { data := #[] }))) none,
  .op (.mov 2 (.tmp 62)) none,
  .keep [2]]
def r10_13 : List G := [.op (.ari 64 .eql .i64 (.tmp 31) (.const (.int .i64 3))) none,
  .op (.mov 63 (.tmp 64)) none,
  .keep [1, 31, 63]]
def r10_14 : List G := [.op (.faddr 65 2 (.tmp 1)) none,
  .op (.load 66 (.tmp 65)) none,
  .op (.ari 67 .leq .i64 (.tmp 66) (.const (.int .i64 255))) none,
  .op (.mov 68 (.tmp 67)) none,
  .op (.faddr 69 3 (.tmp 1)) (some (68, true)),
  .op (.load 70 (.tmp 69)) (some (68, true)),
  .op (.ari 71 .eql .i64 (.tmp 70) (.const (.int .i64 0))) (some (68, true)),
  .op (.pick 72 (.tmp 68) (.tmp 71) (.const (.bool false))) none,
  .op (.mov 73 (.tmp 72)) none,
  .op (.faddr 74 4 (.tmp 1)) (some (73, true)),
  .op (.load 75 (.tmp 74)) (some (73, true)),
  .op (.ari 76 .eql .i64 (.tmp 75) (.const (.int .i64 0))) (some (73, true)),
  .op (.pick 77 (.tmp 73) (.tmp 76) (.const (.bool false))) none,
  .op (.mov 2 (.tmp 77)) none,
  .keep [2]]
def r10_15 : List G := [.op (.ari 79 .eql .i64 (.tmp 31) (.const (.int .i64 4))) none,
  .op (.mov 78 (.tmp 79)) none,
  .keep [1, 31, 78]]
def r10_16 : List G := [.op (.faddr 80 2 (.tmp 1)) none,
  .op (.load 81 (.tmp 80)) none,
  .op (.ari 82 .eql .i64 (.tmp 81) (.const (.int .i64 0))) none,
  .op (.mov 83 (.tmp 82)) none,
  .op (.faddr 84 3 (.tmp 1)) (some (83, true)),
  .op (.load 85 (.tmp 84)) (some (83, true)),
  .op (.ari 86 .eql .i64 (.tmp 85) (.const (.int .i64 0))) (some (83, true)),
  .op (.pick 87 (.tmp 83) (.tmp 86) (.const (.bool false))) none,
  .op (.mov 88 (.tmp 87)) none,
  .op (.faddr 89 4 (.tmp 1)) (some (88, true)),
  .op (.load 90 (.tmp 89)) (some (88, true)),
  .op (.ari 91 .eql .i64 (.tmp 90) (.const (.int .i64 0))) (some (88, true)),
  .op (.pick 92 (.tmp 88) (.tmp 91) (.const (.bool false))) none,
  .op (.mov 93 (.tmp 92)) none,
  .op (.faddr 94 5 (.tmp 1)) (some (93, true)),
  .op (.load 95 (.tmp 94)) (some (93, true)),
  .op (.sop 96 .eql (.tmp 95) (.const (.string { data := #[] }))) (some (93, true)),
  .op (.pick 97 (.tmp 93) (.tmp 96) (.const (.bool false))) none,
  .op (.mov 2 (.tmp 97)) none,
  .keep [2]]
def r10_17 : List G := [.op (.ari 99 .eql .i64 (.tmp 31) (.const (.int .i64 5))) none,
  .op (.mov 98 (.tmp 99)) none,
  .keep [1, 98]]
def r10_18 : List G := [.op (.faddr 100 1 (.tmp 1)) none,
  .op (.load 101 (.tmp 100)) none,
  .op (.ari 102 .eql .i64 (.tmp 101) (.const (.int .i64 0))) none,
  .op (.mov 103 (.tmp 102)) none,
  .op (.faddr 104 2 (.tmp 1)) (some (103, true)),
  .op (.load 105 (.tmp 104)) (some (103, true)),
  .op (.ari 106 .eql .i64 (.tmp 105) (.const (.int .i64 0))) (some (103, true)),
  .op (.pick 107 (.tmp 103) (.tmp 106) (.const (.bool false))) none,
  .op (.mov 108 (.tmp 107)) none,
  .op (.faddr 109 3 (.tmp 1)) (some (108, true)),
  .op (.load 110 (.tmp 109)) (some (108, true)),
  .op (.ari 111 .eql .i64 (.tmp 110) (.const (.int .i64 0))) (some (108, true)),
  .op (.pick 112 (.tmp 108) (.tmp 111) (.const (.bool false))) none,
  .op (.mov 113 (.tmp 112)) none,
  .op (.faddr 114 4 (.tmp 1)) (some (113, true)),
  .op (.load 115 (.tmp 114)) (some (113, true)),
  .op (.ari 116 .eql .i64 (.tmp 115) (.const (.int .i64 0))) (some (113, true)),
  .op (.pick 117 (.tmp 113) (.tmp 116) (.const (.bool false))) none,
  .op (.mov 2 (.tmp 117)) none,
  .keep [2]]
def r10_19 : List G := [.op (.mov 2 (.const (.bool false))) none,
  .keep [2]]
def c10 : C := (.seq (.region r10_0) (.seq (.region r10_1) (.seq (.seq (.region r10_2) (.block 0 (.loop (.seq (.seq (.region r10_3) (.cond (.tmp 15) .skip (.exit 0))) (.seq (.block 1 (.seq (.region r10_5) (.cond (.tmp 29) (.seq (.region r10_6) .ret) .skip))) (.region r10_4)))))) (.seq (.seq (.region r10_7) (.block 2 (.seq (.region r10_8) (.cond (.tmp 32) (.seq (.region r10_9) .ret) (.seq (.seq (.region r10_10) (.cond (.tmp 57) .skip (.region r10_11))) (.cond (.tmp 57) (.seq (.region r10_12) .ret) (.seq (.region r10_13) (.cond (.tmp 63) (.seq (.region r10_14) .ret) (.seq (.region r10_15) (.cond (.tmp 78) (.seq (.region r10_16) .ret) (.seq (.region r10_17) (.cond (.tmp 98) (.seq (.region r10_18) .ret) .skip)))))))))))) (.seq (.region r10_19) .ret)))))
def x10 := PLift.up (andx (ux Tryd.prog r10_0.eq_1) (andx (ux Tryd.prog r10_1.eq_1) (andx (ux Tryd.prog r10_2.eq_1) (andx (ux Tryd.prog r10_3.eq_1) (andx (ux Tryd.prog r10_5.eq_1) (andx (ux Tryd.prog r10_6.eq_1) (andx (ux Tryd.prog r10_4.eq_1) (andx (ux Tryd.prog r10_7.eq_1) (andx (ux Tryd.prog r10_8.eq_1) (andx (ux Tryd.prog r10_9.eq_1) (andx (ux Tryd.prog r10_10.eq_1) (andx (ux Tryd.prog r10_11.eq_1) (andx (ux Tryd.prog r10_12.eq_1) (andx (ux Tryd.prog r10_13.eq_1) (andx (ux Tryd.prog r10_14.eq_1) (andx (ux Tryd.prog r10_15.eq_1) (andx (ux Tryd.prog r10_16.eq_1) (andx (ux Tryd.prog r10_17.eq_1) (andx (ux Tryd.prog r10_18.eq_1) (ux Tryd.prog r10_19.eq_1))))))))))))))))))))
theorem low10 : Tryd.f10.body.bind (lowerC Tryd.prog 118 (fun _ => none)) = some c10.erase := by kernel_rfl
theorem enter10 {args : List Value} {w : World} {R : Ending → World → Prop} (ha : args.length ≤ 118) (h : vc Tryd.prog c10 (endPost [.t 2] R) (argEnv 0 args) w) : Calls Tryd.prog 10 args.toArray w R :=
  calls_of_vc Tryd.func10 rfl low10 rfl ha h
/-- The code of aquatint/aquatintref21.Text. -/
def r14_0 : List G := [.op (.box 1 23 (.tmp 0)) none,
  .op (.mov 2 (.const (.string { data := #[] }))) none,
  .keep [1]]
def r14_1 : List (Nat × G) := [(0, .op (.faddr 4 1 (.tmp 1)) none),
  (0, .op (.load 5 (.tmp 4)) none),
  (0, .op (.faddr 9 2 (.tmp 1)) none),
  (1, .op (.load 10 (.tmp 9)) none),
  (0, .op (.faddr 14 3 (.tmp 1)) none),
  (1, .op (.load 15 (.tmp 14)) none),
  (0, .op (.faddr 19 4 (.tmp 1)) none),
  (1, .op (.load 20 (.tmp 19)) none),
  (2, .op (.call (some 6) 23 [(.tmp 5)]) none),
  (0, .op (.sop 7 .add (.const (.string { data := #[32] })) (.tmp 6)) none),
  (0, .op (.sop 8 .add (.tmp 7) (.const (.string { data := #[32] }))) none),
  (2, .op (.call (some 11) 23 [(.tmp 10)]) none),
  (0, .op (.sop 12 .add (.tmp 8) (.tmp 11)) none),
  (0, .op (.sop 13 .add (.tmp 12) (.const (.string { data := #[32] }))) none),
  (2, .op (.call (some 16) 23 [(.tmp 15)]) none),
  (0, .op (.sop 17 .add (.tmp 13) (.tmp 16)) none),
  (0, .op (.sop 18 .add (.tmp 17) (.const (.string { data := #[32] }))) none),
  (0, .op (.call (some 21) 23 [(.tmp 20)]) none),
  (0, .op (.sop 22 .add (.tmp 18) (.tmp 21)) none),
  (0, .op (.mov 3 (.tmp 22)) none),
  (0, .keep [1, 3])]
def r14_2 : List G := [.op (.faddr 23 0 (.tmp 1)) none,
  .op (.load 24 (.tmp 23)) none,
  .keep [1, 3, 24]]
def r14_3 : List G := [.op (.ari 26 .eql .i64 (.tmp 24) (.const (.int .i64 0))) none,
  .op (.mov 25 (.tmp 26)) none,
  .keep [1, 3, 24, 25]]
def r14_4 : List (Nat × G) := [(0, .op (.faddr 28 1 (.tmp 1)) none),
  (1, .op (.load 29 (.tmp 28)) none),
  (2, .op (.call (some 27) 24 []) none),
  (0, .op (.iaddrL 30 1 (.tmp 27) (.tmp 29)) none),
  (0, .op (.load 31 (.tmp 30)) none),
  (0, .op (.sop 32 .add (.const (.string { data := #[116, 117, 114, 110, 32] })) (.tmp 31)) none),
  (0, .op (.mov 2 (.tmp 32)) none),
  (0, .keep [2])]
def r14_5 : List G := [.op (.ari 34 .eql .i64 (.tmp 24) (.const (.int .i64 1))) none,
  .op (.mov 33 (.tmp 34)) none,
  .keep [1, 3, 24, 33]]
def r14_6 : List G := [.op (.mov 35 (.tmp 3)) none,
  .op (.sop 36 .add (.const (.string { data := #[99, 114, 111, 112] })) (.tmp 35)) none,
  .op (.mov 2 (.tmp 36)) none,
  .keep [2]]
def r14_7 : List G := [.op (.ari 38 .eql .i64 (.tmp 24) (.const (.int .i64 2))) none,
  .op (.mov 37 (.tmp 38)) none,
  .keep [1, 3, 24, 37]]
def r14_8 : List G := [.op (.mov 39 (.tmp 3)) none,
  .op (.sop 40 .add (.const (.string { data := #[114, 101, 100, 97, 99, 116] })) (.tmp 39)) none,
  .op (.mov 2 (.tmp 40)) none,
  .keep [2]]
def r14_9 : List G := [.op (.ari 42 .eql .i64 (.tmp 24) (.const (.int .i64 3))) none,
  .op (.mov 41 (.tmp 42)) none,
  .keep [1, 24, 41]]
def r14_10 : List (Nat × G) := [(0, .op (.faddr 43 1 (.tmp 1)) none),
  (0, .op (.load 44 (.tmp 43)) none),
  (0, .op (.faddr 48 2 (.tmp 1)) none),
  (1, .op (.load 49 (.tmp 48)) none),
  (0, .op (.faddr 53 5 (.tmp 1)) none),
  (1, .op (.load 54 (.tmp 53)) none),
  (2, .op (.call (some 45) 23 [(.tmp 44)]) none),
  (0, .op (.sop 46 .add (.const (.string { data := #[112, 117, 116, 32] })) (.tmp 45)) none),
  (0, .op (.sop 47 .add (.tmp 46) (.const (.string { data := #[32] }))) none),
  (2, .op (.call (some 50) 23 [(.tmp 49)]) none),
  (0, .op (.sop 51 .add (.tmp 47) (.tmp 50)) none),
  (0, .op (.sop 52 .add (.tmp 51) (.const (.string { data := #[32] }))) none),
  (0, .op (.call (some 55) 25 [(.tmp 54)]) none),
  (0, .op (.sop 56 .add (.tmp 52) (.tmp 55)) none),
  (0, .op (.mov 2 (.tmp 56)) none),
  (0, .keep [2])]
def r14_11 : List G := [.op (.ari 58 .eql .i64 (.tmp 24) (.const (.int .i64 4))) none,
  .op (.mov 57 (.tmp 58)) none,
  .keep [1, 57]]
def r14_12 : List G := [.op (.faddr 59 1 (.tmp 1)) none,
  .op (.load 60 (.tmp 59)) none,
  .op (.call (some 61) 23 [(.tmp 60)]) none,
  .op (.sop 62 .add (.const (.string { data := #[100, 114, 111, 112, 32] })) (.tmp 61)) none,
  .op (.mov 2 (.tmp 62)) none,
  .keep [2]]
def r14_13 : List G := [.op (.faddr 63 5 (.tmp 1)) none,
  .op (.load 64 (.tmp 63)) none,
  .op (.call (some 65) 25 [(.tmp 64)]) none,
  .op (.sop 66 .add (.const (.string { data := #[110, 111, 116, 101, 32] })) (.tmp 65)) none,
  .op (.mov 2 (.tmp 66)) none,
  .keep [2]]
def c14 : C := (.seq (.region r14_0) (.seq (.regionW r14_1) (.seq (.seq (.region r14_2) (.block 0 (.seq (.region r14_3) (.cond (.tmp 25) (.seq (.regionW r14_4) .ret) (.seq (.region r14_5) (.cond (.tmp 33) (.seq (.region r14_6) .ret) (.seq (.region r14_7) (.cond (.tmp 37) (.seq (.region r14_8) .ret) (.seq (.region r14_9) (.cond (.tmp 41) (.seq (.regionW r14_10) .ret) (.seq (.region r14_11) (.cond (.tmp 57) (.seq (.region r14_12) .ret) .skip)))))))))))) (.seq (.region r14_13) .ret))))
def x14 := PLift.up (andx (ux Tryd.prog r14_0.eq_1) (andx (uw Tryd.prog r14_1.eq_1) (andx (ux Tryd.prog r14_2.eq_1) (andx (ux Tryd.prog r14_3.eq_1) (andx (uw Tryd.prog r14_4.eq_1) (andx (ux Tryd.prog r14_5.eq_1) (andx (ux Tryd.prog r14_6.eq_1) (andx (ux Tryd.prog r14_7.eq_1) (andx (ux Tryd.prog r14_8.eq_1) (andx (ux Tryd.prog r14_9.eq_1) (andx (uw Tryd.prog r14_10.eq_1) (andx (ux Tryd.prog r14_11.eq_1) (andx (ux Tryd.prog r14_12.eq_1) (ux Tryd.prog r14_13.eq_1))))))))))))))
theorem low14 : Tryd.f14.body.bind (lowerC Tryd.prog 67 (fun i => List.lookup i [(1, .fin [(0, 0), (1, 0), (5, 0), (6, 1), (10, 0), (11, 1), (15, 0), (16, 1), (2, 2), (3, 0), (4, 0), (7, 2), (8, 0), (9, 0), (12, 2), (13, 0), (14, 0), (17, 0), (18, 0), (19, 0)]), (4, .fin [(1, 0), (2, 1), (0, 2), (3, 0), (4, 0), (5, 0), (6, 0)]), (10, .fin [(0, 0), (1, 0), (5, 0), (6, 1), (10, 0), (11, 1), (2, 2), (3, 0), (4, 0), (7, 2), (8, 0), (9, 0), (12, 0), (13, 0), (14, 0)])])) = some c14.erase := by kernel_rfl
theorem enter14 {args : List Value} {w : World} {R : Ending → World → Prop} (ha : args.length ≤ 67) (h : vc Tryd.prog c14 (endPost [.t 2] R) (argEnv 0 args) w) : Calls Tryd.prog 14 args.toArray w R :=
  calls_of_vc Tryd.func14 rfl low14 rfl ha h
/-- The code of aquatint/aquatintref21.Parse. -/
def r15_0 : List G := [.op (.alloc 2 23) none,
  .op (.mov 3 (.const (.int .i64 0))) none,
  .op (.mov 4 (.const (.int .i64 0))) none,
  .keep [0, 2]]
def r15_1 : List G := [.op (.alloc 5 23) none,
  .keep [0, 2, 5]]
def r15_2 : List G := [.op (.bslice 31 9 6 1 [(0, 1, (.const (.string { data := #[116, 117, 114, 110] }))), (1, 1, (.const (.string { data := #[99, 114, 111, 112] }))), (2, 1, (.const (.string { data := #[114, 101, 100, 97, 99, 116] }))), (3, 1, (.const (.string { data := #[112, 117, 116] }))), (4, 1, (.const (.string { data := #[100, 114, 111, 112] }))), (5, 1, (.const (.string { data := #[110, 111, 116, 101] })))]) none,
  .op (.mov 6 (.tmp 31)) none,
  .keep [0, 2, 5, 6]]
def r15_3 : List G := [.op (.mov 33 (.tmp 0)) none,
  .op (.mov 34 (.tmp 6)) none,
  .op (.call (some 35) 26 [(.tmp 33), (.const (.int .i64 0)), (.tmp 34)]) none,
  .op (.mov 32 (.tmp 35)) none,
  .op (.ext 36 0 (.tmp 32)) none,
  .op (.ext 37 1 (.tmp 32)) none,
  .op (.mov 7 (.tmp 36)) none,
  .op (.mov 8 (.tmp 37)) none,
  .keep [0, 2, 5, 7, 8]]
def r15_4 : List G := [.op (.mov 38 (.tmp 7)) none,
  .op (.ari 39 .lss .i64 (.tmp 38) (.const (.int .i64 0))) none,
  .keep [0, 2, 5, 7, 8, 39]]
def r15_5 : List G := [.op (.mov 41 (.tmp 0)) none,
  .op (.mov 42 (.tmp 8)) none,
  .op (.call (some 43) 27 [(.tmp 41), (.tmp 42)]) none,
  .op (.mov 40 (.tmp 43)) none,
  .op (.ext 44 0 (.tmp 40)) none,
  .op (.ext 45 1 (.tmp 40)) none,
  .op (.mov 9 (.tmp 44)) none,
  .op (.mov 10 (.tmp 45)) none,
  .keep [2, 9, 10]]
def r15_6 : List G := [.op (.build 46 23 []) none,
  .op (.mov 47 (.tmp 9)) none,
  .op (.mov 48 (.tmp 10)) none,
  .op (.storeN 6 (.tmp 2) (.tmp 46)) none,
  .op (.mov 3 (.tmp 47)) none,
  .op (.mov 4 (.tmp 48)) none,
  .keep [2, 3, 4]]
def r15_7 : List G := [.op (.mov 49 (.tmp 7)) none,
  .op (.faddr 50 0 (.tmp 5)) none,
  .op (.store (.tmp 50) (.tmp 49)) none,
  .keep [0, 2, 5, 7, 8]]
def r15_8 : List G := [.op (.mov 51 (.tmp 8)) none,
  .op (.mov 11 (.tmp 51)) none,
  .keep [0, 2, 5, 7, 11]]
def r15_9 : List G := [.op (.bslice 52 3 6 1 [(0, 1, (.const (.int .i64 0))), (1, 1, (.const (.int .i64 4))), (2, 1, (.const (.int .i64 4))), (3, 1, (.const (.int .i64 2))), (4, 1, (.const (.int .i64 1))), (5, 1, (.const (.int .i64 0)))]) none,
  .op (.mov 12 (.tmp 52)) none,
  .keep [0, 2, 5, 7, 11, 12]]
def r15_10 : List G := [.op (.alloc 13 74) none,
  .keep [0, 2, 5, 7, 11, 12, 13]]
def r15_11 : List G := [.op (.mov 14 (.const (.int .i64 0))) none,
  .keep [0, 2, 5, 7, 11, 12, 13, 14]]
def r15_12 : List G := [.op (.mov 53 (.tmp 14)) none,
  .op (.mov 54 (.tmp 12)) none,
  .op (.mov 55 (.tmp 7)) none,
  .op (.iaddrL 56 1 (.tmp 54) (.tmp 55)) none,
  .op (.load 57 (.tmp 56)) none,
  .op (.ari 58 .lss .i64 (.tmp 53) (.tmp 57)) none,
  .keep [0, 2, 5, 7, 11, 12, 13, 14, 58]]
def r15_14 : List G := [.op (.mov 61 (.tmp 11)) none,
  .op (.mov 62 (.tmp 0)) none,
  .op (.lenS 63 (.tmp 62)) none,
  .op (.ari 64 .geq .i64 (.tmp 61) (.tmp 63)) none,
  .op (.mov 65 (.tmp 64)) none,
  .op (.mov 66 (.tmp 0)) (some (65, false)),
  .op (.mov 67 (.tmp 11)) (some (65, false)),
  .op (.idxS 68 (.tmp 66) (.tmp 67)) (some (65, false)),
  .op (.ari 69 .neq .u8 (.tmp 68) (.const (.int .u8 32))) (some (65, false)),
  .op (.pick 70 (.tmp 65) (.const (.bool true)) (.tmp 69)) none,
  .keep [0, 2, 5, 7, 11, 12, 13, 14, 70]]
def r15_15 : List G := [.op (.mov 72 (.tmp 0)) none,
  .op (.mov 73 (.tmp 11)) none,
  .op (.call (some 74) 27 [(.tmp 72), (.tmp 73)]) none,
  .op (.mov 71 (.tmp 74)) none,
  .op (.ext 75 0 (.tmp 71)) none,
  .op (.ext 76 1 (.tmp 71)) none,
  .op (.mov 15 (.tmp 75)) none,
  .op (.mov 16 (.tmp 76)) none,
  .keep [2, 15, 16]]
def r15_16 : List G := [.op (.build 77 23 []) none,
  .op (.mov 78 (.tmp 15)) none,
  .op (.mov 79 (.tmp 16)) none,
  .op (.storeN 6 (.tmp 2) (.tmp 77)) none,
  .op (.mov 3 (.tmp 78)) none,
  .op (.mov 4 (.tmp 79)) none,
  .keep [2, 3, 4]]
def r15_17 : List G := [.op (.mov 17 (.const (.int .i64 2147483647))) none,
  .keep [0, 2, 5, 7, 11, 12, 13, 14, 17]]
def r15_18 : List G := [.op (.mov 80 (.tmp 7)) none,
  .op (.ari 81 .eql .i64 (.tmp 80) (.const (.int .i64 3))) none,
  .op (.mov 82 (.tmp 81)) none,
  .op (.mov 83 (.tmp 14)) (some (82, true)),
  .op (.ari 84 .eql .i64 (.tmp 83) (.const (.int .i64 1))) (some (82, true)),
  .op (.pick 85 (.tmp 82) (.tmp 84) (.const (.bool false))) none,
  .keep [0, 2, 5, 7, 11, 12, 13, 14, 17, 85]]
def r15_19 : List G := [.op (.mov 17 (.const (.int .i64 255))) none,
  .keep [0, 2, 5, 7, 11, 12, 13, 14, 17]]
def r15_20 : List G := [.op (.mov 87 (.tmp 0)) none,
  .op (.mov 88 (.tmp 11)) none,
  .op (.ari 89 .add .i64 (.tmp 88) (.const (.int .i64 1))) none,
  .op (.mov 90 (.tmp 17)) none,
  .op (.call (some 91) 28 [(.tmp 87), (.tmp 89), (.tmp 90)]) none,
  .op (.mov 86 (.tmp 91)) none,
  .op (.ext 92 0 (.tmp 86)) none,
  .op (.ext 93 1 (.tmp 86)) none,
  .op (.ext 94 2 (.tmp 86)) none,
  .op (.ext 95 3 (.tmp 86)) none,
  .op (.mov 18 (.tmp 92)) none,
  .op (.mov 19 (.tmp 93)) none,
  .op (.mov 20 (.tmp 94)) none,
  .op (.mov 21 (.tmp 95)) none,
  .keep [0, 2, 5, 7, 12, 13, 14, 18, 19, 20, 21]]
def r15_21 : List G := [.op (.mov 96 (.tmp 21)) none,
  .op (.ari 97 .neq .i64 (.tmp 96) (.const (.int .i64 0))) none,
  .keep [0, 2, 5, 7, 12, 13, 14, 18, 19, 20, 21, 97]]
def r15_22 : List G := [.op (.build 98 23 []) none,
  .op (.mov 99 (.tmp 20)) none,
  .op (.mov 100 (.tmp 21)) none,
  .op (.storeN 6 (.tmp 2) (.tmp 98)) none,
  .op (.mov 3 (.tmp 99)) none,
  .op (.mov 4 (.tmp 100)) none,
  .keep [2, 3, 4]]
def r15_23 : List G := [.op (.mov 101 (.tmp 14)) none,
  .op (.mov 102 (.tmp 18)) none,
  .op (.iaddrA 103 4 1 (.tmp 13) (.tmp 101)) none,
  .op (.store (.tmp 103) (.tmp 102)) none,
  .keep [0, 2, 5, 7, 12, 13, 14, 19]]
def r15_24 : List G := [.op (.mov 104 (.tmp 19)) none,
  .op (.mov 11 (.tmp 104)) none,
  .keep [0, 2, 5, 7, 11, 12, 13, 14]]
def r15_13 : List G := [.op (.mov 59 (.tmp 14)) none,
  .op (.ari 60 .add .i64 (.tmp 59) (.const (.int .i64 1))) none,
  .op (.mov 14 (.tmp 60)) none,
  .keep [0, 2, 5, 7, 11, 12, 13, 14]]
def r15_25 : List G := [.op (.iaddrA 105 4 1 (.tmp 13) (.const (.int .i64 0))) none,
  .op (.load 106 (.tmp 105)) none,
  .op (.faddr 107 1 (.tmp 5)) none,
  .op (.store (.tmp 107) (.tmp 106)) none,
  .keep [0, 2, 5, 7, 11, 13]]
def r15_26 : List G := [.op (.iaddrA 108 4 1 (.tmp 13) (.const (.int .i64 1))) none,
  .op (.load 109 (.tmp 108)) none,
  .op (.faddr 110 2 (.tmp 5)) none,
  .op (.store (.tmp 110) (.tmp 109)) none,
  .keep [0, 2, 5, 7, 11, 13]]
def r15_27 : List G := [.op (.iaddrA 111 4 1 (.tmp 13) (.const (.int .i64 2))) none,
  .op (.load 112 (.tmp 111)) none,
  .op (.faddr 113 3 (.tmp 5)) none,
  .op (.store (.tmp 113) (.tmp 112)) none,
  .keep [0, 2, 5, 7, 11, 13]]
def r15_28 : List G := [.op (.iaddrA 114 4 1 (.tmp 13) (.const (.int .i64 3))) none,
  .op (.load 115 (.tmp 114)) none,
  .op (.faddr 116 4 (.tmp 5)) none,
  .op (.store (.tmp 116) (.tmp 115)) none,
  .keep [0, 2, 5, 7, 11]]
def r15_29 : List G := [.op (.mov 117 (.tmp 7)) none,
  .op (.ari 118 .eql .i64 (.tmp 117) (.const (.int .i64 0))) none,
  .op (.mov 119 (.tmp 118)) none,
  .op (.mov 120 (.tmp 7)) (some (119, false)),
  .op (.ari 121 .eql .i64 (.tmp 120) (.const (.int .i64 3))) (some (119, false)),
  .op (.pick 122 (.tmp 119) (.const (.bool true)) (.tmp 121)) none,
  .op (.mov 123 (.tmp 122)) none,
  .op (.mov 124 (.tmp 7)) (some (123, false)),
  .op (.ari 125 .eql .i64 (.tmp 124) (.const (.int .i64 5))) (some (123, false)),
  .op (.pick 126 (.tmp 123) (.const (.bool true)) (.tmp 125)) none,
  .keep [0, 2, 5, 7, 11, 126]]
def r15_30 : List G := [.op (.mov 127 (.tmp 11)) none,
  .op (.mov 128 (.tmp 0)) none,
  .op (.lenS 129 (.tmp 128)) none,
  .op (.ari 130 .geq .i64 (.tmp 127) (.tmp 129)) none,
  .op (.mov 131 (.tmp 130)) none,
  .op (.mov 132 (.tmp 0)) (some (131, false)),
  .op (.mov 133 (.tmp 11)) (some (131, false)),
  .op (.idxS 134 (.tmp 132) (.tmp 133)) (some (131, false)),
  .op (.ari 135 .neq .u8 (.tmp 134) (.const (.int .u8 32))) (some (131, false)),
  .op (.pick 136 (.tmp 131) (.const (.bool true)) (.tmp 135)) none,
  .keep [0, 2, 5, 7, 11, 136]]
def r15_31 : List G := [.op (.mov 138 (.tmp 0)) none,
  .op (.mov 139 (.tmp 11)) none,
  .op (.call (some 140) 27 [(.tmp 138), (.tmp 139)]) none,
  .op (.mov 137 (.tmp 140)) none,
  .op (.ext 141 0 (.tmp 137)) none,
  .op (.ext 142 1 (.tmp 137)) none,
  .op (.mov 22 (.tmp 141)) none,
  .op (.mov 23 (.tmp 142)) none,
  .keep [2, 22, 23]]
def r15_32 : List G := [.op (.build 143 23 []) none,
  .op (.mov 144 (.tmp 22)) none,
  .op (.mov 145 (.tmp 23)) none,
  .op (.storeN 6 (.tmp 2) (.tmp 143)) none,
  .op (.mov 3 (.tmp 144)) none,
  .op (.mov 4 (.tmp 145)) none,
  .keep [2, 3, 4]]
def r15_33 : List G := [.op (.mov 146 (.tmp 11)) none,
  .op (.ari 147 .add .i64 (.tmp 146) (.const (.int .i64 1))) none,
  .op (.mov 11 (.tmp 147)) none,
  .keep [0, 2, 5, 7, 11]]
def r15_34 : List G := [.op (.mov 148 (.tmp 7)) none,
  .op (.ari 149 .eql .i64 (.tmp 148) (.const (.int .i64 0))) none,
  .keep [0, 2, 5, 7, 11, 149]]
def r15_35 : List G := [.op (.mov 151 (.tmp 0)) none,
  .op (.mov 152 (.tmp 11)) none,
  .op (.call (some 153) 24 []) none,
  .op (.call (some 154) 26 [(.tmp 151), (.tmp 152), (.tmp 153)]) none,
  .op (.mov 150 (.tmp 154)) none,
  .op (.ext 155 0 (.tmp 150)) none,
  .op (.ext 156 1 (.tmp 150)) none,
  .op (.mov 24 (.tmp 155)) none,
  .op (.mov 25 (.tmp 156)) none,
  .keep [0, 2, 5, 7, 11, 24, 25]]
def r15_36 : List G := [.op (.mov 157 (.tmp 24)) none,
  .op (.ari 158 .lss .i64 (.tmp 157) (.const (.int .i64 0))) none,
  .keep [0, 2, 5, 7, 11, 24, 25, 158]]
def r15_37 : List G := [.op (.mov 160 (.tmp 0)) none,
  .op (.mov 161 (.tmp 11)) none,
  .op (.mov 162 (.tmp 25)) none,
  .op (.ari 163 .add .i64 (.tmp 161) (.tmp 162)) none,
  .op (.call (some 164) 27 [(.tmp 160), (.tmp 163)]) none,
  .op (.mov 159 (.tmp 164)) none,
  .op (.ext 165 0 (.tmp 159)) none,
  .op (.ext 166 1 (.tmp 159)) none,
  .op (.mov 26 (.tmp 165)) none,
  .op (.mov 27 (.tmp 166)) none,
  .keep [2, 26, 27]]
def r15_38 : List G := [.op (.build 167 23 []) none,
  .op (.mov 168 (.tmp 26)) none,
  .op (.mov 169 (.tmp 27)) none,
  .op (.storeN 6 (.tmp 2) (.tmp 167)) none,
  .op (.mov 3 (.tmp 168)) none,
  .op (.mov 4 (.tmp 169)) none,
  .keep [2, 3, 4]]
def r15_39 : List G := [.op (.mov 170 (.tmp 24)) none,
  .op (.faddr 171 1 (.tmp 5)) none,
  .op (.store (.tmp 171) (.tmp 170)) none,
  .keep [0, 2, 5, 7, 11, 25]]
def r15_40 : List G := [.op (.mov 172 (.tmp 11)) none,
  .op (.mov 173 (.tmp 25)) none,
  .op (.ari 174 .add .i64 (.tmp 172) (.tmp 173)) none,
  .op (.mov 11 (.tmp 174)) none,
  .keep [0, 2, 5, 7, 11]]
def r15_41 : List G := [.op (.mov 175 (.tmp 7)) none,
  .op (.ari 176 .eql .i64 (.tmp 175) (.const (.int .i64 3))) none,
  .op (.mov 177 (.tmp 176)) none,
  .op (.mov 178 (.tmp 7)) (some (177, false)),
  .op (.ari 179 .eql .i64 (.tmp 178) (.const (.int .i64 5))) (some (177, false)),
  .op (.pick 180 (.tmp 177) (.const (.bool true)) (.tmp 179)) none,
  .keep [0, 2, 5, 11, 180]]
def r15_42 : List G := [.op (.mov 182 (.tmp 0)) none,
  .op (.mov 183 (.tmp 11)) none,
  .op (.sliceS 184 (.tmp 182) (some (.tmp 183)) none) none,
  .op (.call (some 185) 29 [(.tmp 184)]) none,
  .op (.mov 181 (.tmp 185)) none,
  .op (.ext 186 0 (.tmp 181)) none,
  .op (.ext 187 1 (.tmp 181)) none,
  .op (.ext 188 2 (.tmp 181)) none,
  .op (.mov 28 (.tmp 186)) none,
  .op (.mov 29 (.tmp 187)) none,
  .op (.mov 30 (.tmp 188)) none,
  .keep [0, 2, 5, 11, 28, 29, 30]]
def r15_43 : List G := [.op (.mov 189 (.tmp 30)) none,
  .op (.ari 190 .neq .i64 (.tmp 189) (.const (.int .i64 0))) none,
  .keep [0, 2, 5, 11, 28, 29, 30, 190]]
def r15_44 : List G := [.op (.build 191 23 []) none,
  .op (.mov 192 (.tmp 11)) none,
  .op (.mov 193 (.tmp 29)) none,
  .op (.ari 194 .add .i64 (.tmp 192) (.tmp 193)) none,
  .op (.mov 195 (.tmp 30)) none,
  .op (.storeN 6 (.tmp 2) (.tmp 191)) none,
  .op (.mov 3 (.tmp 194)) none,
  .op (.mov 4 (.tmp 195)) none,
  .keep [2, 3, 4]]
def r15_45 : List G := [.op (.mov 196 (.tmp 28)) none,
  .op (.faddr 197 5 (.tmp 5)) none,
  .op (.store (.tmp 197) (.tmp 196)) none,
  .keep [0, 2, 5, 11, 29]]
def r15_46 : List G := [.op (.mov 198 (.tmp 11)) none,
  .op (.mov 199 (.tmp 29)) none,
  .op (.ari 200 .add .i64 (.tmp 198) (.tmp 199)) none,
  .op (.mov 11 (.tmp 200)) none,
  .keep [0, 2, 5, 11]]
def r15_47 : List G := [.op (.mov 201 (.tmp 11)) none,
  .op (.mov 202 (.tmp 0)) none,
  .op (.lenS 203 (.tmp 202)) none,
  .op (.ari 204 .lss .i64 (.tmp 201) (.tmp 203)) none,
  .keep [2, 5, 11, 204]]
def r15_48 : List G := [.op (.build 205 23 []) none,
  .op (.mov 206 (.tmp 11)) none,
  .op (.storeN 6 (.tmp 2) (.tmp 205)) none,
  .op (.mov 3 (.tmp 206)) none,
  .op (.mov 4 (.const (.int .i64 16))) none,
  .keep [2, 3, 4]]
def r15_49 : List G := [.op (.loadN 207 6 (.tmp 5)) none,
  .op (.storeN 6 (.tmp 2) (.tmp 207)) none,
  .op (.mov 3 (.const (.int .i64 0))) none,
  .op (.mov 4 (.const (.int .i64 0))) none,
  .keep [2, 3, 4]]
def c15 : C := (.seq (.region r15_0) (.seq (.region r15_1) (.seq (.region r15_2) (.seq (.region r15_3) (.seq (.seq (.region r15_4) (.cond (.tmp 39) (.seq (.region r15_5) (.seq (.region r15_6) .ret)) .skip)) (.seq (.region r15_7) (.seq (.region r15_8) (.seq (.region r15_9) (.seq (.region r15_10) (.seq (.seq (.region r15_11) (.block 0 (.loop (.seq (.seq (.region r15_12) (.cond (.tmp 58) .skip (.exit 0))) (.seq (.block 1 (.seq (.seq (.region r15_14) (.cond (.tmp 70) (.seq (.region r15_15) (.seq (.region r15_16) .ret)) .skip)) (.seq (.region r15_17) (.seq (.seq (.region r15_18) (.cond (.tmp 85) (.region r15_19) .skip)) (.seq (.region r15_20) (.seq (.seq (.region r15_21) (.cond (.tmp 97) (.seq (.region r15_22) .ret) .skip)) (.seq (.region r15_23) (.region r15_24)))))))) (.region r15_13)))))) (.seq (.region r15_25) (.seq (.region r15_26) (.seq (.region r15_27) (.seq (.region r15_28) (.seq (.seq (.region r15_29) (.cond (.tmp 126) (.seq (.seq (.region r15_30) (.cond (.tmp 136) (.seq (.region r15_31) (.seq (.region r15_32) .ret)) .skip)) (.region r15_33)) .skip)) (.seq (.seq (.region r15_34) (.cond (.tmp 149) (.seq (.region r15_35) (.seq (.seq (.region r15_36) (.cond (.tmp 158) (.seq (.region r15_37) (.seq (.region r15_38) .ret)) .skip)) (.seq (.region r15_39) (.region r15_40)))) .skip)) (.seq (.seq (.region r15_41) (.cond (.tmp 180) (.seq (.region r15_42) (.seq (.seq (.region r15_43) (.cond (.tmp 190) (.seq (.region r15_44) .ret) .skip)) (.seq (.region r15_45) (.region r15_46)))) .skip)) (.seq (.seq (.region r15_47) (.cond (.tmp 204) (.seq (.region r15_48) .ret) .skip)) (.seq (.region r15_49) .ret)))))))))))))))))))
def x15 := PLift.up (andx (ux Tryd.prog r15_0.eq_1) (andx (ux Tryd.prog r15_1.eq_1) (andx (ux Tryd.prog r15_2.eq_1) (andx (ux Tryd.prog r15_3.eq_1) (andx (ux Tryd.prog r15_4.eq_1) (andx (ux Tryd.prog r15_5.eq_1) (andx (ux Tryd.prog r15_6.eq_1) (andx (ux Tryd.prog r15_7.eq_1) (andx (ux Tryd.prog r15_8.eq_1) (andx (ux Tryd.prog r15_9.eq_1) (andx (ux Tryd.prog r15_10.eq_1) (andx (ux Tryd.prog r15_11.eq_1) (andx (ux Tryd.prog r15_12.eq_1) (andx (ux Tryd.prog r15_14.eq_1) (andx (ux Tryd.prog r15_15.eq_1) (andx (ux Tryd.prog r15_16.eq_1) (andx (ux Tryd.prog r15_17.eq_1) (andx (ux Tryd.prog r15_18.eq_1) (andx (ux Tryd.prog r15_19.eq_1) (andx (ux Tryd.prog r15_20.eq_1) (andx (ux Tryd.prog r15_21.eq_1) (andx (ux Tryd.prog r15_22.eq_1) (andx (ux Tryd.prog r15_23.eq_1) (andx (ux Tryd.prog r15_24.eq_1) (andx (ux Tryd.prog r15_13.eq_1) (andx (ux Tryd.prog r15_25.eq_1) (andx (ux Tryd.prog r15_26.eq_1) (andx (ux Tryd.prog r15_27.eq_1) (andx (ux Tryd.prog r15_28.eq_1) (andx (ux Tryd.prog r15_29.eq_1) (andx (ux Tryd.prog r15_30.eq_1) (andx (ux Tryd.prog r15_31.eq_1) (andx (ux Tryd.prog r15_32.eq_1) (andx (ux Tryd.prog r15_33.eq_1) (andx (ux Tryd.prog r15_34.eq_1) (andx (ux Tryd.prog r15_35.eq_1) (andx (ux Tryd.prog r15_36.eq_1) (andx (ux Tryd.prog r15_37.eq_1) (andx (ux Tryd.prog r15_38.eq_1) (andx (ux Tryd.prog r15_39.eq_1) (andx (ux Tryd.prog r15_40.eq_1) (andx (ux Tryd.prog r15_41.eq_1) (andx (ux Tryd.prog r15_42.eq_1) (andx (ux Tryd.prog r15_43.eq_1) (andx (ux Tryd.prog r15_44.eq_1) (andx (ux Tryd.prog r15_45.eq_1) (andx (ux Tryd.prog r15_46.eq_1) (andx (ux Tryd.prog r15_47.eq_1) (andx (ux Tryd.prog r15_48.eq_1) (ux Tryd.prog r15_49.eq_1))))))))))))))))))))))))))))))))))))))))))))))))))
theorem low15 : Tryd.f15.body.bind (lowerC Tryd.prog 208 (fun _ => none)) = some c15.erase := by kernel_rfl
theorem enter15 {args : List Value} {w : World} {R : Ending → World → Prop} (ha : args.length ≤ 208) (h : vc Tryd.prog c15 (endPost [.cN 2 6, .t 3, .t 4] R) (argEnv 0 args) w) : Calls Tryd.prog 15 args.toArray w R :=
  calls_of_vc Tryd.func15 rfl low15 rfl ha h
/-- The code of aquatint/aquatintref21.Dec. -/
def r23_0 : List G := [.op (.mov 2 (.const (.string { data := #[] }))) none,
  .keep [0]]
def r23_1 : List G := [.op (.mov 3 (.tmp 0)) none,
  .op (.ari 4 .lss .i64 (.tmp 3) (.const (.int .i64 10))) none,
  .keep [0, 4]]
def r23_2 : List G := [.op (.mov 5 (.tmp 0)) none,
  .op (.ari 6 .add .i64 (.const (.int .i64 48)) (.tmp 5)) none,
  .op (.conv 7 .u8 (.tmp 6)) none,
  .op (.bslice 8 5 1 1 [(0, 1, (.tmp 7))]) none,
  .op (.conBS 9 (.tmp 8)) none,
  .op (.mov 2 (.tmp 9)) none,
  .keep [2]]
def r23_3 : GT := .fork [(0, .op (.mov 10 (.tmp 0)) none),
  (0, .op (.ari 11 .quo .i64 (.tmp 10) (.const (.int .i64 10))) none),
  (0, .op (.mov 13 (.tmp 0)) none),
  (0, .op (.ari 14 .rem .i64 (.tmp 13) (.const (.int .i64 10))) none),
  (0, .op (.ari 15 .add .i64 (.const (.int .i64 48)) (.tmp 14)) none),
  (0, .op (.conv 16 .u8 (.tmp 15)) none)] (.fin [(2, .op (.call (some 12) 23 [(.tmp 11)]) none),
  (0, .op (.bslice 17 5 1 1 [(0, 1, (.tmp 16))]) none),
  (1, .op (.conBS 18 (.tmp 17)) none),
  (0, .op (.sop 19 .add (.tmp 12) (.tmp 18)) none),
  (0, .op (.mov 2 (.tmp 19)) none),
  (0, .keep [2])]) (.fin [(0, .op (.bslice 17 5 1 1 [(0, 1, (.tmp 16))]) none),
  (1, .op (.conBS 18 (.tmp 17)) none),
  (2, .op (.call (some 12) 23 [(.tmp 11)]) none),
  (0, .op (.sop 19 .add (.tmp 12) (.tmp 18)) none),
  (0, .op (.mov 2 (.tmp 19)) none),
  (0, .keep [2])])
def c23 : C := (.seq (.region r23_0) (.seq (.seq (.region r23_1) (.cond (.tmp 4) (.seq (.region r23_2) .ret) .skip)) (.seq (.regionT r23_3) .ret)))
def x23 := PLift.up (andx (ux Tryd.prog r23_0.eq_1) (andx (ux Tryd.prog r23_1.eq_1) (andx (ux Tryd.prog r23_2.eq_1) (ut Tryd.prog r23_3.eq_1))))
theorem low23 : Tryd.f23.body.bind (lowerC Tryd.prog 20 (fun i => List.lookup i [(3, .fork [(0, 0), (1, 0), (3, 0), (4, 0), (5, 0), (6, 0)] (.fin [(2, 2), (7, 0), (8, 1), (9, 0), (10, 0)]) (.fin [(7, 0), (8, 1), (2, 2), (9, 0), (10, 0)]))])) = some c23.erase := by kernel_rfl
theorem enter23 {args : List Value} {w : World} {R : Ending → World → Prop} (ha : args.length ≤ 20) (h : vc Tryd.prog c23 (endPost [.t 2] R) (argEnv 0 args) w) : Calls Tryd.prog 23 args.toArray w R :=
  calls_of_vc Tryd.func23 rfl low23 rfl ha h
/-- The code of aquatint/aquatintref17.Names. -/
def r24_0 : List G := [.op (.mov 0 (.const (Go.Value.slice none 0 0))) none,
  .keep []]
def r24_1 : List G := [.op (.bslice 1 9 8 1 [(0, 1, (.const (.string { data := #[110, 111, 110, 101] }))), (1, 1, (.const (.string { data := #[109, 105, 114, 114, 111, 114] }))), (2, 1, (.const (.string { data := #[102, 108, 105, 112] }))), (3, 1, (.const (.string { data := #[104, 97, 108, 102] }))), (4, 1, (.const (.string { data := #[115, 119, 97, 112] }))), (5, 1, (.const (.string { data := #[114, 105, 103, 104, 116] }))), (6, 1, (.const (.string { data := #[108, 101, 102, 116] }))), (7, 1, (.const (.string { data := #[97, 110, 116, 105] })))]) none,
  .op (.mov 0 (.tmp 1)) none,
  .keep [0]]
def c24 : C := (.seq (.region r24_0) (.seq (.region r24_1) .ret))
def x24 := PLift.up (andx (ux Tryd.prog r24_0.eq_1) (ux Tryd.prog r24_1.eq_1))
theorem low24 : Tryd.f24.body.bind (lowerC Tryd.prog 2 (fun _ => none)) = some c24.erase := by kernel_rfl
theorem enter24 {args : List Value} {w : World} {R : Ending → World → Prop} (ha : args.length ≤ 2) (h : vc Tryd.prog c24 (endPost [.t 0] R) (argEnv 0 args) w) : Calls Tryd.prog 24 args.toArray w R :=
  calls_of_vc Tryd.func24 rfl low24 rfl ha h
/-- The code of aquatint/aquatintref01.Quote. -/
def r25_0 : List G := [.op (.mov 2 (.const (.string { data := #[] }))) none,
  .keep [0]]
def r25_1 : List G := [.op (.mov 3 (.const (.string { data := #[34] }))) none,
  .keep [0, 3]]
def r25_2 : List G := [.op (.mov 4 (.const (.int .i64 0))) none,
  .keep [0, 3, 4]]
def r25_3 : List G := [.op (.mov 7 (.tmp 4)) none,
  .op (.mov 8 (.tmp 0)) none,
  .op (.lenS 9 (.tmp 8)) none,
  .op (.ari 10 .lss .i64 (.tmp 7) (.tmp 9)) none,
  .keep [0, 3, 4, 10]]
def r25_4 : List G := [.op (.mov 12 (.tmp 0)) none,
  .op (.mov 13 (.tmp 4)) none,
  .op (.call (some 14) 39 [(.tmp 12), (.tmp 13)]) none,
  .op (.mov 11 (.tmp 14)) none,
  .op (.ext 15 0 (.tmp 11)) none,
  .op (.ext 16 1 (.tmp 11)) none,
  .op (.mov 5 (.tmp 15)) none,
  .op (.mov 6 (.tmp 16)) none,
  .keep [0, 3, 4, 5, 6]]
def r25_6 : List G := [.op (.mov 24 (.tmp 5)) none,
  .op (.ari 25 .lss .i64 (.tmp 24) (.const (.int .i64 0))) none,
  .op (.mov 23 (.tmp 25)) none,
  .keep [0, 3, 4, 5, 6, 23]]
def r25_7 : List G := [.op (.mov 26 (.tmp 3)) none,
  .op (.sop 27 .add (.tmp 26) (.const (.string { data := #[92, 120] }))) none,
  .op (.mov 28 (.tmp 0)) none,
  .op (.mov 29 (.tmp 4)) none,
  .op (.idxS 30 (.tmp 28) (.tmp 29)) none,
  .op (.conv 31 .i64 (.tmp 30)) none,
  .op (.call (some 32) 40 [(.tmp 31), (.const (.int .i64 2))]) none,
  .op (.sop 33 .add (.tmp 27) (.tmp 32)) none,
  .op (.mov 3 (.tmp 33)) none,
  .keep [0, 3, 4, 6]]
def r25_8 : List G := [.op (.mov 35 (.tmp 5)) none,
  .op (.ari 36 .eql .i64 (.tmp 35) (.const (.int .i64 34))) none,
  .op (.mov 34 (.tmp 36)) none,
  .keep [0, 3, 4, 5, 6, 34]]
def r25_9 : List G := [.op (.mov 37 (.tmp 3)) none,
  .op (.sop 38 .add (.tmp 37) (.const (.string { data := #[92, 34] }))) none,
  .op (.mov 3 (.tmp 38)) none,
  .keep [0, 3, 4, 6]]
def r25_10 : List G := [.op (.mov 40 (.tmp 5)) none,
  .op (.ari 41 .eql .i64 (.tmp 40) (.const (.int .i64 92))) none,
  .op (.mov 39 (.tmp 41)) none,
  .keep [0, 3, 4, 5, 6, 39]]
def r25_11 : List G := [.op (.mov 42 (.tmp 3)) none,
  .op (.sop 43 .add (.tmp 42) (.const (.string { data := #[92, 92] }))) none,
  .op (.mov 3 (.tmp 43)) none,
  .keep [0, 3, 4, 6]]
def r25_12 : List G := [.op (.mov 45 (.tmp 5)) none,
  .op (.ari 46 .eql .i64 (.tmp 45) (.const (.int .i64 10))) none,
  .op (.mov 44 (.tmp 46)) none,
  .keep [0, 3, 4, 5, 6, 44]]
def r25_13 : List G := [.op (.mov 47 (.tmp 3)) none,
  .op (.sop 48 .add (.tmp 47) (.const (.string { data := #[92, 110] }))) none,
  .op (.mov 3 (.tmp 48)) none,
  .keep [0, 3, 4, 6]]
def r25_14 : List G := [.op (.mov 50 (.tmp 5)) none,
  .op (.ari 51 .geq .i64 (.tmp 50) (.const (.int .i64 32))) none,
  .op (.mov 52 (.tmp 51)) none,
  .op (.mov 53 (.tmp 5)) (some (52, true)),
  .op (.ari 54 .leq .i64 (.tmp 53) (.const (.int .i64 126))) (some (52, true)),
  .op (.pick 55 (.tmp 52) (.tmp 54) (.const (.bool false))) none,
  .op (.mov 49 (.tmp 55)) none,
  .keep [0, 3, 4, 5, 6, 49]]
def r25_15 : List G := [.op (.mov 56 (.tmp 3)) none,
  .op (.mov 57 (.tmp 0)) none,
  .op (.mov 58 (.tmp 4)) none,
  .op (.mov 59 (.tmp 4)) none,
  .op (.ari 60 .add .i64 (.tmp 59) (.const (.int .i64 1))) none,
  .op (.sliceS 61 (.tmp 57) (some (.tmp 58)) (some (.tmp 60))) none,
  .op (.sop 62 .add (.tmp 56) (.tmp 61)) none,
  .op (.mov 3 (.tmp 62)) none,
  .keep [0, 3, 4, 6]]
def r25_5 : List G := [.op (.mov 17 (.tmp 3)) none,
  .op (.sop 18 .add (.tmp 17) (.const (.string { data := #[92, 117, 123] }))) none,
  .op (.mov 19 (.tmp 5)) none,
  .op (.call (some 20) 40 [(.tmp 19), (.const (.int .i64 1))]) none,
  .op (.sop 21 .add (.tmp 18) (.tmp 20)) none,
  .op (.sop 22 .add (.tmp 21) (.const (.string { data := #[125] }))) none,
  .op (.mov 3 (.tmp 22)) none,
  .keep [0, 3, 4, 6]]
def r25_16 : List G := [.op (.mov 63 (.tmp 4)) none,
  .op (.mov 64 (.tmp 6)) none,
  .op (.ari 65 .add .i64 (.tmp 63) (.tmp 64)) none,
  .op (.mov 4 (.tmp 65)) none,
  .keep [0, 3, 4]]
def r25_17 : List G := [.op (.mov 66 (.tmp 3)) none,
  .op (.sop 67 .add (.tmp 66) (.const (.string { data := #[34] }))) none,
  .op (.mov 2 (.tmp 67)) none,
  .keep [2]]
def c25 : C := (.seq (.region r25_0) (.seq (.region r25_1) (.seq (.seq (.region r25_2) (.block 0 (.loop (.seq (.seq (.region r25_3) (.cond (.tmp 10) .skip (.exit 0))) (.block 1 (.seq (.region r25_4) (.seq (.block 2 (.seq (.region r25_6) (.cond (.tmp 23) (.region r25_7) (.seq (.region r25_8) (.cond (.tmp 34) (.region r25_9) (.seq (.region r25_10) (.cond (.tmp 39) (.region r25_11) (.seq (.region r25_12) (.cond (.tmp 44) (.region r25_13) (.seq (.region r25_14) (.cond (.tmp 49) (.region r25_15) (.region r25_5)))))))))))) (.region r25_16)))))))) (.seq (.region r25_17) .ret))))
def x25 := PLift.up (andx (ux Tryd.prog r25_0.eq_1) (andx (ux Tryd.prog r25_1.eq_1) (andx (ux Tryd.prog r25_2.eq_1) (andx (ux Tryd.prog r25_3.eq_1) (andx (ux Tryd.prog r25_4.eq_1) (andx (ux Tryd.prog r25_6.eq_1) (andx (ux Tryd.prog r25_7.eq_1) (andx (ux Tryd.prog r25_8.eq_1) (andx (ux Tryd.prog r25_9.eq_1) (andx (ux Tryd.prog r25_10.eq_1) (andx (ux Tryd.prog r25_11.eq_1) (andx (ux Tryd.prog r25_12.eq_1) (andx (ux Tryd.prog r25_13.eq_1) (andx (ux Tryd.prog r25_14.eq_1) (andx (ux Tryd.prog r25_15.eq_1) (andx (ux Tryd.prog r25_5.eq_1) (andx (ux Tryd.prog r25_16.eq_1) (ux Tryd.prog r25_17.eq_1))))))))))))))))))
theorem low25 : Tryd.f25.body.bind (lowerC Tryd.prog 68 (fun _ => none)) = some c25.erase := by kernel_rfl
theorem enter25 {args : List Value} {w : World} {R : Ending → World → Prop} (ha : args.length ≤ 68) (h : vc Tryd.prog c25 (endPost [.t 2] R) (argEnv 0 args) w) : Calls Tryd.prog 25 args.toArray w R :=
  calls_of_vc Tryd.func25 rfl low25 rfl ha h
/-- The code of aquatint/aquatintref21.Word. -/
def r26_0 : List G := [.op (.mov 6 (.const (.int .i64 0))) none,
  .op (.mov 7 (.const (.int .i64 0))) none,
  .keep [0, 1, 2]]
def r26_1 : List G := [.op (.mov 8 (.const (.int .i64 0))) none,
  .keep [0, 1, 2, 8]]
def r26_2 : List G := [.op (.mov 9 (.const (.int .i64 0))) none,
  .keep [0, 1, 2, 8, 9]]
def r26_3 : List G := [.op (.mov 11 (.tmp 9)) none,
  .op (.mov 12 (.tmp 2)) none,
  .op (.lenL 13 (.tmp 12)) none,
  .op (.ari 14 .lss .i64 (.tmp 11) (.tmp 13)) none,
  .keep [0, 1, 2, 8, 9, 14]]
def r26_5 : List G := [.op (.mov 10 (.const (.int .i64 0))) none,
  .keep [0, 1, 2, 8, 9, 10]]
def r26_6 : List G := [.op (.mov 17 (.tmp 10)) none,
  .op (.mov 18 (.tmp 2)) none,
  .op (.mov 19 (.tmp 9)) none,
  .op (.iaddrL 20 1 (.tmp 18) (.tmp 19)) none,
  .op (.load 21 (.tmp 20)) none,
  .op (.lenS 22 (.tmp 21)) none,
  .op (.ari 23 .lss .i64 (.tmp 17) (.tmp 22)) none,
  .op (.mov 24 (.tmp 23)) none,
  .op (.mov 25 (.tmp 1)) (some (24, true)),
  .op (.mov 26 (.tmp 10)) (some (24, true)),
  .op (.ari 27 .add .i64 (.tmp 25) (.tmp 26)) (some (24, true)),
  .op (.mov 28 (.tmp 0)) (some (24, true)),
  .op (.lenS 29 (.tmp 28)) (some (24, true)),
  .op (.ari 30 .lss .i64 (.tmp 27) (.tmp 29)) (some (24, true)),
  .op (.pick 31 (.tmp 24) (.tmp 30) (.const (.bool false))) none,
  .op (.mov 32 (.tmp 31)) none,
  .op (.mov 33 (.tmp 0)) (some (32, true)),
  .op (.mov 34 (.tmp 1)) (some (32, true)),
  .op (.mov 35 (.tmp 10)) (some (32, true)),
  .op (.ari 36 .add .i64 (.tmp 34) (.tmp 35)) (some (32, true)),
  .op (.idxS 37 (.tmp 33) (.tmp 36)) (some (32, true)),
  .op (.mov 38 (.tmp 2)) (some (32, true)),
  .op (.mov 39 (.tmp 9)) (some (32, true)),
  .op (.iaddrL 40 1 (.tmp 38) (.tmp 39)) (some (32, true)),
  .op (.load 41 (.tmp 40)) (some (32, true)),
  .op (.mov 42 (.tmp 10)) (some (32, true)),
  .op (.idxS 43 (.tmp 41) (.tmp 42)) (some (32, true)),
  .op (.ari 44 .eql .u8 (.tmp 37) (.tmp 43)) (some (32, true)),
  .op (.pick 45 (.tmp 32) (.tmp 44) (.const (.bool false))) none,
  .keep [0, 1, 2, 8, 9, 10, 45]]
def r26_7 : List G := [.op (.mov 46 (.tmp 10)) none,
  .op (.ari 47 .add .i64 (.tmp 46) (.const (.int .i64 1))) none,
  .op (.mov 10 (.tmp 47)) none,
  .keep [0, 1, 2, 8, 9, 10]]
def r26_8 : List G := [.op (.mov 48 (.tmp 10)) none,
  .op (.mov 49 (.tmp 2)) none,
  .op (.mov 50 (.tmp 9)) none,
  .op (.iaddrL 51 1 (.tmp 49) (.tmp 50)) none,
  .op (.load 52 (.tmp 51)) none,
  .op (.lenS 53 (.tmp 52)) none,
  .op (.ari 54 .eql .i64 (.tmp 48) (.tmp 53)) none,
  .keep [0, 1, 2, 8, 9, 10, 54]]
def r26_9 : List G := [.op (.mov 55 (.tmp 9)) none,
  .op (.mov 56 (.tmp 10)) none,
  .op (.mov 6 (.tmp 55)) none,
  .op (.mov 7 (.tmp 56)) none,
  .keep [6, 7]]
def r26_10 : List G := [.op (.mov 57 (.tmp 10)) none,
  .op (.mov 58 (.tmp 8)) none,
  .op (.ari 59 .gtr .i64 (.tmp 57) (.tmp 58)) none,
  .keep [0, 1, 2, 8, 9, 10, 59]]
def r26_11 : List G := [.op (.mov 60 (.tmp 10)) none,
  .op (.mov 8 (.tmp 60)) none,
  .keep [0, 1, 2, 8, 9]]
def r26_4 : List G := [.op (.mov 15 (.tmp 9)) none,
  .op (.ari 16 .add .i64 (.tmp 15) (.const (.int .i64 1))) none,
  .op (.mov 9 (.tmp 16)) none,
  .keep [0, 1, 2, 8, 9]]
def r26_12 : List G := [.op (.mov 61 (.tmp 8)) none,
  .op (.mov 6 (.const (.int .i64 (-1)))) none,
  .op (.mov 7 (.tmp 61)) none,
  .keep [6, 7]]
def c26 : C := (.seq (.region r26_0) (.seq (.region r26_1) (.seq (.seq (.region r26_2) (.block 0 (.loop (.seq (.seq (.region r26_3) (.cond (.tmp 14) .skip (.exit 0))) (.seq (.block 1 (.seq (.region r26_5) (.seq (.block 2 (.loop (.seq (.seq (.regionD r26_6) (.cond (.tmp 45) .skip (.exit 2))) (.block 3 (.region r26_7))))) (.seq (.seq (.region r26_8) (.cond (.tmp 54) (.seq (.region r26_9) .ret) .skip)) (.seq (.region r26_10) (.cond (.tmp 59) (.region r26_11) .skip)))))) (.region r26_4)))))) (.seq (.region r26_12) .ret))))
def x26 := PLift.up (andx (ux Tryd.prog r26_0.eq_1) (andx (ux Tryd.prog r26_1.eq_1) (andx (ux Tryd.prog r26_2.eq_1) (andx (ux Tryd.prog r26_3.eq_1) (andx (ux Tryd.prog r26_5.eq_1) (andx (ux Tryd.prog r26_6.eq_1) (andx (ux Tryd.prog r26_7.eq_1) (andx (ux Tryd.prog r26_8.eq_1) (andx (ux Tryd.prog r26_9.eq_1) (andx (ux Tryd.prog r26_10.eq_1) (andx (ux Tryd.prog r26_11.eq_1) (andx (ux Tryd.prog r26_4.eq_1) (ux Tryd.prog r26_12.eq_1)))))))))))))
theorem low26 : Tryd.f26.body.bind (lowerC Tryd.prog 62 (fun i => List.lookup i [(6, .fin [(0, 0), (1, 0), (2, 0), (3, 0), (4, 0), (5, 0), (6, 0), (7, 0), (8, 0), (9, 0), (10, 0), (11, 0), (12, 0), (13, 0), (14, 0), (15, 0), (16, 0), (17, 0), (18, 0), (19, 0), (20, 0), (21, 0), (22, 0), (23, 0), (24, 0), (25, 0), (26, 0), (27, 0), (28, 0)])])) = some c26.erase := by kernel_rfl
theorem enter26 {args : List Value} {w : World} {R : Ending → World → Prop} (ha : args.length ≤ 62) (h : vc Tryd.prog c26 (endPost [.t 6, .t 7] R) (argEnv 0 args) w) : Calls Tryd.prog 26 args.toArray w R :=
  calls_of_vc Tryd.func26 rfl low26 rfl ha h
/-- The code of aquatint/aquatintref21.at. -/
def r27_0 : List G := [.op (.mov 4 (.const (.int .i64 0))) none,
  .op (.mov 5 (.const (.int .i64 0))) none,
  .keep [0, 1]]
def r27_1 : List G := [.op (.mov 6 (.tmp 1)) none,
  .op (.mov 7 (.tmp 0)) none,
  .op (.lenS 8 (.tmp 7)) none,
  .op (.ari 9 .geq .i64 (.tmp 6) (.tmp 8)) none,
  .keep [0, 1, 9]]
def r27_2 : List G := [.op (.mov 10 (.tmp 0)) none,
  .op (.lenS 11 (.tmp 10)) none,
  .op (.mov 4 (.tmp 11)) none,
  .op (.mov 5 (.const (.int .i64 2))) none,
  .keep [4, 5]]
def r27_3 : List G := [.op (.mov 12 (.tmp 1)) none,
  .op (.mov 4 (.tmp 12)) none,
  .op (.mov 5 (.const (.int .i64 16))) none,
  .keep [4, 5]]
def c27 : C := (.seq (.region r27_0) (.seq (.seq (.region r27_1) (.cond (.tmp 9) (.seq (.region r27_2) .ret) .skip)) (.seq (.region r27_3) .ret)))
def x27 := PLift.up (andx (ux Tryd.prog r27_0.eq_1) (andx (ux Tryd.prog r27_1.eq_1) (andx (ux Tryd.prog r27_2.eq_1) (ux Tryd.prog r27_3.eq_1))))
theorem low27 : Tryd.f27.body.bind (lowerC Tryd.prog 13 (fun _ => none)) = some c27.erase := by kernel_rfl
theorem enter27 {args : List Value} {w : World} {R : Ending → World → Prop} (ha : args.length ≤ 13) (h : vc Tryd.prog c27 (endPost [.t 4, .t 5] R) (argEnv 0 args) w) : Calls Tryd.prog 27 args.toArray w R :=
  calls_of_vc Tryd.func27 rfl low27 rfl ha h
/-- The code of aquatint/aquatintref21.Number. -/
def r28_0 : List G := [.op (.mov 6 (.const (.int .i64 0))) none,
  .op (.mov 7 (.const (.int .i64 0))) none,
  .op (.mov 8 (.const (.int .i64 0))) none,
  .op (.mov 9 (.const (.int .i64 0))) none,
  .keep [0, 1, 2]]
def r28_1 : List G := [.op (.mov 14 (.tmp 1)) none,
  .op (.mov 10 (.tmp 14)) none,
  .keep [0, 1, 2, 10]]
def r28_2 : List G := [.op (.mov 11 (.const (.int .i64 0))) none,
  .keep [0, 1, 2, 10, 11]]
def r28_3 : List G := [.op (.mov 15 (.tmp 10)) none,
  .op (.mov 16 (.tmp 0)) none,
  .op (.lenS 17 (.tmp 16)) none,
  .op (.ari 18 .lss .i64 (.tmp 15) (.tmp 17)) none,
  .op (.mov 19 (.tmp 18)) none,
  .op (.mov 20 (.tmp 0)) (some (19, true)),
  .op (.mov 21 (.tmp 10)) (some (19, true)),
  .op (.idxS 22 (.tmp 20) (.tmp 21)) (some (19, true)),
  .op (.ari 23 .geq .u8 (.tmp 22) (.const (.int .u8 48))) (some (19, true)),
  .op (.pick 24 (.tmp 19) (.tmp 23) (.const (.bool false))) none,
  .op (.mov 25 (.tmp 24)) none,
  .op (.mov 26 (.tmp 0)) (some (25, true)),
  .op (.mov 27 (.tmp 10)) (some (25, true)),
  .op (.idxS 28 (.tmp 26) (.tmp 27)) (some (25, true)),
  .op (.ari 29 .leq .u8 (.tmp 28) (.const (.int .u8 57))) (some (25, true)),
  .op (.pick 30 (.tmp 25) (.tmp 29) (.const (.bool false))) none,
  .op (.mov 31 (.tmp 30)) none,
  .op (.mov 32 (.tmp 10)) (some (31, true)),
  .op (.mov 33 (.tmp 1)) (some (31, true)),
  .op (.ari 34 .eql .i64 (.tmp 32) (.tmp 33)) (some (31, true)),
  .op (.mov 35 (.tmp 34)) (some (31, true)),
  .op (.mov 36 (.tmp 11)) (some (35, false)),
  .op (.ari 37 .gtr .i64 (.tmp 36) (.const (.int .i64 0))) (some (35, false)),
  .op (.pick 38 (.tmp 35) (.const (.bool true)) (.tmp 37)) (some (31, true)),
  .op (.pick 39 (.tmp 31) (.tmp 38) (.const (.bool false))) none,
  .keep [0, 1, 2, 10, 11, 39]]
def r28_4 : List G := [.op (.mov 40 (.tmp 11)) none,
  .op (.ari 41 .leq .i64 (.tmp 40) (.const (.int .i64 2147483647))) none,
  .keep [0, 1, 2, 10, 11, 41]]
def r28_5 : List G := [.op (.mov 42 (.tmp 11)) none,
  .op (.ari 43 .mul .i64 (.tmp 42) (.const (.int .i64 10))) none,
  .op (.mov 44 (.tmp 0)) none,
  .op (.mov 45 (.tmp 10)) none,
  .op (.idxS 46 (.tmp 44) (.tmp 45)) none,
  .op (.ari 47 .sub .u8 (.tmp 46) (.const (.int .u8 48))) none,
  .op (.conv 48 .i64 (.tmp 47)) none,
  .op (.ari 49 .add .i64 (.tmp 43) (.tmp 48)) none,
  .op (.mov 11 (.tmp 49)) none,
  .keep [0, 1, 2, 10, 11]]
def r28_6 : List G := [.op (.mov 50 (.tmp 10)) none,
  .op (.ari 51 .add .i64 (.tmp 50) (.const (.int .i64 1))) none,
  .op (.mov 10 (.tmp 51)) none,
  .keep [0, 1, 2, 10, 11]]
def r28_7 : List G := [.op (.mov 52 (.tmp 10)) none,
  .op (.mov 53 (.tmp 1)) none,
  .op (.ari 54 .eql .i64 (.tmp 52) (.tmp 53)) none,
  .keep [0, 1, 2, 10, 11, 54]]
def r28_8 : List G := [.op (.mov 56 (.tmp 0)) none,
  .op (.mov 57 (.tmp 1)) none,
  .op (.call (some 58) 27 [(.tmp 56), (.tmp 57)]) none,
  .op (.mov 55 (.tmp 58)) none,
  .op (.ext 59 0 (.tmp 55)) none,
  .op (.ext 60 1 (.tmp 55)) none,
  .op (.mov 12 (.tmp 59)) none,
  .op (.mov 13 (.tmp 60)) none,
  .keep [1, 12, 13]]
def r28_9 : List G := [.op (.mov 61 (.tmp 1)) none,
  .op (.mov 62 (.tmp 12)) none,
  .op (.mov 63 (.tmp 13)) none,
  .op (.mov 6 (.const (.int .i64 0))) none,
  .op (.mov 7 (.tmp 61)) none,
  .op (.mov 8 (.tmp 62)) none,
  .op (.mov 9 (.tmp 63)) none,
  .keep [6, 7, 8, 9]]
def r28_10 : List G := [.op (.mov 64 (.tmp 11)) none,
  .op (.mov 65 (.tmp 2)) none,
  .op (.ari 66 .gtr .i64 (.tmp 64) (.tmp 65)) none,
  .keep [1, 10, 11, 66]]
def r28_11 : List G := [.op (.mov 67 (.tmp 1)) none,
  .op (.mov 68 (.tmp 1)) none,
  .op (.mov 6 (.const (.int .i64 0))) none,
  .op (.mov 7 (.tmp 67)) none,
  .op (.mov 8 (.tmp 68)) none,
  .op (.mov 9 (.const (.int .i64 11))) none,
  .keep [6, 7, 8, 9]]
def r28_12 : List G := [.op (.mov 69 (.tmp 11)) none,
  .op (.mov 70 (.tmp 10)) none,
  .op (.mov 6 (.tmp 69)) none,
  .op (.mov 7 (.tmp 70)) none,
  .op (.mov 8 (.const (.int .i64 0))) none,
  .op (.mov 9 (.const (.int .i64 0))) none,
  .keep [6, 7, 8, 9]]
def c28 : C := (.seq (.region r28_0) (.seq (.region r28_1) (.seq (.region r28_2) (.seq (.block 0 (.loop (.seq (.seq (.region r28_3) (.cond (.tmp 39) .skip (.exit 0))) (.block 1 (.seq (.seq (.region r28_4) (.cond (.tmp 41) (.region r28_5) .skip)) (.region r28_6)))))) (.seq (.seq (.region r28_7) (.cond (.tmp 54) (.seq (.region r28_8) (.seq (.region r28_9) .ret)) .skip)) (.seq (.seq (.region r28_10) (.cond (.tmp 66) (.seq (.region r28_11) .ret) .skip)) (.seq (.region r28_12) .ret)))))))
def x28 := PLift.up (andx (ux Tryd.prog r28_0.eq_1) (andx (ux Tryd.prog r28_1.eq_1) (andx (ux Tryd.prog r28_2.eq_1) (andx (ux Tryd.prog r28_3.eq_1) (andx (ux Tryd.prog r28_4.eq_1) (andx (ux Tryd.prog r28_5.eq_1) (andx (ux Tryd.prog r28_6.eq_1) (andx (ux Tryd.prog r28_7.eq_1) (andx (ux Tryd.prog r28_8.eq_1) (andx (ux Tryd.prog r28_9.eq_1) (andx (ux Tryd.prog r28_10.eq_1) (andx (ux Tryd.prog r28_11.eq_1) (ux Tryd.prog r28_12.eq_1)))))))))))))
theorem low28 : Tryd.f28.body.bind (lowerC Tryd.prog 71 (fun _ => none)) = some c28.erase := by kernel_rfl
theorem enter28 {args : List Value} {w : World} {R : Ending → World → Prop} (ha : args.length ≤ 71) (h : vc Tryd.prog c28 (endPost [.t 6, .t 7, .t 8, .t 9] R) (argEnv 0 args) w) : Calls Tryd.prog 28 args.toArray w R :=
  calls_of_vc Tryd.func28 rfl low28 rfl ha h
/-- The code of aquatint/aquatintref01.Unquote. -/
def r29_0 : List G := [.op (.mov 2 (.const (.string { data := #[] }))) none,
  .op (.mov 3 (.const (.int .i64 0))) none,
  .op (.mov 4 (.const (.int .i64 0))) none,
  .keep [0]]
def r29_1 : List G := [.op (.mov 11 (.tmp 0)) none,
  .op (.lenS 12 (.tmp 11)) none,
  .op (.ari 13 .eql .i64 (.tmp 12) (.const (.int .i64 0))) none,
  .op (.mov 14 (.tmp 13)) none,
  .op (.mov 15 (.tmp 0)) (some (14, false)),
  .op (.idxS 16 (.tmp 15) (.const (.int .i64 0))) (some (14, false)),
  .op (.ari 17 .neq .u8 (.tmp 16) (.const (.int .u8 34))) (some (14, false)),
  .op (.pick 18 (.tmp 14) (.const (.bool true)) (.tmp 17)) none,
  .keep [0, 18]]
def r29_2 : List G := [.op (.mov 19 (.tmp 0)) none,
  .op (.call (some 20) 41 [(.tmp 19), (.const (.int .i64 0))]) none,
  .op (.ext 21 0 (.tmp 20)) none,
  .op (.ext 22 1 (.tmp 20)) none,
  .op (.ext 23 2 (.tmp 20)) none,
  .op (.mov 2 (.tmp 21)) none,
  .op (.mov 3 (.tmp 22)) none,
  .op (.mov 4 (.tmp 23)) none,
  .keep [2, 3, 4]]
def r29_3 : List G := [.op (.mov 5 (.const (.string { data := #[] }))) none,
  .keep [0, 5]]
def r29_4 : List G := [.op (.mov 6 (.const (.int .i64 1))) none,
  .keep [0, 5, 6]]
def r29_5 : List G := [.op (.mov 24 (.tmp 6)) none,
  .op (.mov 25 (.tmp 0)) none,
  .op (.lenS 26 (.tmp 25)) none,
  .op (.ari 27 .lss .i64 (.tmp 24) (.tmp 26)) none,
  .op (.mov 28 (.tmp 27)) none,
  .op (.mov 29 (.tmp 0)) (some (28, true)),
  .op (.mov 30 (.tmp 6)) (some (28, true)),
  .op (.idxS 31 (.tmp 29) (.tmp 30)) (some (28, true)),
  .op (.ari 32 .neq .u8 (.tmp 31) (.const (.int .u8 34))) (some (28, true)),
  .op (.pick 33 (.tmp 28) (.tmp 32) (.const (.bool false))) none,
  .keep [0, 5, 6, 33]]
def r29_6 : List G := [.op (.mov 34 (.tmp 0)) none,
  .op (.mov 35 (.tmp 6)) none,
  .op (.idxS 36 (.tmp 34) (.tmp 35)) none,
  .op (.ari 37 .lss .u8 (.tmp 36) (.const (.int .u8 32))) none,
  .op (.mov 38 (.tmp 37)) none,
  .op (.mov 39 (.tmp 0)) (some (38, false)),
  .op (.mov 40 (.tmp 6)) (some (38, false)),
  .op (.idxS 41 (.tmp 39) (.tmp 40)) (some (38, false)),
  .op (.ari 42 .gtr .u8 (.tmp 41) (.const (.int .u8 126))) (some (38, false)),
  .op (.pick 43 (.tmp 38) (.const (.bool true)) (.tmp 42)) none,
  .keep [0, 5, 6, 43]]
def r29_7 : List G := [.op (.mov 44 (.tmp 0)) none,
  .op (.mov 45 (.tmp 6)) none,
  .op (.call (some 46) 41 [(.tmp 44), (.tmp 45)]) none,
  .op (.ext 47 0 (.tmp 46)) none,
  .op (.ext 48 1 (.tmp 46)) none,
  .op (.ext 49 2 (.tmp 46)) none,
  .op (.mov 2 (.tmp 47)) none,
  .op (.mov 3 (.tmp 48)) none,
  .op (.mov 4 (.tmp 49)) none,
  .keep [2, 3, 4]]
def r29_8 : List G := [.op (.mov 50 (.tmp 0)) none,
  .op (.mov 51 (.tmp 6)) none,
  .op (.idxS 52 (.tmp 50) (.tmp 51)) none,
  .op (.ari 53 .neq .u8 (.tmp 52) (.const (.int .u8 92))) none,
  .keep [0, 5, 6, 53]]
def r29_9 : List G := [.op (.mov 54 (.tmp 5)) none,
  .op (.mov 55 (.tmp 0)) none,
  .op (.mov 56 (.tmp 6)) none,
  .op (.mov 57 (.tmp 6)) none,
  .op (.ari 58 .add .i64 (.tmp 57) (.const (.int .i64 1))) none,
  .op (.sliceS 59 (.tmp 55) (some (.tmp 56)) (some (.tmp 58))) none,
  .op (.sop 60 .add (.tmp 54) (.tmp 59)) none,
  .op (.mov 5 (.tmp 60)) none,
  .keep [0, 5, 6]]
def r29_10 : List G := [.op (.mov 61 (.tmp 6)) none,
  .op (.ari 62 .add .i64 (.tmp 61) (.const (.int .i64 1))) none,
  .op (.mov 6 (.tmp 62)) none,
  .keep [0, 5, 6]]
def r29_11 : List G := [.op (.mov 63 (.tmp 6)) none,
  .op (.ari 64 .add .i64 (.tmp 63) (.const (.int .i64 1))) none,
  .op (.mov 6 (.tmp 64)) none,
  .keep [0, 5, 6]]
def r29_12 : List G := [.op (.mov 65 (.tmp 6)) none,
  .op (.mov 66 (.tmp 0)) none,
  .op (.lenS 67 (.tmp 66)) none,
  .op (.ari 68 .geq .i64 (.tmp 65) (.tmp 67)) none,
  .keep [0, 5, 6, 68]]
def r29_13 : List G := [.op (.mov 69 (.tmp 0)) none,
  .op (.mov 70 (.tmp 6)) none,
  .op (.idxS 71 (.tmp 69) (.tmp 70)) none,
  .keep [0, 5, 6, 71]]
def r29_15 : List G := [.op (.ari 79 .eql .u8 (.tmp 71) (.const (.int .u8 34))) none,
  .op (.mov 78 (.tmp 79)) none,
  .keep [0, 5, 6, 71, 78]]
def r29_16 : List G := [.op (.ari 80 .eql .u8 (.tmp 71) (.const (.int .u8 92))) none,
  .op (.mov 78 (.tmp 80)) none,
  .keep [0, 5, 6, 71, 78]]
def r29_17 : List G := [.op (.mov 81 (.tmp 5)) none,
  .op (.mov 82 (.tmp 0)) none,
  .op (.mov 83 (.tmp 6)) none,
  .op (.mov 84 (.tmp 6)) none,
  .op (.ari 85 .add .i64 (.tmp 84) (.const (.int .i64 1))) none,
  .op (.sliceS 86 (.tmp 82) (some (.tmp 83)) (some (.tmp 85))) none,
  .op (.sop 87 .add (.tmp 81) (.tmp 86)) none,
  .op (.mov 5 (.tmp 87)) none,
  .keep [0, 5, 6]]
def r29_18 : List G := [.op (.mov 88 (.tmp 6)) none,
  .op (.ari 89 .add .i64 (.tmp 88) (.const (.int .i64 1))) none,
  .op (.mov 6 (.tmp 89)) none,
  .keep [0, 5, 6]]
def r29_19 : List G := [.op (.ari 91 .eql .u8 (.tmp 71) (.const (.int .u8 110))) none,
  .op (.mov 90 (.tmp 91)) none,
  .keep [0, 5, 6, 71, 90]]
def r29_20 : List G := [.op (.mov 92 (.tmp 5)) none,
  .op (.sop 93 .add (.tmp 92) (.const (.string { data := #[10] }))) none,
  .op (.mov 5 (.tmp 93)) none,
  .keep [0, 5, 6]]
def r29_21 : List G := [.op (.mov 94 (.tmp 6)) none,
  .op (.ari 95 .add .i64 (.tmp 94) (.const (.int .i64 1))) none,
  .op (.mov 6 (.tmp 95)) none,
  .keep [0, 5, 6]]
def r29_22 : List G := [.op (.ari 97 .eql .u8 (.tmp 71) (.const (.int .u8 120))) none,
  .op (.mov 96 (.tmp 97)) none,
  .keep [0, 5, 6, 71, 96]]
def r29_23 : List G := [.op (.mov 7 (.const (.int .i64 0))) none,
  .keep [0, 5, 6, 7]]
def r29_24 : List G := [.op (.mov 8 (.const (.int .i64 1))) none,
  .keep [0, 5, 6, 7, 8]]
def r29_25 : List G := [.op (.mov 98 (.tmp 8)) none,
  .op (.ari 99 .leq .i64 (.tmp 98) (.const (.int .i64 2))) none,
  .keep [0, 5, 6, 7, 8, 99]]
def r29_27 : List G := [.op (.mov 102 (.tmp 6)) none,
  .op (.mov 103 (.tmp 8)) none,
  .op (.ari 104 .add .i64 (.tmp 102) (.tmp 103)) none,
  .op (.mov 105 (.tmp 0)) none,
  .op (.lenS 106 (.tmp 105)) none,
  .op (.ari 107 .geq .i64 (.tmp 104) (.tmp 106)) none,
  .op (.mov 108 (.tmp 107)) none,
  .op (.mov 109 (.tmp 0)) (some (108, false)),
  .op (.mov 110 (.tmp 6)) (some (108, false)),
  .op (.mov 111 (.tmp 8)) (some (108, false)),
  .op (.ari 112 .add .i64 (.tmp 110) (.tmp 111)) (some (108, false)),
  .op (.idxS 113 (.tmp 109) (.tmp 112)) (some (108, false)),
  .op (.call (some 114) 42 [(.tmp 113)]) (some (108, false)),
  .op (.ari 115 .lss .i64 (.tmp 114) (.const (.int .i64 0))) (some (108, false)),
  .op (.pick 116 (.tmp 108) (.const (.bool true)) (.tmp 115)) none,
  .keep [0, 5, 6, 7, 8, 116]]
def r29_28 : List G := [.op (.mov 117 (.tmp 0)) none,
  .op (.mov 118 (.tmp 6)) none,
  .op (.mov 119 (.tmp 8)) none,
  .op (.ari 120 .add .i64 (.tmp 118) (.tmp 119)) none,
  .op (.call (some 121) 41 [(.tmp 117), (.tmp 120)]) none,
  .op (.ext 122 0 (.tmp 121)) none,
  .op (.ext 123 1 (.tmp 121)) none,
  .op (.ext 124 2 (.tmp 121)) none,
  .op (.mov 2 (.tmp 122)) none,
  .op (.mov 3 (.tmp 123)) none,
  .op (.mov 4 (.tmp 124)) none,
  .keep [2, 3, 4]]
def r29_29 : List G := [.op (.mov 125 (.tmp 7)) none,
  .op (.ari 126 .mul .i64 (.tmp 125) (.const (.int .i64 16))) none,
  .op (.mov 127 (.tmp 0)) none,
  .op (.mov 128 (.tmp 6)) none,
  .op (.mov 129 (.tmp 8)) none,
  .op (.ari 130 .add .i64 (.tmp 128) (.tmp 129)) none,
  .op (.idxS 131 (.tmp 127) (.tmp 130)) none,
  .op (.call (some 132) 42 [(.tmp 131)]) none,
  .op (.ari 133 .add .i64 (.tmp 126) (.tmp 132)) none,
  .op (.mov 7 (.tmp 133)) none,
  .keep [0, 5, 6, 7, 8]]
def r29_26 : List G := [.op (.mov 100 (.tmp 8)) none,
  .op (.ari 101 .add .i64 (.tmp 100) (.const (.int .i64 1))) none,
  .op (.mov 8 (.tmp 101)) none,
  .keep [0, 5, 6, 7, 8]]
def r29_30 : List G := [.op (.mov 134 (.tmp 5)) none,
  .op (.mov 135 (.tmp 7)) none,
  .op (.conv 136 .u8 (.tmp 135)) none,
  .op (.bslice 137 5 1 1 [(0, 1, (.tmp 136))]) none,
  .op (.conBS 138 (.tmp 137)) none,
  .op (.sop 139 .add (.tmp 134) (.tmp 138)) none,
  .op (.mov 5 (.tmp 139)) none,
  .keep [0, 5, 6]]
def r29_31 : List G := [.op (.mov 140 (.tmp 6)) none,
  .op (.ari 141 .add .i64 (.tmp 140) (.const (.int .i64 3))) none,
  .op (.mov 6 (.tmp 141)) none,
  .keep [0, 5, 6]]
def r29_32 : List G := [.op (.ari 143 .eql .u8 (.tmp 71) (.const (.int .u8 117))) none,
  .op (.mov 142 (.tmp 143)) none,
  .keep [0, 5, 6, 142]]
def r29_33 : List G := [.op (.mov 144 (.tmp 6)) none,
  .op (.ari 145 .add .i64 (.tmp 144) (.const (.int .i64 1))) none,
  .op (.mov 6 (.tmp 145)) none,
  .keep [0, 5, 6]]
def r29_34 : List G := [.op (.mov 146 (.tmp 6)) none,
  .op (.mov 147 (.tmp 0)) none,
  .op (.lenS 148 (.tmp 147)) none,
  .op (.ari 149 .geq .i64 (.tmp 146) (.tmp 148)) none,
  .op (.mov 150 (.tmp 149)) none,
  .op (.mov 151 (.tmp 0)) (some (150, false)),
  .op (.mov 152 (.tmp 6)) (some (150, false)),
  .op (.idxS 153 (.tmp 151) (.tmp 152)) (some (150, false)),
  .op (.ari 154 .neq .u8 (.tmp 153) (.const (.int .u8 123))) (some (150, false)),
  .op (.pick 155 (.tmp 150) (.const (.bool true)) (.tmp 154)) none,
  .keep [0, 5, 6, 155]]
def r29_35 : List G := [.op (.mov 156 (.tmp 0)) none,
  .op (.mov 157 (.tmp 6)) none,
  .op (.call (some 158) 41 [(.tmp 156), (.tmp 157)]) none,
  .op (.ext 159 0 (.tmp 158)) none,
  .op (.ext 160 1 (.tmp 158)) none,
  .op (.ext 161 2 (.tmp 158)) none,
  .op (.mov 2 (.tmp 159)) none,
  .op (.mov 3 (.tmp 160)) none,
  .op (.mov 4 (.tmp 161)) none,
  .keep [2, 3, 4]]
def r29_36 : List G := [.op (.mov 162 (.tmp 6)) none,
  .op (.ari 163 .add .i64 (.tmp 162) (.const (.int .i64 1))) none,
  .op (.mov 6 (.tmp 163)) none,
  .keep [0, 5, 6]]
def r29_37 : List G := [.op (.mov 164 (.tmp 6)) none,
  .op (.mov 9 (.tmp 164)) none,
  .keep [0, 5, 6, 9]]
def r29_38 : List G := [.op (.mov 10 (.const (.int .i64 0))) none,
  .keep [0, 5, 6, 9, 10]]
def r29_39 : List G := [.op (.mov 165 (.tmp 6)) none,
  .op (.mov 166 (.tmp 0)) none,
  .op (.lenS 167 (.tmp 166)) none,
  .op (.ari 168 .lss .i64 (.tmp 165) (.tmp 167)) none,
  .op (.mov 169 (.tmp 168)) none,
  .op (.mov 170 (.tmp 6)) (some (169, true)),
  .op (.mov 171 (.tmp 9)) (some (169, true)),
  .op (.ari 172 .add .i64 (.tmp 171) (.const (.int .i64 6))) (some (169, true)),
  .op (.ari 173 .lss .i64 (.tmp 170) (.tmp 172)) (some (169, true)),
  .op (.pick 174 (.tmp 169) (.tmp 173) (.const (.bool false))) none,
  .op (.mov 175 (.tmp 174)) none,
  .op (.mov 176 (.tmp 0)) (some (175, true)),
  .op (.mov 177 (.tmp 6)) (some (175, true)),
  .op (.idxS 178 (.tmp 176) (.tmp 177)) (some (175, true)),
  .op (.call (some 179) 42 [(.tmp 178)]) (some (175, true)),
  .op (.ari 180 .geq .i64 (.tmp 179) (.const (.int .i64 0))) (some (175, true)),
  .op (.pick 181 (.tmp 175) (.tmp 180) (.const (.bool false))) none,
  .op (.mov 182 (.tmp 181)) none,
  .op (.mov 183 (.tmp 6)) (some (182, true)),
  .op (.mov 184 (.tmp 9)) (some (182, true)),
  .op (.ari 185 .eql .i64 (.tmp 183) (.tmp 184)) (some (182, true)),
  .op (.mov 186 (.tmp 185)) (some (182, true)),
  .op (.mov 187 (.tmp 10)) (some (186, false)),
  .op (.ari 188 .gtr .i64 (.tmp 187) (.const (.int .i64 0))) (some (186, false)),
  .op (.pick 189 (.tmp 186) (.const (.bool true)) (.tmp 188)) (some (182, true)),
  .op (.pick 190 (.tmp 182) (.tmp 189) (.const (.bool false))) none,
  .keep [0, 5, 6, 9, 10, 190]]
def r29_40 : List G := [.op (.mov 191 (.tmp 10)) none,
  .op (.ari 192 .mul .i64 (.tmp 191) (.const (.int .i64 16))) none,
  .op (.mov 193 (.tmp 0)) none,
  .op (.mov 194 (.tmp 6)) none,
  .op (.idxS 195 (.tmp 193) (.tmp 194)) none,
  .op (.call (some 196) 42 [(.tmp 195)]) none,
  .op (.ari 197 .add .i64 (.tmp 192) (.tmp 196)) none,
  .op (.mov 10 (.tmp 197)) none,
  .keep [0, 5, 6, 9, 10]]
def r29_41 : List G := [.op (.mov 198 (.tmp 6)) none,
  .op (.ari 199 .add .i64 (.tmp 198) (.const (.int .i64 1))) none,
  .op (.mov 6 (.tmp 199)) none,
  .keep [0, 5, 6, 9, 10]]
def r29_42 : List G := [.op (.mov 200 (.tmp 6)) none,
  .op (.mov 201 (.tmp 0)) none,
  .op (.lenS 202 (.tmp 201)) none,
  .op (.ari 203 .geq .i64 (.tmp 200) (.tmp 202)) none,
  .op (.mov 204 (.tmp 203)) none,
  .op (.mov 205 (.tmp 6)) (some (204, false)),
  .op (.mov 206 (.tmp 9)) (some (204, false)),
  .op (.ari 207 .eql .i64 (.tmp 205) (.tmp 206)) (some (204, false)),
  .op (.pick 208 (.tmp 204) (.const (.bool true)) (.tmp 207)) none,
  .op (.mov 209 (.tmp 208)) none,
  .op (.mov 210 (.tmp 0)) (some (209, false)),
  .op (.mov 211 (.tmp 6)) (some (209, false)),
  .op (.idxS 212 (.tmp 210) (.tmp 211)) (some (209, false)),
  .op (.ari 213 .neq .u8 (.tmp 212) (.const (.int .u8 125))) (some (209, false)),
  .op (.pick 214 (.tmp 209) (.const (.bool true)) (.tmp 213)) none,
  .op (.mov 215 (.tmp 214)) none,
  .op (.mov 216 (.tmp 10)) (some (215, false)),
  .op (.ari 217 .gtr .i64 (.tmp 216) (.const (.int .i64 1114111))) (some (215, false)),
  .op (.pick 218 (.tmp 215) (.const (.bool true)) (.tmp 217)) none,
  .op (.mov 219 (.tmp 218)) none,
  .op (.mov 220 (.tmp 10)) (some (219, false)),
  .op (.ari 221 .geq .i64 (.tmp 220) (.const (.int .i64 55296))) (some (219, false)),
  .op (.mov 222 (.tmp 221)) (some (219, false)),
  .op (.mov 223 (.tmp 10)) (some (222, true)),
  .op (.ari 224 .leq .i64 (.tmp 223) (.const (.int .i64 57343))) (some (222, true)),
  .op (.pick 225 (.tmp 222) (.tmp 224) (.const (.bool false))) (some (219, false)),
  .op (.pick 226 (.tmp 219) (.const (.bool true)) (.tmp 225)) none,
  .keep [0, 5, 6, 10, 226]]
def r29_43 : List G := [.op (.mov 227 (.tmp 0)) none,
  .op (.mov 228 (.tmp 6)) none,
  .op (.call (some 229) 41 [(.tmp 227), (.tmp 228)]) none,
  .op (.ext 230 0 (.tmp 229)) none,
  .op (.ext 231 1 (.tmp 229)) none,
  .op (.ext 232 2 (.tmp 229)) none,
  .op (.mov 2 (.tmp 230)) none,
  .op (.mov 3 (.tmp 231)) none,
  .op (.mov 4 (.tmp 232)) none,
  .keep [2, 3, 4]]
def r29_44 : List G := [.op (.mov 233 (.tmp 5)) none,
  .op (.mov 234 (.tmp 10)) none,
  .op (.call (some 235) 43 [(.tmp 234)]) none,
  .op (.sop 236 .add (.tmp 233) (.tmp 235)) none,
  .op (.mov 5 (.tmp 236)) none,
  .keep [0, 5, 6]]
def r29_45 : List G := [.op (.mov 237 (.tmp 6)) none,
  .op (.ari 238 .add .i64 (.tmp 237) (.const (.int .i64 1))) none,
  .op (.mov 6 (.tmp 238)) none,
  .keep [0, 5, 6]]
def r29_14 : List G := [.op (.mov 72 (.tmp 0)) none,
  .op (.mov 73 (.tmp 6)) none,
  .op (.call (some 74) 41 [(.tmp 72), (.tmp 73)]) none,
  .op (.ext 75 0 (.tmp 74)) none,
  .op (.ext 76 1 (.tmp 74)) none,
  .op (.ext 77 2 (.tmp 74)) none,
  .op (.mov 2 (.tmp 75)) none,
  .op (.mov 3 (.tmp 76)) none,
  .op (.mov 4 (.tmp 77)) none,
  .keep [2, 3, 4]]
def r29_46 : List G := [.op (.mov 239 (.tmp 6)) none,
  .op (.mov 240 (.tmp 0)) none,
  .op (.lenS 241 (.tmp 240)) none,
  .op (.ari 242 .geq .i64 (.tmp 239) (.tmp 241)) none,
  .keep [0, 5, 6, 242]]
def r29_47 : List G := [.op (.mov 243 (.tmp 0)) none,
  .op (.mov 244 (.tmp 0)) none,
  .op (.lenS 245 (.tmp 244)) none,
  .op (.call (some 246) 41 [(.tmp 243), (.tmp 245)]) none,
  .op (.ext 247 0 (.tmp 246)) none,
  .op (.ext 248 1 (.tmp 246)) none,
  .op (.ext 249 2 (.tmp 246)) none,
  .op (.mov 2 (.tmp 247)) none,
  .op (.mov 3 (.tmp 248)) none,
  .op (.mov 4 (.tmp 249)) none,
  .keep [2, 3, 4]]
def r29_48 : List G := [.op (.mov 250 (.tmp 5)) none,
  .op (.mov 251 (.tmp 6)) none,
  .op (.ari 252 .add .i64 (.tmp 251) (.const (.int .i64 1))) none,
  .op (.mov 2 (.tmp 250)) none,
  .op (.mov 3 (.tmp 252)) none,
  .op (.mov 4 (.const (.int .i64 0))) none,
  .keep [2, 3, 4]]
def c29 : C := (.seq (.region r29_0) (.seq (.seq (.region r29_1) (.cond (.tmp 18) (.seq (.region r29_2) .ret) .skip)) (.seq (.region r29_3) (.seq (.region r29_4) (.seq (.block 0 (.loop (.seq (.seq (.region r29_5) (.cond (.tmp 33) .skip (.exit 0))) (.block 1 (.seq (.seq (.region r29_6) (.cond (.tmp 43) (.seq (.region r29_7) .ret) .skip)) (.seq (.seq (.region r29_8) (.cond (.tmp 53) (.seq (.region r29_9) (.seq (.region r29_10) (.exit 1))) .skip)) (.seq (.region r29_11) (.seq (.seq (.region r29_12) (.cond (.tmp 68) (.exit 0) .skip)) (.seq (.region r29_13) (.block 2 (.seq (.seq (.region r29_15) (.cond (.tmp 78) .skip (.region r29_16))) (.cond (.tmp 78) (.seq (.region r29_17) (.region r29_18)) (.seq (.region r29_19) (.cond (.tmp 90) (.seq (.region r29_20) (.region r29_21)) (.seq (.region r29_22) (.cond (.tmp 96) (.seq (.region r29_23) (.seq (.seq (.region r29_24) (.block 3 (.loop (.seq (.seq (.region r29_25) (.cond (.tmp 99) .skip (.exit 3))) (.seq (.block 4 (.seq (.seq (.region r29_27) (.cond (.tmp 116) (.seq (.region r29_28) .ret) .skip)) (.region r29_29))) (.region r29_26)))))) (.seq (.region r29_30) (.region r29_31)))) (.seq (.region r29_32) (.cond (.tmp 142) (.seq (.region r29_33) (.seq (.seq (.region r29_34) (.cond (.tmp 155) (.seq (.region r29_35) .ret) .skip)) (.seq (.region r29_36) (.seq (.region r29_37) (.seq (.region r29_38) (.seq (.block 5 (.loop (.seq (.seq (.region r29_39) (.cond (.tmp 190) .skip (.exit 5))) (.block 6 (.seq (.region r29_40) (.region r29_41)))))) (.seq (.seq (.region r29_42) (.cond (.tmp 226) (.seq (.region r29_43) .ret) .skip)) (.seq (.region r29_44) (.region r29_45))))))))) (.seq (.region r29_14) .ret))))))))))))))))))) (.seq (.seq (.region r29_46) (.cond (.tmp 242) (.seq (.region r29_47) .ret) .skip)) (.seq (.region r29_48) .ret)))))))
def x29 := PLift.up (andx (ux Tryd.prog r29_0.eq_1) (andx (ux Tryd.prog r29_1.eq_1) (andx (ux Tryd.prog r29_2.eq_1) (andx (ux Tryd.prog r29_3.eq_1) (andx (ux Tryd.prog r29_4.eq_1) (andx (ux Tryd.prog r29_5.eq_1) (andx (ux Tryd.prog r29_6.eq_1) (andx (ux Tryd.prog r29_7.eq_1) (andx (ux Tryd.prog r29_8.eq_1) (andx (ux Tryd.prog r29_9.eq_1) (andx (ux Tryd.prog r29_10.eq_1) (andx (ux Tryd.prog r29_11.eq_1) (andx (ux Tryd.prog r29_12.eq_1) (andx (ux Tryd.prog r29_13.eq_1) (andx (ux Tryd.prog r29_15.eq_1) (andx (ux Tryd.prog r29_16.eq_1) (andx (ux Tryd.prog r29_17.eq_1) (andx (ux Tryd.prog r29_18.eq_1) (andx (ux Tryd.prog r29_19.eq_1) (andx (ux Tryd.prog r29_20.eq_1) (andx (ux Tryd.prog r29_21.eq_1) (andx (ux Tryd.prog r29_22.eq_1) (andx (ux Tryd.prog r29_23.eq_1) (andx (ux Tryd.prog r29_24.eq_1) (andx (ux Tryd.prog r29_25.eq_1) (andx (ux Tryd.prog r29_27.eq_1) (andx (ux Tryd.prog r29_28.eq_1) (andx (ux Tryd.prog r29_29.eq_1) (andx (ux Tryd.prog r29_26.eq_1) (andx (ux Tryd.prog r29_30.eq_1) (andx (ux Tryd.prog r29_31.eq_1) (andx (ux Tryd.prog r29_32.eq_1) (andx (ux Tryd.prog r29_33.eq_1) (andx (ux Tryd.prog r29_34.eq_1) (andx (ux Tryd.prog r29_35.eq_1) (andx (ux Tryd.prog r29_36.eq_1) (andx (ux Tryd.prog r29_37.eq_1) (andx (ux Tryd.prog r29_38.eq_1) (andx (ux Tryd.prog r29_39.eq_1) (andx (ux Tryd.prog r29_40.eq_1) (andx (ux Tryd.prog r29_41.eq_1) (andx (ux Tryd.prog r29_42.eq_1) (andx (ux Tryd.prog r29_43.eq_1) (andx (ux Tryd.prog r29_44.eq_1) (andx (ux Tryd.prog r29_45.eq_1) (andx (ux Tryd.prog r29_14.eq_1) (andx (ux Tryd.prog r29_46.eq_1) (andx (ux Tryd.prog r29_47.eq_1) (ux Tryd.prog r29_48.eq_1)))))))))))))))))))))))))))))))))))))))))))))))))
theorem low29 : Tryd.f29.body.bind (lowerC Tryd.prog 253 (fun _ => none)) = some c29.erase := by kernel_rfl
theorem enter29 {args : List Value} {w : World} {R : Ending → World → Prop} (ha : args.length ≤ 253) (h : vc Tryd.prog c29 (endPost [.t 2, .t 3, .t 4] R) (argEnv 0 args) w) : Calls Tryd.prog 29 args.toArray w R :=
  calls_of_vc Tryd.func29 rfl low29 rfl ha h
/-- The code of aquatint/aquatintref01.Rune. -/
def r39_0 : List G := [.op (.mov 4 (.const (.int .i64 0))) none,
  .op (.mov 5 (.const (.int .i64 0))) none,
  .keep [0, 1]]
def r39_1 : List G := [.op (.mov 11 (.tmp 0)) none,
  .op (.mov 12 (.tmp 1)) none,
  .op (.idxS 13 (.tmp 11) (.tmp 12)) none,
  .op (.conv 14 .i64 (.tmp 13)) none,
  .op (.mov 6 (.tmp 14)) none,
  .keep [0, 1, 6]]
def r39_2 : List G := [.op (.mov 7 (.const (.int .i64 0))) none,
  .op (.mov 8 (.const (.int .i64 0))) none,
  .keep [0, 1, 6]]
def r39_4 : List G := [.op (.mov 16 (.tmp 6)) none,
  .op (.ari 17 .lss .i64 (.tmp 16) (.const (.int .i64 128))) none,
  .op (.mov 15 (.tmp 17)) none,
  .keep [0, 1, 6, 15]]
def r39_5 : List G := [.op (.mov 18 (.tmp 6)) none,
  .op (.mov 4 (.tmp 18)) none,
  .op (.mov 5 (.const (.int .i64 1))) none,
  .keep [4, 5]]
def r39_6 : List G := [.op (.mov 20 (.tmp 6)) none,
  .op (.ari 21 .geq .i64 (.tmp 20) (.const (.int .i64 194))) none,
  .op (.mov 22 (.tmp 21)) none,
  .op (.mov 23 (.tmp 6)) (some (22, true)),
  .op (.ari 24 .lss .i64 (.tmp 23) (.const (.int .i64 224))) (some (22, true)),
  .op (.pick 25 (.tmp 22) (.tmp 24) (.const (.bool false))) none,
  .op (.mov 19 (.tmp 25)) none,
  .keep [0, 1, 6, 19]]
def r39_7 : List G := [.op (.mov 7 (.const (.int .i64 1))) none,
  .keep [0, 1, 6, 7]]
def r39_8 : List G := [.op (.mov 26 (.tmp 6)) none,
  .op (.ari 27 .sub .i64 (.tmp 26) (.const (.int .i64 192))) none,
  .op (.mov 6 (.tmp 27)) none,
  .keep [0, 1, 6, 7]]
def r39_9 : List G := [.op (.mov 8 (.const (.int .i64 128))) none,
  .keep [0, 1, 6, 7, 8]]
def r39_10 : List G := [.op (.mov 29 (.tmp 6)) none,
  .op (.ari 30 .geq .i64 (.tmp 29) (.const (.int .i64 224))) none,
  .op (.mov 31 (.tmp 30)) none,
  .op (.mov 32 (.tmp 6)) (some (31, true)),
  .op (.ari 33 .lss .i64 (.tmp 32) (.const (.int .i64 240))) (some (31, true)),
  .op (.pick 34 (.tmp 31) (.tmp 33) (.const (.bool false))) none,
  .op (.mov 28 (.tmp 34)) none,
  .keep [0, 1, 6, 28]]
def r39_11 : List G := [.op (.mov 7 (.const (.int .i64 2))) none,
  .keep [0, 1, 6, 7]]
def r39_12 : List G := [.op (.mov 35 (.tmp 6)) none,
  .op (.ari 36 .sub .i64 (.tmp 35) (.const (.int .i64 224))) none,
  .op (.mov 6 (.tmp 36)) none,
  .keep [0, 1, 6, 7]]
def r39_13 : List G := [.op (.mov 8 (.const (.int .i64 2048))) none,
  .keep [0, 1, 6, 7, 8]]
def r39_14 : List G := [.op (.mov 38 (.tmp 6)) none,
  .op (.ari 39 .geq .i64 (.tmp 38) (.const (.int .i64 240))) none,
  .op (.mov 40 (.tmp 39)) none,
  .op (.mov 41 (.tmp 6)) (some (40, true)),
  .op (.ari 42 .lss .i64 (.tmp 41) (.const (.int .i64 245))) (some (40, true)),
  .op (.pick 43 (.tmp 40) (.tmp 42) (.const (.bool false))) none,
  .op (.mov 37 (.tmp 43)) none,
  .keep [0, 1, 6, 37]]
def r39_15 : List G := [.op (.mov 7 (.const (.int .i64 3))) none,
  .keep [0, 1, 6, 7]]
def r39_16 : List G := [.op (.mov 44 (.tmp 6)) none,
  .op (.ari 45 .sub .i64 (.tmp 44) (.const (.int .i64 240))) none,
  .op (.mov 6 (.tmp 45)) none,
  .keep [0, 1, 6, 7]]
def r39_17 : List G := [.op (.mov 8 (.const (.int .i64 65536))) none,
  .keep [0, 1, 6, 7, 8]]
def r39_3 : List G := [.op (.mov 4 (.const (.int .i64 (-1)))) none,
  .op (.mov 5 (.const (.int .i64 1))) none,
  .keep [4, 5]]
def r39_18 : List G := [.op (.mov 46 (.tmp 0)) none,
  .op (.lenS 47 (.tmp 46)) none,
  .op (.mov 48 (.tmp 1)) none,
  .op (.ari 49 .sub .i64 (.tmp 47) (.tmp 48)) none,
  .op (.mov 50 (.tmp 7)) none,
  .op (.ari 51 .leq .i64 (.tmp 49) (.tmp 50)) none,
  .keep [0, 1, 6, 7, 8, 51]]
def r39_19 : List G := [.op (.mov 4 (.const (.int .i64 (-1)))) none,
  .op (.mov 5 (.const (.int .i64 1))) none,
  .keep [4, 5]]
def r39_20 : List G := [.op (.mov 9 (.const (.int .i64 1))) none,
  .keep [0, 1, 6, 7, 8, 9]]
def r39_21 : List G := [.op (.mov 52 (.tmp 9)) none,
  .op (.mov 53 (.tmp 7)) none,
  .op (.ari 54 .leq .i64 (.tmp 52) (.tmp 53)) none,
  .keep [0, 1, 6, 7, 8, 9, 54]]
def r39_23 : List G := [.op (.mov 57 (.tmp 0)) none,
  .op (.mov 58 (.tmp 1)) none,
  .op (.mov 59 (.tmp 9)) none,
  .op (.ari 60 .add .i64 (.tmp 58) (.tmp 59)) none,
  .op (.idxS 61 (.tmp 57) (.tmp 60)) none,
  .op (.conv 62 .i64 (.tmp 61)) none,
  .op (.mov 10 (.tmp 62)) none,
  .keep [0, 1, 6, 7, 8, 9, 10]]
def r39_24 : List G := [.op (.mov 63 (.tmp 10)) none,
  .op (.ari 64 .lss .i64 (.tmp 63) (.const (.int .i64 128))) none,
  .op (.mov 65 (.tmp 64)) none,
  .op (.mov 66 (.tmp 10)) (some (65, false)),
  .op (.ari 67 .gtr .i64 (.tmp 66) (.const (.int .i64 191))) (some (65, false)),
  .op (.pick 68 (.tmp 65) (.const (.bool true)) (.tmp 67)) none,
  .keep [0, 1, 6, 7, 8, 9, 10, 68]]
def r39_25 : List G := [.op (.mov 4 (.const (.int .i64 (-1)))) none,
  .op (.mov 5 (.const (.int .i64 1))) none,
  .keep [4, 5]]
def r39_26 : List G := [.op (.mov 69 (.tmp 6)) none,
  .op (.ari 70 .mul .i64 (.tmp 69) (.const (.int .i64 64))) none,
  .op (.mov 71 (.tmp 10)) none,
  .op (.ari 72 .add .i64 (.tmp 70) (.tmp 71)) none,
  .op (.ari 73 .sub .i64 (.tmp 72) (.const (.int .i64 128))) none,
  .op (.mov 6 (.tmp 73)) none,
  .keep [0, 1, 6, 7, 8, 9]]
def r39_22 : List G := [.op (.mov 55 (.tmp 9)) none,
  .op (.ari 56 .add .i64 (.tmp 55) (.const (.int .i64 1))) none,
  .op (.mov 9 (.tmp 56)) none,
  .keep [0, 1, 6, 7, 8, 9]]
def r39_27 : List G := [.op (.mov 74 (.tmp 6)) none,
  .op (.mov 75 (.tmp 8)) none,
  .op (.ari 76 .lss .i64 (.tmp 74) (.tmp 75)) none,
  .op (.mov 77 (.tmp 76)) none,
  .op (.mov 78 (.tmp 6)) (some (77, false)),
  .op (.ari 79 .gtr .i64 (.tmp 78) (.const (.int .i64 1114111))) (some (77, false)),
  .op (.pick 80 (.tmp 77) (.const (.bool true)) (.tmp 79)) none,
  .op (.mov 81 (.tmp 80)) none,
  .op (.mov 82 (.tmp 6)) (some (81, false)),
  .op (.ari 83 .geq .i64 (.tmp 82) (.const (.int .i64 55296))) (some (81, false)),
  .op (.mov 84 (.tmp 83)) (some (81, false)),
  .op (.mov 85 (.tmp 6)) (some (84, true)),
  .op (.ari 86 .leq .i64 (.tmp 85) (.const (.int .i64 57343))) (some (84, true)),
  .op (.pick 87 (.tmp 84) (.tmp 86) (.const (.bool false))) (some (81, false)),
  .op (.pick 88 (.tmp 81) (.const (.bool true)) (.tmp 87)) none,
  .keep [6, 7, 88]]
def r39_28 : List G := [.op (.mov 4 (.const (.int .i64 (-1)))) none,
  .op (.mov 5 (.const (.int .i64 1))) none,
  .keep [4, 5]]
def r39_29 : List G := [.op (.mov 89 (.tmp 6)) none,
  .op (.mov 90 (.tmp 7)) none,
  .op (.ari 91 .add .i64 (.tmp 90) (.const (.int .i64 1))) none,
  .op (.mov 4 (.tmp 89)) none,
  .op (.mov 5 (.tmp 91)) none,
  .keep [4, 5]]
def c39 : C := (.seq (.region r39_0) (.seq (.region r39_1) (.seq (.region r39_2) (.seq (.block 0 (.seq (.region r39_4) (.cond (.tmp 15) (.seq (.region r39_5) .ret) (.seq (.region r39_6) (.cond (.tmp 19) (.seq (.region r39_7) (.seq (.region r39_8) (.region r39_9))) (.seq (.region r39_10) (.cond (.tmp 28) (.seq (.region r39_11) (.seq (.region r39_12) (.region r39_13))) (.seq (.region r39_14) (.cond (.tmp 37) (.seq (.region r39_15) (.seq (.region r39_16) (.region r39_17))) (.seq (.region r39_3) .ret)))))))))) (.seq (.seq (.region r39_18) (.cond (.tmp 51) (.seq (.region r39_19) .ret) .skip)) (.seq (.seq (.region r39_20) (.block 1 (.loop (.seq (.seq (.region r39_21) (.cond (.tmp 54) .skip (.exit 1))) (.seq (.block 2 (.seq (.region r39_23) (.seq (.seq (.region r39_24) (.cond (.tmp 68) (.seq (.region r39_25) .ret) .skip)) (.region r39_26)))) (.region r39_22)))))) (.seq (.seq (.region r39_27) (.cond (.tmp 88) (.seq (.region r39_28) .ret) .skip)) (.seq (.region r39_29) .ret))))))))
def x39 := PLift.up (andx (ux Tryd.prog r39_0.eq_1) (andx (ux Tryd.prog r39_1.eq_1) (andx (ux Tryd.prog r39_2.eq_1) (andx (ux Tryd.prog r39_4.eq_1) (andx (ux Tryd.prog r39_5.eq_1) (andx (ux Tryd.prog r39_6.eq_1) (andx (ux Tryd.prog r39_7.eq_1) (andx (ux Tryd.prog r39_8.eq_1) (andx (ux Tryd.prog r39_9.eq_1) (andx (ux Tryd.prog r39_10.eq_1) (andx (ux Tryd.prog r39_11.eq_1) (andx (ux Tryd.prog r39_12.eq_1) (andx (ux Tryd.prog r39_13.eq_1) (andx (ux Tryd.prog r39_14.eq_1) (andx (ux Tryd.prog r39_15.eq_1) (andx (ux Tryd.prog r39_16.eq_1) (andx (ux Tryd.prog r39_17.eq_1) (andx (ux Tryd.prog r39_3.eq_1) (andx (ux Tryd.prog r39_18.eq_1) (andx (ux Tryd.prog r39_19.eq_1) (andx (ux Tryd.prog r39_20.eq_1) (andx (ux Tryd.prog r39_21.eq_1) (andx (ux Tryd.prog r39_23.eq_1) (andx (ux Tryd.prog r39_24.eq_1) (andx (ux Tryd.prog r39_25.eq_1) (andx (ux Tryd.prog r39_26.eq_1) (andx (ux Tryd.prog r39_22.eq_1) (andx (ux Tryd.prog r39_27.eq_1) (andx (ux Tryd.prog r39_28.eq_1) (ux Tryd.prog r39_29.eq_1))))))))))))))))))))))))))))))
theorem low39 : Tryd.f39.body.bind (lowerC Tryd.prog 92 (fun _ => none)) = some c39.erase := by kernel_rfl
theorem enter39 {args : List Value} {w : World} {R : Ending → World → Prop} (ha : args.length ≤ 92) (h : vc Tryd.prog c39 (endPost [.t 4, .t 5] R) (argEnv 0 args) w) : Calls Tryd.prog 39 args.toArray w R :=
  calls_of_vc Tryd.func39 rfl low39 rfl ha h
/-- The code of aquatint/aquatintref01.hex. -/
def r40_0 : List G := [.op (.mov 4 (.const (.string { data := #[] }))) none,
  .keep [0, 1]]
def r40_1 : List G := [.op (.mov 5 (.const (.string { data := #[48, 49, 50, 51, 52, 53, 54, 55, 56, 57, 97, 98, 99, 100, 101, 102] }))) none,
  .keep [0, 1, 5]]
def r40_2 : List G := [.op (.mov 6 (.const (.string { data := #[] }))) none,
  .keep [0, 1, 5, 6]]
def r40_3 : List G := [.op (.mov 7 (.tmp 0)) none,
  .op (.ari 8 .gtr .i64 (.tmp 7) (.const (.int .i64 0))) none,
  .op (.mov 9 (.tmp 8)) none,
  .op (.mov 10 (.tmp 6)) (some (9, false)),
  .op (.lenS 11 (.tmp 10)) (some (9, false)),
  .op (.mov 12 (.tmp 1)) (some (9, false)),
  .op (.ari 13 .lss .i64 (.tmp 11) (.tmp 12)) (some (9, false)),
  .op (.pick 14 (.tmp 9) (.const (.bool true)) (.tmp 13)) none,
  .keep [0, 1, 5, 6, 14]]
def r40_4 : List G := [.op (.mov 15 (.tmp 5)) none,
  .op (.mov 16 (.tmp 0)) none,
  .op (.ari 17 .rem .i64 (.tmp 16) (.const (.int .i64 16))) none,
  .op (.idxS 18 (.tmp 15) (.tmp 17)) none,
  .op (.bslice 19 5 1 1 [(0, 1, (.tmp 18))]) none,
  .op (.conBS 20 (.tmp 19)) none,
  .op (.mov 21 (.tmp 6)) none,
  .op (.sop 22 .add (.tmp 20) (.tmp 21)) none,
  .op (.mov 6 (.tmp 22)) none,
  .keep [0, 1, 5, 6]]
def r40_5 : List G := [.op (.mov 23 (.tmp 0)) none,
  .op (.ari 24 .quo .i64 (.tmp 23) (.const (.int .i64 16))) none,
  .op (.mov 0 (.tmp 24)) none,
  .keep [0, 1, 5, 6]]
def r40_6 : List G := [.op (.mov 25 (.tmp 6)) none,
  .op (.mov 4 (.tmp 25)) none,
  .keep [4]]
def c40 : C := (.seq (.region r40_0) (.seq (.region r40_1) (.seq (.region r40_2) (.seq (.block 0 (.loop (.seq (.seq (.region r40_3) (.cond (.tmp 14) .skip (.exit 0))) (.block 1 (.seq (.region r40_4) (.region r40_5)))))) (.seq (.region r40_6) .ret)))))
def x40 := PLift.up (andx (ux Tryd.prog r40_0.eq_1) (andx (ux Tryd.prog r40_1.eq_1) (andx (ux Tryd.prog r40_2.eq_1) (andx (ux Tryd.prog r40_3.eq_1) (andx (ux Tryd.prog r40_4.eq_1) (andx (ux Tryd.prog r40_5.eq_1) (ux Tryd.prog r40_6.eq_1)))))))
theorem low40 : Tryd.f40.body.bind (lowerC Tryd.prog 26 (fun _ => none)) = some c40.erase := by kernel_rfl
theorem enter40 {args : List Value} {w : World} {R : Ending → World → Prop} (ha : args.length ≤ 26) (h : vc Tryd.prog c40 (endPost [.t 4] R) (argEnv 0 args) w) : Calls Tryd.prog 40 args.toArray w R :=
  calls_of_vc Tryd.func40 rfl low40 rfl ha h
/-- The code of aquatint/aquatintref01.fault. -/
def r41_0 : List G := [.op (.mov 4 (.const (.string { data := #[] }))) none,
  .op (.mov 5 (.const (.int .i64 0))) none,
  .op (.mov 6 (.const (.int .i64 0))) none,
  .keep [0, 1]]
def r41_1 : List G := [.op (.mov 7 (.tmp 1)) none,
  .op (.mov 8 (.tmp 0)) none,
  .op (.lenS 9 (.tmp 8)) none,
  .op (.ari 10 .geq .i64 (.tmp 7) (.tmp 9)) none,
  .keep [0, 1, 10]]
def r41_2 : List G := [.op (.mov 11 (.tmp 0)) none,
  .op (.lenS 12 (.tmp 11)) none,
  .op (.mov 4 (.const (.string { data := #[] }))) none,
  .op (.mov 5 (.tmp 12)) none,
  .op (.mov 6 (.const (.int .i64 2))) none,
  .keep [4, 5, 6]]
def r41_3 : List G := [.op (.mov 13 (.tmp 1)) none,
  .op (.mov 4 (.const (.string { data := #[] }))) none,
  .op (.mov 5 (.tmp 13)) none,
  .op (.mov 6 (.const (.int .i64 16))) none,
  .keep [4, 5, 6]]
def c41 : C := (.seq (.region r41_0) (.seq (.seq (.region r41_1) (.cond (.tmp 10) (.seq (.region r41_2) .ret) .skip)) (.seq (.region r41_3) .ret)))
def x41 := PLift.up (andx (ux Tryd.prog r41_0.eq_1) (andx (ux Tryd.prog r41_1.eq_1) (andx (ux Tryd.prog r41_2.eq_1) (ux Tryd.prog r41_3.eq_1))))
theorem low41 : Tryd.f41.body.bind (lowerC Tryd.prog 14 (fun _ => none)) = some c41.erase := by kernel_rfl
theorem enter41 {args : List Value} {w : World} {R : Ending → World → Prop} (ha : args.length ≤ 14) (h : vc Tryd.prog c41 (endPost [.t 4, .t 5, .t 6] R) (argEnv 0 args) w) : Calls Tryd.prog 41 args.toArray w R :=
  calls_of_vc Tryd.func41 rfl low41 rfl ha h
/-- The code of aquatint/aquatintref01.digit. -/
def r42_0 : List G := [.op (.mov 2 (.const (.int .i64 0))) none,
  .keep [0]]
def r42_1 : List G := [.op (.mov 3 (.tmp 0)) none,
  .op (.ari 4 .geq .u8 (.tmp 3) (.const (.int .u8 48))) none,
  .op (.mov 5 (.tmp 4)) none,
  .op (.mov 6 (.tmp 0)) (some (5, true)),
  .op (.ari 7 .leq .u8 (.tmp 6) (.const (.int .u8 57))) (some (5, true)),
  .op (.pick 8 (.tmp 5) (.tmp 7) (.const (.bool false))) none,
  .keep [0, 8]]
def r42_2 : List G := [.op (.mov 9 (.tmp 0)) none,
  .op (.ari 10 .sub .u8 (.tmp 9) (.const (.int .u8 48))) none,
  .op (.conv 11 .i64 (.tmp 10)) none,
  .op (.mov 2 (.tmp 11)) none,
  .keep [2]]
def r42_3 : List G := [.op (.mov 12 (.tmp 0)) none,
  .op (.ari 13 .geq .u8 (.tmp 12) (.const (.int .u8 97))) none,
  .op (.mov 14 (.tmp 13)) none,
  .op (.mov 15 (.tmp 0)) (some (14, true)),
  .op (.ari 16 .leq .u8 (.tmp 15) (.const (.int .u8 102))) (some (14, true)),
  .op (.pick 17 (.tmp 14) (.tmp 16) (.const (.bool false))) none,
  .keep [0, 17]]
def r42_4 : List G := [.op (.mov 18 (.tmp 0)) none,
  .op (.ari 19 .sub .u8 (.tmp 18) (.const (.int .u8 97))) none,
  .op (.conv 20 .i64 (.tmp 19)) none,
  .op (.ari 21 .add .i64 (.tmp 20) (.const (.int .i64 10))) none,
  .op (.mov 2 (.tmp 21)) none,
  .keep [2]]
def r42_5 : List G := [.op (.mov 2 (.const (.int .i64 (-1)))) none,
  .keep [2]]
def c42 : C := (.seq (.region r42_0) (.seq (.seq (.region r42_1) (.cond (.tmp 8) (.seq (.region r42_2) .ret) .skip)) (.seq (.seq (.region r42_3) (.cond (.tmp 17) (.seq (.region r42_4) .ret) .skip)) (.seq (.region r42_5) .ret))))
def x42 := PLift.up (andx (ux Tryd.prog r42_0.eq_1) (andx (ux Tryd.prog r42_1.eq_1) (andx (ux Tryd.prog r42_2.eq_1) (andx (ux Tryd.prog r42_3.eq_1) (andx (ux Tryd.prog r42_4.eq_1) (ux Tryd.prog r42_5.eq_1))))))
theorem low42 : Tryd.f42.body.bind (lowerC Tryd.prog 22 (fun _ => none)) = some c42.erase := by kernel_rfl
theorem enter42 {args : List Value} {w : World} {R : Ending → World → Prop} (ha : args.length ≤ 22) (h : vc Tryd.prog c42 (endPost [.t 2] R) (argEnv 0 args) w) : Calls Tryd.prog 42 args.toArray w R :=
  calls_of_vc Tryd.func42 rfl low42 rfl ha h
/-- The code of aquatint/aquatintref01.Bytes. -/
def r43_0 : List G := [.op (.mov 2 (.const (.string { data := #[] }))) none,
  .keep [0]]
def r43_1 : List G := [.op (.mov 4 (.tmp 0)) none,
  .op (.ari 5 .lss .i64 (.tmp 4) (.const (.int .i64 128))) none,
  .op (.mov 3 (.tmp 5)) none,
  .keep [0, 3]]
def r43_2 : List G := [.op (.mov 6 (.tmp 0)) none,
  .op (.conv 7 .u8 (.tmp 6)) none,
  .op (.bslice 8 5 1 1 [(0, 1, (.tmp 7))]) none,
  .op (.conBS 9 (.tmp 8)) none,
  .op (.mov 2 (.tmp 9)) none,
  .keep [2]]
def r43_3 : List G := [.op (.mov 11 (.tmp 0)) none,
  .op (.ari 12 .lss .i64 (.tmp 11) (.const (.int .i64 2048))) none,
  .op (.mov 10 (.tmp 12)) none,
  .keep [0, 10]]
def r43_4 : List G := [.op (.mov 13 (.tmp 0)) none,
  .op (.ari 14 .quo .i64 (.tmp 13) (.const (.int .i64 64))) none,
  .op (.ari 15 .add .i64 (.const (.int .i64 192)) (.tmp 14)) none,
  .op (.conv 16 .u8 (.tmp 15)) none,
  .op (.mov 17 (.tmp 0)) none,
  .op (.ari 18 .rem .i64 (.tmp 17) (.const (.int .i64 64))) none,
  .op (.ari 19 .add .i64 (.const (.int .i64 128)) (.tmp 18)) none,
  .op (.conv 20 .u8 (.tmp 19)) none,
  .op (.bslice 21 5 2 1 [(0, 1, (.tmp 16)), (1, 1, (.tmp 20))]) none,
  .op (.conBS 22 (.tmp 21)) none,
  .op (.mov 2 (.tmp 22)) none,
  .keep [2]]
def r43_5 : List G := [.op (.mov 24 (.tmp 0)) none,
  .op (.ari 25 .lss .i64 (.tmp 24) (.const (.int .i64 65536))) none,
  .op (.mov 23 (.tmp 25)) none,
  .keep [0, 23]]
def r43_6 : List G := [.op (.mov 26 (.tmp 0)) none,
  .op (.ari 27 .quo .i64 (.tmp 26) (.const (.int .i64 4096))) none,
  .op (.ari 28 .add .i64 (.const (.int .i64 224)) (.tmp 27)) none,
  .op (.conv 29 .u8 (.tmp 28)) none,
  .op (.mov 30 (.tmp 0)) none,
  .op (.ari 31 .quo .i64 (.tmp 30) (.const (.int .i64 64))) none,
  .op (.ari 32 .rem .i64 (.tmp 31) (.const (.int .i64 64))) none,
  .op (.ari 33 .add .i64 (.const (.int .i64 128)) (.tmp 32)) none,
  .op (.conv 34 .u8 (.tmp 33)) none,
  .op (.mov 35 (.tmp 0)) none,
  .op (.ari 36 .rem .i64 (.tmp 35) (.const (.int .i64 64))) none,
  .op (.ari 37 .add .i64 (.const (.int .i64 128)) (.tmp 36)) none,
  .op (.conv 38 .u8 (.tmp 37)) none,
  .op (.bslice 39 5 3 1 [(0, 1, (.tmp 29)), (1, 1, (.tmp 34)), (2, 1, (.tmp 38))]) none,
  .op (.conBS 40 (.tmp 39)) none,
  .op (.mov 2 (.tmp 40)) none,
  .keep [2]]
def r43_7 : List G := [.op (.mov 41 (.tmp 0)) none,
  .op (.ari 42 .quo .i64 (.tmp 41) (.const (.int .i64 262144))) none,
  .op (.ari 43 .add .i64 (.const (.int .i64 240)) (.tmp 42)) none,
  .op (.conv 44 .u8 (.tmp 43)) none,
  .op (.mov 45 (.tmp 0)) none,
  .op (.ari 46 .quo .i64 (.tmp 45) (.const (.int .i64 4096))) none,
  .op (.ari 47 .rem .i64 (.tmp 46) (.const (.int .i64 64))) none,
  .op (.ari 48 .add .i64 (.const (.int .i64 128)) (.tmp 47)) none,
  .op (.conv 49 .u8 (.tmp 48)) none,
  .op (.mov 50 (.tmp 0)) none,
  .op (.ari 51 .quo .i64 (.tmp 50) (.const (.int .i64 64))) none,
  .op (.ari 52 .rem .i64 (.tmp 51) (.const (.int .i64 64))) none,
  .op (.ari 53 .add .i64 (.const (.int .i64 128)) (.tmp 52)) none,
  .op (.conv 54 .u8 (.tmp 53)) none,
  .op (.mov 55 (.tmp 0)) none,
  .op (.ari 56 .rem .i64 (.tmp 55) (.const (.int .i64 64))) none,
  .op (.ari 57 .add .i64 (.const (.int .i64 128)) (.tmp 56)) none,
  .op (.conv 58 .u8 (.tmp 57)) none,
  .op (.bslice 59 5 4 1 [(0, 1, (.tmp 44)), (1, 1, (.tmp 49)), (2, 1, (.tmp 54)), (3, 1, (.tmp 58))]) none,
  .op (.conBS 60 (.tmp 59)) none,
  .op (.mov 2 (.tmp 60)) none,
  .keep [2]]
def c43 : C := (.seq (.region r43_0) (.seq (.block 0 (.seq (.region r43_1) (.cond (.tmp 3) (.seq (.region r43_2) .ret) (.seq (.region r43_3) (.cond (.tmp 10) (.seq (.region r43_4) .ret) (.seq (.region r43_5) (.cond (.tmp 23) (.seq (.region r43_6) .ret) .skip))))))) (.seq (.region r43_7) .ret)))
def x43 := PLift.up (andx (ux Tryd.prog r43_0.eq_1) (andx (ux Tryd.prog r43_1.eq_1) (andx (ux Tryd.prog r43_2.eq_1) (andx (ux Tryd.prog r43_3.eq_1) (andx (ux Tryd.prog r43_4.eq_1) (andx (ux Tryd.prog r43_5.eq_1) (andx (ux Tryd.prog r43_6.eq_1) (ux Tryd.prog r43_7.eq_1))))))))
theorem low43 : Tryd.f43.body.bind (lowerC Tryd.prog 61 (fun _ => none)) = some c43.erase := by kernel_rfl
theorem enter43 {args : List Value} {w : World} {R : Ending → World → Prop} (ha : args.length ≤ 61) (h : vc Tryd.prog c43 (endPost [.t 2] R) (argEnv 0 args) w) : Calls Tryd.prog 43 args.toArray w R :=
  calls_of_vc Tryd.func43 rfl low43 rfl ha h
end Go.Proofs.YtgibicifflfpfaaDoor
