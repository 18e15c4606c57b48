/-
  The code of glyph and of the library's utf8, read. Conditions: none.
-/
import Derived.Test.YtgibicifflfpfaaDoorE1
set_option autoImplicit false
set_option linter.unusedSimpArgs false
set_option linter.unusedVariables false
namespace Go.Proofs.YtgibicifflfpfaaDoor
open X
set_option maxRecDepth 100000
/-- The code of aquatint/glyph.Quote. -/
def r20_0 : List G := [.op (.mov 2 (.const (.string { data := #[] }))) none,
  .keep [0]]
def r20_1 : List G := [.op (.mov 3 (.const (.string { data := #[34] }))) none,
  .keep [0, 3]]
def r20_2 : List G := [.op (.mov 6 (.tmp 0)) none,
  .op (.rng 7 (.tmp 6)) none,
  .keep [0, 3, 7]]
def r20_3 : List G := [.op (.nxt 8 (.tmp 7)) none,
  .op (.ext 9 0 (.tmp 8)) none,
  .keep [0, 3, 7, 8, 9]]
def r20_4 : List G := [.op (.ext 10 1 (.tmp 8)) none,
  .op (.ext 11 2 (.tmp 8)) none,
  .op (.mov 4 (.tmp 10)) none,
  .op (.mov 5 (.tmp 11)) none,
  .keep [0, 3, 4, 5, 7]]
def r20_5 : List G := [.op (.mov 12 (.tmp 0)) none,
  .op (.mov 13 (.tmp 4)) none,
  .op (.mov 14 (.tmp 5)) none,
  .op (.call (some 15) 30 [(.tmp 12), (.tmp 13), (.tmp 14)]) none,
  .keep [0, 3, 4, 5, 7, 15]]
def r20_6 : List G := [.op (.mov 16 (.tmp 3)) none,
  .op (.mov 17 (.tmp 0)) none,
  .op (.mov 18 (.tmp 4)) none,
  .op (.idxS 19 (.tmp 17) (.tmp 18)) none,
  .op (.conv 20 .i32 (.tmp 19)) none,
  .op (.call (some 21) 31 [(.tmp 20), (.const (.int .i64 2))]) none,
  .op (.sop 22 .add (.const (.string { data := #[92, 120] })) (.tmp 21)) none,
  .op (.sop 23 .add (.tmp 16) (.tmp 22)) none,
  .op (.mov 3 (.tmp 23)) none,
  .keep [0, 3, 7]]
def r20_7 : List G := [.op (.mov 24 (.tmp 3)) none,
  .op (.mov 25 (.tmp 5)) none,
  .op (.call (some 26) 32 [(.tmp 25)]) none,
  .op (.sop 27 .add (.tmp 24) (.tmp 26)) none,
  .op (.mov 3 (.tmp 27)) none,
  .keep [0, 3, 7]]
def r20_8 : List G := [.op (.mov 28 (.tmp 3)) none,
  .op (.sop 29 .add (.tmp 28) (.const (.string { data := #[34] }))) none,
  .op (.mov 2 (.tmp 29)) none,
  .keep [2]]
def c20 : C := (.seq (.region r20_0) (.seq (.region r20_1) (.seq (.seq (.region r20_2) (.block 0 (.loop (.seq (.region r20_3) (.seq (.cond (.tmp 9) .skip (.exit 0)) (.block 1 (.seq (.region r20_4) (.seq (.region r20_5) (.cond (.tmp 15) (.region r20_6) (.region r20_7)))))))))) (.seq (.region r20_8) .ret))))
def x20 := PLift.up (andx (ux Tryd.prog r20_0.eq_1) (andx (ux Tryd.prog r20_1.eq_1) (andx (ux Tryd.prog r20_2.eq_1) (andx (ux Tryd.prog r20_3.eq_1) (andx (ux Tryd.prog r20_4.eq_1) (andx (ux Tryd.prog r20_5.eq_1) (andx (ux Tryd.prog r20_6.eq_1) (andx (ux Tryd.prog r20_7.eq_1) (ux Tryd.prog r20_8.eq_1)))))))))
theorem low20 : Tryd.f20.body.bind (lowerC Tryd.prog 30 (fun _ => none)) = some c20.erase := by kernel_rfl
theorem enter20 {args : List Value} {w : World} {R : Ending → World → Prop} (ha : args.length ≤ 30) (h : vc Tryd.prog c20 (endPost [.t 2] R) (argEnv 0 args) w) : Calls Tryd.prog 20 args.toArray w R :=
  calls_of_vc Tryd.func20 rfl low20 rfl ha h
/-- The code of aquatint/glyph.broken. -/
def r30_0 : List G := [.op (.mov 6 (.const (.bool false))) none,
  .keep [0, 1, 2]]
def r30_1 : List G := [.op (.mov 9 (.tmp 2)) none,
  .op (.ari 10 .neq .i32 (.tmp 9) (.const (.int .i32 65533))) none,
  .keep [0, 1, 10]]
def r30_2 : List G := [.op (.mov 6 (.const (.bool false))) none,
  .keep [6]]
def r30_3 : List G := [.op (.mov 12 (.tmp 0)) none,
  .op (.mov 13 (.tmp 1)) none,
  .op (.sliceS 14 (.tmp 12) (some (.tmp 13)) none) none,
  .op (.call (some 15) 44 [(.tmp 14)]) none,
  .op (.mov 11 (.tmp 15)) none,
  .op (.ext 16 0 (.tmp 11)) none,
  .op (.ext 17 1 (.tmp 11)) none,
  .op (.mov 7 (.tmp 16)) none,
  .op (.mov 8 (.tmp 17)) none,
  .keep [8]]
def r30_4 : List G := [.op (.mov 18 (.tmp 8)) none,
  .op (.ari 19 .eql .i64 (.tmp 18) (.const (.int .i64 1))) none,
  .op (.mov 6 (.tmp 19)) none,
  .keep [6]]
def c30 : C := (.seq (.region r30_0) (.seq (.seq (.region r30_1) (.cond (.tmp 10) (.seq (.region r30_2) .ret) .skip)) (.seq (.region r30_3) (.seq (.region r30_4) .ret))))
def x30 := PLift.up (andx (ux Tryd.prog r30_0.eq_1) (andx (ux Tryd.prog r30_1.eq_1) (andx (ux Tryd.prog r30_2.eq_1) (andx (ux Tryd.prog r30_3.eq_1) (ux Tryd.prog r30_4.eq_1)))))
theorem low30 : Tryd.f30.body.bind (lowerC Tryd.prog 20 (fun _ => none)) = some c30.erase := by kernel_rfl
theorem enter30 {args : List Value} {w : World} {R : Ending → World → Prop} (ha : args.length ≤ 20) (h : vc Tryd.prog c30 (endPost [.t 6] R) (argEnv 0 args) w) : Calls Tryd.prog 30 args.toArray w R :=
  calls_of_vc Tryd.func30 rfl low30 rfl ha h
/-- The code of aquatint/glyph.hex. -/
def r31_0 : List G := [.op (.mov 4 (.const (.string { data := #[] }))) none,
  .keep [0, 1]]
def r31_1 : List G := [.op (.mov 5 (.const (.string { data := #[] }))) none,
  .keep [0, 1, 5]]
def r31_2 : List G := [.op (.mov 6 (.tmp 0)) none,
  .op (.ari 7 .gtr .i32 (.tmp 6) (.const (.int .i32 0))) none,
  .op (.mov 8 (.tmp 7)) none,
  .op (.mov 9 (.tmp 5)) (some (8, false)),
  .op (.lenS 10 (.tmp 9)) (some (8, false)),
  .op (.mov 11 (.tmp 1)) (some (8, false)),
  .op (.ari 12 .lss .i64 (.tmp 10) (.tmp 11)) (some (8, false)),
  .op (.pick 13 (.tmp 8) (.const (.bool true)) (.tmp 12)) none,
  .keep [0, 1, 5, 13]]
def r31_3 : List G := [.op (.mov 14 (.tmp 0)) none,
  .op (.ari 15 .and .i32 (.tmp 14) (.const (.int .i32 15))) none,
  .op (.mov 16 (.tmp 0)) none,
  .op (.ari 17 .and .i32 (.tmp 16) (.const (.int .i32 15))) none,
  .op (.ari 18 .add .i32 (.tmp 17) (.const (.int .i32 1))) none,
  .op (.sliceS 19 (.const (.string { data := #[48, 49, 50, 51, 52, 53, 54, 55, 56, 57, 97, 98, 99, 100, 101, 102] })) (some (.tmp 15)) (some (.tmp 18))) none,
  .op (.mov 20 (.tmp 5)) none,
  .op (.sop 21 .add (.tmp 19) (.tmp 20)) none,
  .op (.mov 5 (.tmp 21)) none,
  .keep [0, 1, 5]]
def r31_4 : List G := [.op (.mov 22 (.tmp 0)) none,
  .op (.shf 23 .shr .i32 (.tmp 22) (.const (.int .u64 4))) none,
  .op (.mov 0 (.tmp 23)) none,
  .keep [0, 1, 5]]
def r31_5 : List G := [.op (.mov 24 (.tmp 5)) none,
  .op (.mov 4 (.tmp 24)) none,
  .keep [4]]
def c31 : C := (.seq (.region r31_0) (.seq (.region r31_1) (.seq (.block 0 (.loop (.seq (.seq (.region r31_2) (.cond (.tmp 13) .skip (.exit 0))) (.block 1 (.seq (.region r31_3) (.region r31_4)))))) (.seq (.region r31_5) .ret))))
def x31 := PLift.up (andx (ux Tryd.prog r31_0.eq_1) (andx (ux Tryd.prog r31_1.eq_1) (andx (ux Tryd.prog r31_2.eq_1) (andx (ux Tryd.prog r31_3.eq_1) (andx (ux Tryd.prog r31_4.eq_1) (ux Tryd.prog r31_5.eq_1))))))
theorem low31 : Tryd.f31.body.bind (lowerC Tryd.prog 25 (fun _ => none)) = some c31.erase := by kernel_rfl
theorem enter31 {args : List Value} {w : World} {R : Ending → World → Prop} (ha : args.length ≤ 25) (h : vc Tryd.prog c31 (endPost [.t 4] R) (argEnv 0 args) w) : Calls Tryd.prog 31 args.toArray w R :=
  calls_of_vc Tryd.func31 rfl low31 rfl ha h
/-- The code of aquatint/glyph.quoted. -/
def r32_0 : List G := [.op (.mov 2 (.const (.string { data := #[] }))) none,
  .keep [0]]
def r32_1 : List G := [.op (.mov 4 (.tmp 0)) none,
  .op (.ari 5 .eql .i32 (.tmp 4) (.const (.int .i32 34))) none,
  .op (.mov 6 (.tmp 5)) none,
  .op (.mov 7 (.tmp 0)) (some (6, false)),
  .op (.ari 8 .eql .i32 (.tmp 7) (.const (.int .i32 92))) (some (6, false)),
  .op (.pick 9 (.tmp 6) (.const (.bool true)) (.tmp 8)) none,
  .op (.mov 3 (.tmp 9)) none,
  .keep [0, 3]]
def r32_2 : List G := [.op (.mov 10 (.tmp 0)) none,
  .op (.conIS 11 (.tmp 10)) none,
  .op (.sop 12 .add (.const (.string { data := #[92] })) (.tmp 11)) none,
  .op (.mov 2 (.tmp 12)) none,
  .keep [2]]
def r32_3 : List G := [.op (.mov 14 (.tmp 0)) none,
  .op (.ari 15 .eql .i32 (.tmp 14) (.const (.int .i32 10))) none,
  .op (.mov 13 (.tmp 15)) none,
  .keep [0, 13]]
def r32_4 : List G := [.op (.mov 2 (.const (.string { data := #[92, 110] }))) none,
  .keep [2]]
def r32_5 : List G := [.op (.mov 17 (.tmp 0)) none,
  .op (.ari 18 .geq .i32 (.tmp 17) (.const (.int .i32 32))) none,
  .op (.mov 19 (.tmp 18)) none,
  .op (.mov 20 (.tmp 0)) (some (19, true)),
  .op (.ari 21 .leq .i32 (.tmp 20) (.const (.int .i32 126))) (some (19, true)),
  .op (.pick 22 (.tmp 19) (.tmp 21) (.const (.bool false))) none,
  .op (.mov 16 (.tmp 22)) none,
  .keep [0, 16]]
def r32_6 : List G := [.op (.mov 23 (.tmp 0)) none,
  .op (.conIS 24 (.tmp 23)) none,
  .op (.mov 2 (.tmp 24)) none,
  .keep [2]]
def r32_7 : List G := [.op (.mov 25 (.tmp 0)) none,
  .op (.call (some 26) 31 [(.tmp 25), (.const (.int .i64 1))]) none,
  .op (.sop 27 .add (.const (.string { data := #[92, 117, 123] })) (.tmp 26)) none,
  .op (.sop 28 .add (.tmp 27) (.const (.string { data := #[125] }))) none,
  .op (.mov 2 (.tmp 28)) none,
  .keep [2]]
def c32 : C := (.seq (.region r32_0) (.seq (.block 0 (.seq (.region r32_1) (.cond (.tmp 3) (.seq (.region r32_2) .ret) (.seq (.region r32_3) (.cond (.tmp 13) (.seq (.region r32_4) .ret) (.seq (.region r32_5) (.cond (.tmp 16) (.seq (.region r32_6) .ret) .skip))))))) (.seq (.region r32_7) .ret)))
def x32 := PLift.up (andx (ux Tryd.prog r32_0.eq_1) (andx (ux Tryd.prog r32_1.eq_1) (andx (ux Tryd.prog r32_2.eq_1) (andx (ux Tryd.prog r32_3.eq_1) (andx (ux Tryd.prog r32_4.eq_1) (andx (ux Tryd.prog r32_5.eq_1) (andx (ux Tryd.prog r32_6.eq_1) (ux Tryd.prog r32_7.eq_1))))))))
theorem low32 : Tryd.f32.body.bind (lowerC Tryd.prog 29 (fun _ => none)) = some c32.erase := by kernel_rfl
theorem enter32 {args : List Value} {w : World} {R : Ending → World → Prop} (ha : args.length ≤ 29) (h : vc Tryd.prog c32 (endPost [.t 2] R) (argEnv 0 args) w) : Calls Tryd.prog 32 args.toArray w R :=
  calls_of_vc Tryd.func32 rfl low32 rfl ha h
/-- The code of unicode/utf8.DecodeRuneInString. -/
def r44_0 : List G := [.op (.mov 2 (.const (.int .i32 0))) none,
  .op (.mov 3 (.const (.int .i64 0))) none,
  .keep [0]]
def r44_1 : List G := [.op (.mov 4 (.tmp 0)) none,
  .op (.sop 5 .neq (.tmp 4) (.const (.string { data := #[] }))) none,
  .op (.mov 6 (.tmp 5)) none,
  .op (.mov 7 (.tmp 0)) (some (6, true)),
  .op (.idxS 8 (.tmp 7) (.const (.int .i64 0))) (some (6, true)),
  .op (.ari 9 .lss .u8 (.tmp 8) (.const (.int .u8 128))) (some (6, true)),
  .op (.pick 10 (.tmp 6) (.tmp 9) (.const (.bool false))) none,
  .keep [0, 10]]
def r44_2 : List G := [.op (.mov 11 (.tmp 0)) none,
  .op (.idxS 12 (.tmp 11) (.const (.int .i64 0))) none,
  .op (.conv 13 .i32 (.tmp 12)) none,
  .op (.mov 2 (.tmp 13)) none,
  .op (.mov 3 (.const (.int .i64 1))) none,
  .keep [2, 3]]
def r44_3 : List G := [.op (.mov 15 (.tmp 0)) none,
  .op (.call (some 16) 48 [(.tmp 15)]) none,
  .op (.mov 14 (.tmp 16)) none,
  .op (.ext 17 0 (.tmp 14)) none,
  .op (.ext 18 1 (.tmp 14)) none,
  .op (.mov 2 (.tmp 17)) none,
  .op (.mov 3 (.tmp 18)) none,
  .keep [2, 3]]
def c44 : C := (.seq (.region r44_0) (.seq (.seq (.region r44_1) (.cond (.tmp 10) (.seq (.region r44_2) .ret) (.region r44_3))) .ret))
def x44 := PLift.up (andx (ux Tryd.prog r44_0.eq_1) (andx (ux Tryd.prog r44_1.eq_1) (andx (ux Tryd.prog r44_2.eq_1) (ux Tryd.prog r44_3.eq_1))))
theorem low44 : Tryd.f44.body.bind (lowerC Tryd.prog 19 (fun _ => none)) = some c44.erase := by kernel_rfl
theorem enter44 {args : List Value} {w : World} {R : Ending → World → Prop} (ha : args.length ≤ 19) (h : vc Tryd.prog c44 (endPost [.t 2, .t 3] R) (argEnv 0 args) w) : Calls Tryd.prog 44 args.toArray w R :=
  calls_of_vc Tryd.func44 rfl low44 rfl ha h
/-- The code of unicode/utf8.decodeRuneInStringSlow. -/
def r48_0 : List G := [.op (.mov 2 (.const (.int .i32 0))) none,
  .op (.mov 3 (.const (.int .i64 0))) none,
  .keep [0]]
def r48_1 : List G := [.op (.mov 13 (.tmp 0)) none,
  .op (.lenS 14 (.tmp 13)) none,
  .op (.mov 4 (.tmp 14)) none,
  .keep [0, 4]]
def r48_2 : List G := [.op (.mov 15 (.tmp 4)) none,
  .op (.ari 16 .lss .i64 (.tmp 15) (.const (.int .i64 1))) none,
  .keep [0, 4, 16]]
def r48_3 : List G := [.op (.mov 2 (.const (.int .i32 65533))) none,
  .op (.mov 3 (.const (.int .i64 0))) none,
  .keep [2, 3]]
def r48_4 : List G := [.op (.mov 17 (.tmp 0)) none,
  .op (.idxS 18 (.tmp 17) (.const (.int .i64 0))) none,
  .op (.mov 5 (.tmp 18)) none,
  .keep [0, 4, 5]]
def r48_5 : List G := [.op (.mov 19 (.tmp 5)) none,
  .op (.iaddrA 20 256 1 (.global 1) (.tmp 19)) none,
  .op (.load 21 (.tmp 20)) none,
  .op (.mov 6 (.tmp 21)) none,
  .keep [0, 4, 5, 6]]
def r48_6 : List G := [.op (.mov 22 (.tmp 6)) none,
  .op (.ari 23 .geq .u8 (.tmp 22) (.const (.int .u8 240))) none,
  .keep [0, 4, 5, 6, 23]]
def r48_7 : List G := [.op (.mov 24 (.tmp 6)) none,
  .op (.conv 25 .i32 (.tmp 24)) none,
  .op (.shf 26 .shl .i32 (.tmp 25) (.const (.int .u64 31))) none,
  .op (.shf 27 .shr .i32 (.tmp 26) (.const (.int .u64 31))) none,
  .op (.mov 7 (.tmp 27)) none,
  .keep [0, 7]]
def r48_8 : List G := [.op (.mov 28 (.tmp 0)) none,
  .op (.idxS 29 (.tmp 28) (.const (.int .i64 0))) none,
  .op (.conv 30 .i32 (.tmp 29)) none,
  .op (.mov 31 (.tmp 7)) none,
  .op (.ari 32 .andNot .i32 (.tmp 30) (.tmp 31)) none,
  .op (.mov 33 (.tmp 7)) none,
  .op (.ari 34 .and .i32 (.const (.int .i32 65533)) (.tmp 33)) none,
  .op (.ari 35 .or .i32 (.tmp 32) (.tmp 34)) none,
  .op (.mov 2 (.tmp 35)) none,
  .op (.mov 3 (.const (.int .i64 1))) none,
  .keep [2, 3]]
def r48_9 : List G := [.op (.mov 36 (.tmp 6)) none,
  .op (.ari 37 .and .u8 (.tmp 36) (.const (.int .u8 7))) none,
  .op (.conv 38 .i64 (.tmp 37)) none,
  .op (.mov 8 (.tmp 38)) none,
  .keep [0, 4, 5, 6, 8]]
def r48_10 : List G := [.op (.mov 39 (.tmp 6)) none,
  .op (.shf 40 .shr .u8 (.tmp 39) (.const (.int .u64 4))) none,
  .op (.iaddrA 41 16 2 (.global 2) (.tmp 40)) none,
  .op (.loadN 42 2 (.tmp 41)) none,
  .op (.alloc 9 108) none,
  .op (.storeN 2 (.tmp 9) (.tmp 42)) none,
  .keep [0, 4, 5, 8, 9]]
def r48_11 : List G := [.op (.mov 43 (.tmp 4)) none,
  .op (.mov 44 (.tmp 8)) none,
  .op (.ari 45 .lss .i64 (.tmp 43) (.tmp 44)) none,
  .keep [0, 5, 8, 9, 45]]
def r48_12 : List G := [.op (.mov 2 (.const (.int .i32 65533))) none,
  .op (.mov 3 (.const (.int .i64 1))) none,
  .keep [2, 3]]
def r48_13 : List G := [.op (.mov 46 (.tmp 0)) none,
  .op (.idxS 47 (.tmp 46) (.const (.int .i64 1))) none,
  .op (.mov 10 (.tmp 47)) none,
  .keep [0, 5, 8, 9, 10]]
def r48_14 : List G := [.op (.mov 48 (.tmp 10)) none,
  .op (.faddr 49 0 (.tmp 9)) none,
  .op (.load 50 (.tmp 49)) none,
  .op (.ari 51 .lss .u8 (.tmp 48) (.tmp 50)) none,
  .op (.mov 52 (.tmp 51)) none,
  .op (.faddr 53 1 (.tmp 9)) (some (52, false)),
  .op (.load 54 (.tmp 53)) (some (52, false)),
  .op (.mov 55 (.tmp 10)) (some (52, false)),
  .op (.ari 56 .lss .u8 (.tmp 54) (.tmp 55)) (some (52, false)),
  .op (.pick 57 (.tmp 52) (.const (.bool true)) (.tmp 56)) none,
  .keep [0, 5, 8, 10, 57]]
def r48_15 : List G := [.op (.mov 2 (.const (.int .i32 65533))) none,
  .op (.mov 3 (.const (.int .i64 1))) none,
  .keep [2, 3]]
def r48_16 : List G := [.op (.mov 58 (.tmp 8)) none,
  .op (.ari 59 .leq .i64 (.tmp 58) (.const (.int .i64 2))) none,
  .keep [0, 5, 8, 10, 59]]
def r48_17 : List G := [.op (.mov 60 (.tmp 5)) none,
  .op (.ari 61 .and .u8 (.tmp 60) (.const (.int .u8 31))) none,
  .op (.conv 62 .i32 (.tmp 61)) none,
  .op (.shf 63 .shl .i32 (.tmp 62) (.const (.int .u64 6))) none,
  .op (.mov 64 (.tmp 10)) none,
  .op (.ari 65 .and .u8 (.tmp 64) (.const (.int .u8 63))) none,
  .op (.conv 66 .i32 (.tmp 65)) none,
  .op (.ari 67 .or .i32 (.tmp 63) (.tmp 66)) none,
  .op (.mov 2 (.tmp 67)) none,
  .op (.mov 3 (.const (.int .i64 2))) none,
  .keep [2, 3]]
def r48_18 : List G := [.op (.mov 68 (.tmp 0)) none,
  .op (.idxS 69 (.tmp 68) (.const (.int .i64 2))) none,
  .op (.mov 11 (.tmp 69)) none,
  .keep [0, 5, 8, 10, 11]]
def r48_19 : List G := [.op (.mov 70 (.tmp 11)) none,
  .op (.ari 71 .lss .u8 (.tmp 70) (.const (.int .u8 128))) none,
  .op (.mov 72 (.tmp 71)) none,
  .op (.mov 73 (.tmp 11)) (some (72, false)),
  .op (.ari 74 .lss .u8 (.const (.int .u8 191)) (.tmp 73)) (some (72, false)),
  .op (.pick 75 (.tmp 72) (.const (.bool true)) (.tmp 74)) none,
  .keep [0, 5, 8, 10, 11, 75]]
def r48_20 : List G := [.op (.mov 2 (.const (.int .i32 65533))) none,
  .op (.mov 3 (.const (.int .i64 1))) none,
  .keep [2, 3]]
def r48_21 : List G := [.op (.mov 76 (.tmp 8)) none,
  .op (.ari 77 .leq .i64 (.tmp 76) (.const (.int .i64 3))) none,
  .keep [0, 5, 10, 11, 77]]
def r48_22 : List G := [.op (.mov 78 (.tmp 5)) none,
  .op (.ari 79 .and .u8 (.tmp 78) (.const (.int .u8 15))) none,
  .op (.conv 80 .i32 (.tmp 79)) none,
  .op (.shf 81 .shl .i32 (.tmp 80) (.const (.int .u64 12))) none,
  .op (.mov 82 (.tmp 10)) none,
  .op (.ari 83 .and .u8 (.tmp 82) (.const (.int .u8 63))) none,
  .op (.conv 84 .i32 (.tmp 83)) none,
  .op (.shf 85 .shl .i32 (.tmp 84) (.const (.int .u64 6))) none,
  .op (.ari 86 .or .i32 (.tmp 81) (.tmp 85)) none,
  .op (.mov 87 (.tmp 11)) none,
  .op (.ari 88 .and .u8 (.tmp 87) (.const (.int .u8 63))) none,
  .op (.conv 89 .i32 (.tmp 88)) none,
  .op (.ari 90 .or .i32 (.tmp 86) (.tmp 89)) none,
  .op (.mov 2 (.tmp 90)) none,
  .op (.mov 3 (.const (.int .i64 3))) none,
  .keep [2, 3]]
def r48_23 : List G := [.op (.mov 91 (.tmp 0)) none,
  .op (.idxS 92 (.tmp 91) (.const (.int .i64 3))) none,
  .op (.mov 12 (.tmp 92)) none,
  .keep [5, 10, 11, 12]]
def r48_24 : List G := [.op (.mov 93 (.tmp 12)) none,
  .op (.ari 94 .lss .u8 (.tmp 93) (.const (.int .u8 128))) none,
  .op (.mov 95 (.tmp 94)) none,
  .op (.mov 96 (.tmp 12)) (some (95, false)),
  .op (.ari 97 .lss .u8 (.const (.int .u8 191)) (.tmp 96)) (some (95, false)),
  .op (.pick 98 (.tmp 95) (.const (.bool true)) (.tmp 97)) none,
  .keep [5, 10, 11, 12, 98]]
def r48_25 : List G := [.op (.mov 2 (.const (.int .i32 65533))) none,
  .op (.mov 3 (.const (.int .i64 1))) none,
  .keep [2, 3]]
def r48_26 : List G := [.op (.mov 99 (.tmp 5)) none,
  .op (.ari 100 .and .u8 (.tmp 99) (.const (.int .u8 7))) none,
  .op (.conv 101 .i32 (.tmp 100)) none,
  .op (.shf 102 .shl .i32 (.tmp 101) (.const (.int .u64 18))) none,
  .op (.mov 103 (.tmp 10)) none,
  .op (.ari 104 .and .u8 (.tmp 103) (.const (.int .u8 63))) none,
  .op (.conv 105 .i32 (.tmp 104)) none,
  .op (.shf 106 .shl .i32 (.tmp 105) (.const (.int .u64 12))) none,
  .op (.ari 107 .or .i32 (.tmp 102) (.tmp 106)) none,
  .op (.mov 108 (.tmp 11)) none,
  .op (.ari 109 .and .u8 (.tmp 108) (.const (.int .u8 63))) none,
  .op (.conv 110 .i32 (.tmp 109)) none,
  .op (.shf 111 .shl .i32 (.tmp 110) (.const (.int .u64 6))) none,
  .op (.ari 112 .or .i32 (.tmp 107) (.tmp 111)) none,
  .op (.mov 113 (.tmp 12)) none,
  .op (.ari 114 .and .u8 (.tmp 113) (.const (.int .u8 63))) none,
  .op (.conv 115 .i32 (.tmp 114)) none,
  .op (.ari 116 .or .i32 (.tmp 112) (.tmp 115)) none,
  .op (.mov 2 (.tmp 116)) none,
  .op (.mov 3 (.const (.int .i64 4))) none,
  .keep [2, 3]]
def c48 : C := (.seq (.region r48_0) (.seq (.region r48_1) (.seq (.seq (.region r48_2) (.cond (.tmp 16) (.seq (.region r48_3) .ret) .skip)) (.seq (.region r48_4) (.seq (.region r48_5) (.seq (.seq (.region r48_6) (.cond (.tmp 23) (.seq (.region r48_7) (.seq (.region r48_8) .ret)) .skip)) (.seq (.region r48_9) (.seq (.region r48_10) (.seq (.seq (.region r48_11) (.cond (.tmp 45) (.seq (.region r48_12) .ret) .skip)) (.seq (.region r48_13) (.seq (.seq (.region r48_14) (.cond (.tmp 57) (.seq (.region r48_15) .ret) .skip)) (.seq (.seq (.region r48_16) (.cond (.tmp 59) (.seq (.region r48_17) .ret) .skip)) (.seq (.region r48_18) (.seq (.seq (.region r48_19) (.cond (.tmp 75) (.seq (.region r48_20) .ret) .skip)) (.seq (.seq (.region r48_21) (.cond (.tmp 77) (.seq (.region r48_22) .ret) .skip)) (.seq (.region r48_23) (.seq (.seq (.region r48_24) (.cond (.tmp 98) (.seq (.region r48_25) .ret) .skip)) (.seq (.region r48_26) .ret))))))))))))))))))
def x48 := PLift.up (andx (ux Tryd.prog r48_0.eq_1) (andx (ux Tryd.prog r48_1.eq_1) (andx (ux Tryd.prog r48_2.eq_1) (andx (ux Tryd.prog r48_3.eq_1) (andx (ux Tryd.prog r48_4.eq_1) (andx (ux Tryd.prog r48_5.eq_1) (andx (ux Tryd.prog r48_6.eq_1) (andx (ux Tryd.prog r48_7.eq_1) (andx (ux Tryd.prog r48_8.eq_1) (andx (ux Tryd.prog r48_9.eq_1) (andx (ux Tryd.prog r48_10.eq_1) (andx (ux Tryd.prog r48_11.eq_1) (andx (ux Tryd.prog r48_12.eq_1) (andx (ux Tryd.prog r48_13.eq_1) (andx (ux Tryd.prog r48_14.eq_1) (andx (ux Tryd.prog r48_15.eq_1) (andx (ux Tryd.prog r48_16.eq_1) (andx (ux Tryd.prog r48_17.eq_1) (andx (ux Tryd.prog r48_18.eq_1) (andx (ux Tryd.prog r48_19.eq_1) (andx (ux Tryd.prog r48_20.eq_1) (andx (ux Tryd.prog r48_21.eq_1) (andx (ux Tryd.prog r48_22.eq_1) (andx (ux Tryd.prog r48_23.eq_1) (andx (ux Tryd.prog r48_24.eq_1) (andx (ux Tryd.prog r48_25.eq_1) (ux Tryd.prog r48_26.eq_1)))))))))))))))))))))))))))
theorem low48 : Tryd.f48.body.bind (lowerC Tryd.prog 117 (fun _ => none)) = some c48.erase := by kernel_rfl
theorem enter48 {args : List Value} {w : World} {R : Ending → World → Prop} (ha : args.length ≤ 117) (h : vc Tryd.prog c48 (endPost [.t 2, .t 3] R) (argEnv 0 args) w) : Calls Tryd.prog 48 args.toArray w R :=
  calls_of_vc Tryd.func48 rfl low48 rfl ha h
/-- The code of aquatint/glyph.Unquote. -/
def r47_0 : List G := [.op (.mov 2 (.const (.string { data := #[] }))) none,
  .op (.mov 3 (.const (.int .i64 0))) none,
  .op (.mov 4 (.const (.int .i64 0))) none,
  .keep [0]]
def r47_1 : List G := [.op (.mov 7 (.tmp 0)) none,
  .op (.build 8 103 [(0, 1, (.tmp 7))]) none,
  .op (.box 9 103 (.tmp 8)) none,
  .op (.mov 5 (.tmp 9)) none,
  .keep [5]]
def r47_2 : List G := [.op (.mov 10 (.tmp 5)) none,
  .op (.call (some 11) 50 [(.tmp 10), (.const (.int .u8 34))]) none,
  .keep [5]]
def r47_3 : List G := [.op (.mov 12 (.tmp 5)) none,
  .op (.nilCheck 13 (.tmp 12)) none,
  .op (.faddr 14 3 (.tmp 13)) none,
  .op (.load 15 (.tmp 14)) none,
  .op (.ari 16 .eql .i64 (.tmp 15) (.const (.int .i64 0))) none,
  .keep [5, 16]]
def r47_4 : List G := [.op (.mov 17 (.tmp 5)) none,
  .op (.call (some 18) 51 [(.tmp 17)]) none,
  .op (.mov 6 (.tmp 18)) none,
  .keep [5, 6]]
def r47_6 : List G := [.op (.mov 22 (.tmp 5)) none,
  .op (.nilCheck 23 (.tmp 22)) none,
  .op (.faddr 24 3 (.tmp 23)) none,
  .op (.load 25 (.tmp 24)) none,
  .op (.ari 26 .neq .i64 (.tmp 25) (.const (.int .i64 0))) none,
  .op (.mov 21 (.tmp 26)) none,
  .keep [5, 6, 21]]
def r47_7 : List G := [.op (.mov 28 (.tmp 6)) none,
  .op (.ari 29 .eql .u8 (.tmp 28) (.const (.int .u8 34))) none,
  .op (.mov 27 (.tmp 29)) none,
  .keep [5, 6, 27]]
def r47_8 : List G := [.op (.mov 30 (.tmp 5)) none,
  .op (.nilCheck 31 (.tmp 30)) none,
  .op (.faddr 32 2 (.tmp 31)) none,
  .op (.load 33 (.tmp 32)) none,
  .op (.conBS 34 (.tmp 33)) none,
  .op (.mov 35 (.tmp 5)) none,
  .op (.nilCheck 36 (.tmp 35)) none,
  .op (.faddr 37 1 (.tmp 36)) none,
  .op (.load 38 (.tmp 37)) none,
  .op (.ari 39 .add .i64 (.tmp 38) (.const (.int .i64 1))) none,
  .op (.mov 2 (.tmp 34)) none,
  .op (.mov 3 (.tmp 39)) none,
  .op (.mov 4 (.const (.int .i64 0))) none,
  .keep [2, 3, 4]]
def r47_9 : List G := [.op (.mov 41 (.tmp 6)) none,
  .op (.ari 42 .eql .u8 (.tmp 41) (.const (.int .u8 92))) none,
  .op (.mov 40 (.tmp 42)) none,
  .keep [5, 6, 40]]
def r47_10 : List G := [.op (.mov 43 (.tmp 5)) none,
  .op (.nilCheck 44 (.tmp 43)) none,
  .op (.faddr 45 1 (.tmp 44)) none,
  .op (.load 46 (.tmp 45)) none,
  .op (.ari 47 .add .i64 (.tmp 46) (.const (.int .i64 1))) none,
  .op (.nilCheck 48 (.tmp 43)) none,
  .op (.faddr 49 1 (.tmp 48)) none,
  .op (.store (.tmp 49) (.tmp 47)) none,
  .keep [5]]
def r47_11 : List G := [.op (.mov 50 (.tmp 5)) none,
  .op (.call (some 51) 52 [(.tmp 50)]) none,
  .keep [5]]
def r47_12 : List G := [.op (.mov 53 (.tmp 6)) none,
  .op (.ari 54 .geq .u8 (.tmp 53) (.const (.int .u8 32))) none,
  .op (.mov 55 (.tmp 54)) none,
  .op (.mov 56 (.tmp 6)) (some (55, true)),
  .op (.ari 57 .leq .u8 (.tmp 56) (.const (.int .u8 126))) (some (55, true)),
  .op (.pick 58 (.tmp 55) (.tmp 57) (.const (.bool false))) none,
  .op (.mov 52 (.tmp 58)) none,
  .keep [5, 6, 52]]
def r47_13 : List G := [.op (.mov 59 (.tmp 5)) none,
  .op (.nilCheck 60 (.tmp 59)) none,
  .op (.faddr 61 1 (.tmp 60)) none,
  .op (.load 62 (.tmp 61)) none,
  .op (.ari 63 .add .i64 (.tmp 62) (.const (.int .i64 1))) none,
  .op (.nilCheck 64 (.tmp 59)) none,
  .op (.faddr 65 1 (.tmp 64)) none,
  .op (.store (.tmp 65) (.tmp 63)) none,
  .keep [5, 6]]
def r47_14 : List G := [.op (.mov 66 (.tmp 5)) none,
  .op (.mov 67 (.tmp 5)) none,
  .op (.nilCheck 68 (.tmp 67)) none,
  .op (.faddr 69 2 (.tmp 68)) none,
  .op (.load 70 (.tmp 69)) none,
  .op (.mov 71 (.tmp 6)) none,
  .op (.bslice 72 5 1 1 [(0, 1, (.tmp 71))]) none,
  .op (.append 73 5 1 1 (.tmp 70) (.tmp 72)) none,
  .op (.nilCheck 74 (.tmp 66)) none,
  .op (.faddr 75 2 (.tmp 74)) none,
  .op (.store (.tmp 75) (.tmp 73)) none,
  .keep [5]]
def r47_5 : List G := [.op (.mov 19 (.tmp 5)) none,
  .op (.call (some 20) 53 [(.tmp 19)]) none,
  .keep [5]]
def r47_15 : List G := [.op (.mov 76 (.tmp 5)) none,
  .op (.nilCheck 77 (.tmp 76)) none,
  .op (.faddr 78 1 (.tmp 77)) none,
  .op (.load 79 (.tmp 78)) none,
  .op (.mov 80 (.tmp 5)) none,
  .op (.nilCheck 81 (.tmp 80)) none,
  .op (.faddr 82 3 (.tmp 81)) none,
  .op (.load 83 (.tmp 82)) none,
  .op (.mov 2 (.const (.string { data := #[] }))) none,
  .op (.mov 3 (.tmp 79)) none,
  .op (.mov 4 (.tmp 83)) none,
  .keep [2, 3, 4]]
def c47 : C := (.seq (.region r47_0) (.seq (.region r47_1) (.seq (.region r47_2) (.seq (.block 0 (.loop (.seq (.seq (.region r47_3) (.cond (.tmp 16) .skip (.exit 0))) (.block 1 (.seq (.region r47_4) (.block 2 (.seq (.region r47_6) (.cond (.tmp 21) .skip (.seq (.region r47_7) (.cond (.tmp 27) (.seq (.regionD r47_8) .ret) (.seq (.region r47_9) (.cond (.tmp 40) (.seq (.region r47_10) (.region r47_11)) (.seq (.region r47_12) (.cond (.tmp 52) (.seq (.region r47_13) (.region r47_14)) (.region r47_5))))))))))))))) (.seq (.regionD r47_15) .ret)))))
def x47 := PLift.up (andx (ux Tryd.prog r47_0.eq_1) (andx (ux Tryd.prog r47_1.eq_1) (andx (ux Tryd.prog r47_2.eq_1) (andx (ux Tryd.prog r47_3.eq_1) (andx (ux Tryd.prog r47_4.eq_1) (andx (ux Tryd.prog r47_6.eq_1) (andx (ux Tryd.prog r47_7.eq_1) (andx (ux Tryd.prog r47_8.eq_1) (andx (ux Tryd.prog r47_9.eq_1) (andx (ux Tryd.prog r47_10.eq_1) (andx (ux Tryd.prog r47_11.eq_1) (andx (ux Tryd.prog r47_12.eq_1) (andx (ux Tryd.prog r47_13.eq_1) (andx (ux Tryd.prog r47_14.eq_1) (andx (ux Tryd.prog r47_5.eq_1) (ux Tryd.prog r47_15.eq_1))))))))))))))))
theorem low47 : Tryd.f47.body.bind (lowerC Tryd.prog 84 (fun i => List.lookup i [(8, .fin [(0, 0), (1, 0), (2, 0), (3, 0), (4, 0), (5, 0), (6, 0), (7, 0), (8, 0), (9, 0), (10, 0), (11, 0), (12, 0)]), (15, .fin [(0, 0), (1, 0), (2, 0), (3, 0), (4, 0), (5, 0), (6, 0), (7, 0), (8, 0), (9, 0), (10, 0)])])) = some c47.erase := by kernel_rfl
theorem enter47 {args : List Value} {w : World} {R : Ending → World → Prop} (ha : args.length ≤ 84) (h : vc Tryd.prog c47 (endPost [.t 2, .t 3, .t 4] R) (argEnv 0 args) w) : Calls Tryd.prog 47 args.toArray w R :=
  calls_of_vc Tryd.func47 rfl low47 rfl ha h
/-- The code of (*aquatint/glyph.reader).want. -/
def r50_0 : List G := [.op (.mov 4 (.tmp 0)) none,
  .op (.call (some 5) 51 [(.tmp 4)]) none,
  .op (.mov 6 (.tmp 1)) none,
  .op (.ari 7 .neq .u8 (.tmp 5) (.tmp 6)) none,
  .keep [0, 7]]
def r50_1 : List G := [.op (.mov 8 (.tmp 0)) none,
  .op (.call (some 9) 53 [(.tmp 8)]) none,
  .keep [0]]
def r50_2 : List G := [.op (.mov 10 (.tmp 0)) none,
  .op (.nilCheck 11 (.tmp 10)) none,
  .op (.faddr 12 3 (.tmp 11)) none,
  .op (.load 13 (.tmp 12)) none,
  .op (.ari 14 .eql .i64 (.tmp 13) (.const (.int .i64 0))) none,
  .keep [0, 14]]
def r50_3 : List G := [.op (.mov 15 (.tmp 0)) none,
  .op (.nilCheck 16 (.tmp 15)) none,
  .op (.faddr 17 1 (.tmp 16)) none,
  .op (.load 18 (.tmp 17)) none,
  .op (.ari 19 .add .i64 (.tmp 18) (.const (.int .i64 1))) none,
  .op (.nilCheck 20 (.tmp 15)) none,
  .op (.faddr 21 1 (.tmp 20)) none,
  .op (.store (.tmp 21) (.tmp 19)) none,
  .keep []]
def c50 : C := (.seq (.seq (.region r50_0) (.cond (.tmp 7) (.region r50_1) .skip)) (.seq (.region r50_2) (.cond (.tmp 14) (.region r50_3) .skip)))
def x50 := PLift.up (andx (ux Tryd.prog r50_0.eq_1) (andx (ux Tryd.prog r50_1.eq_1) (andx (ux Tryd.prog r50_2.eq_1) (ux Tryd.prog r50_3.eq_1))))
theorem low50 : Tryd.f50.body.bind (lowerC Tryd.prog 22 (fun _ => none)) = some c50.erase := by kernel_rfl
theorem enter50 {args : List Value} {w : World} {R : Ending → World → Prop} (ha : args.length ≤ 22) (h : vc Tryd.prog c50 (endPost [] R) (argEnv 0 args) w) : Calls Tryd.prog 50 args.toArray w R :=
  calls_of_vc Tryd.func50 rfl low50 rfl ha h
/-- The code of (*aquatint/glyph.reader).byte. -/
def r51_0 : List G := [.op (.mov 2 (.const (.int .u8 0))) none,
  .keep [0]]
def r51_1 : List G := [.op (.mov 3 (.tmp 0)) none,
  .op (.nilCheck 4 (.tmp 3)) none,
  .op (.faddr 5 3 (.tmp 4)) none,
  .op (.load 6 (.tmp 5)) none,
  .op (.ari 7 .neq .i64 (.tmp 6) (.const (.int .i64 0))) none,
  .op (.mov 8 (.tmp 7)) none,
  .op (.mov 9 (.tmp 0)) (some (8, false)),
  .op (.nilCheck 10 (.tmp 9)) (some (8, false)),
  .op (.faddr 11 1 (.tmp 10)) (some (8, false)),
  .op (.load 12 (.tmp 11)) (some (8, false)),
  .op (.mov 13 (.tmp 0)) (some (8, false)),
  .op (.nilCheck 14 (.tmp 13)) (some (8, false)),
  .op (.faddr 15 0 (.tmp 14)) (some (8, false)),
  .op (.load 16 (.tmp 15)) (some (8, false)),
  .op (.lenS 17 (.tmp 16)) (some (8, false)),
  .op (.ari 18 .geq .i64 (.tmp 12) (.tmp 17)) (some (8, false)),
  .op (.pick 19 (.tmp 8) (.const (.bool true)) (.tmp 18)) none,
  .keep [0, 19]]
def r51_2 : List G := [.op (.mov 20 (.tmp 0)) none,
  .op (.call (some 21) 53 [(.tmp 20)]) none,
  .keep []]
def r51_3 : List G := [.op (.mov 2 (.const (.int .u8 0))) none,
  .keep [2]]
def r51_4 : List G := [.op (.mov 22 (.tmp 0)) none,
  .op (.nilCheck 23 (.tmp 22)) none,
  .op (.faddr 24 0 (.tmp 23)) none,
  .op (.load 25 (.tmp 24)) none,
  .op (.mov 26 (.tmp 0)) none,
  .op (.nilCheck 27 (.tmp 26)) none,
  .op (.faddr 28 1 (.tmp 27)) none,
  .op (.load 29 (.tmp 28)) none,
  .op (.idxS 30 (.tmp 25) (.tmp 29)) none,
  .op (.mov 2 (.tmp 30)) none,
  .keep [2]]
def c51 : C := (.seq (.region r51_0) (.seq (.seq (.regionD r51_1) (.cond (.tmp 19) (.seq (.region r51_2) (.seq (.region r51_3) .ret)) .skip)) (.seq (.regionD r51_4) .ret)))
def x51 := PLift.up (andx (ux Tryd.prog r51_0.eq_1) (andx (ux Tryd.prog r51_1.eq_1) (andx (ux Tryd.prog r51_2.eq_1) (andx (ux Tryd.prog r51_3.eq_1) (ux Tryd.prog r51_4.eq_1)))))
theorem low51 : Tryd.f51.body.bind (lowerC Tryd.prog 31 (fun i => List.lookup i [(1, .fin [(0, 0), (1, 0), (2, 0), (3, 0), (4, 0), (5, 0), (6, 0), (7, 0), (8, 0), (9, 0), (10, 0), (11, 0), (12, 0), (13, 0), (14, 0), (15, 0), (16, 0)]), (4, .fin [(0, 0), (1, 0), (2, 0), (3, 0), (4, 0), (5, 0), (6, 0), (7, 0), (8, 0), (9, 0)])])) = some c51.erase := by kernel_rfl
theorem enter51 {args : List Value} {w : World} {R : Ending → World → Prop} (ha : args.length ≤ 31) (h : vc Tryd.prog c51 (endPost [.t 2] R) (argEnv 0 args) w) : Calls Tryd.prog 51 args.toArray w R :=
  calls_of_vc Tryd.func51 rfl low51 rfl ha h
/-- The code of (*aquatint/glyph.reader).escape. -/
def r52_0 : List G := [.op (.mov 4 (.tmp 0)) none,
  .op (.call (some 5) 51 [(.tmp 4)]) none,
  .op (.mov 2 (.tmp 5)) none,
  .keep [0, 2]]
def r52_1 : List G := [.op (.mov 6 (.tmp 2)) none,
  .keep [0, 2, 6]]
def r52_3 : List G := [.op (.ari 10 .eql .u8 (.tmp 6) (.const (.int .u8 34))) none,
  .op (.mov 9 (.tmp 10)) none,
  .keep [0, 2, 6, 9]]
def r52_4 : List G := [.op (.ari 11 .eql .u8 (.tmp 6) (.const (.int .u8 92))) none,
  .op (.mov 9 (.tmp 11)) none,
  .keep [0, 2, 6, 9]]
def r52_5 : List G := [.op (.mov 12 (.tmp 0)) none,
  .op (.nilCheck 13 (.tmp 12)) none,
  .op (.faddr 14 1 (.tmp 13)) none,
  .op (.load 15 (.tmp 14)) none,
  .op (.ari 16 .add .i64 (.tmp 15) (.const (.int .i64 1))) none,
  .op (.nilCheck 17 (.tmp 12)) none,
  .op (.faddr 18 1 (.tmp 17)) none,
  .op (.store (.tmp 18) (.tmp 16)) none,
  .keep [0, 2]]
def r52_6 : List G := [.op (.mov 19 (.tmp 0)) none,
  .op (.mov 20 (.tmp 0)) none,
  .op (.nilCheck 21 (.tmp 20)) none,
  .op (.faddr 22 2 (.tmp 21)) none,
  .op (.load 23 (.tmp 22)) none,
  .op (.mov 24 (.tmp 2)) none,
  .op (.bslice 25 5 1 1 [(0, 1, (.tmp 24))]) none,
  .op (.append 26 5 1 1 (.tmp 23) (.tmp 25)) none,
  .op (.nilCheck 27 (.tmp 19)) none,
  .op (.faddr 28 2 (.tmp 27)) none,
  .op (.store (.tmp 28) (.tmp 26)) none,
  .keep []]
def r52_7 : List G := [.op (.ari 30 .eql .u8 (.tmp 6) (.const (.int .u8 110))) none,
  .op (.mov 29 (.tmp 30)) none,
  .keep [0, 6, 29]]
def r52_8 : List G := [.op (.mov 31 (.tmp 0)) none,
  .op (.nilCheck 32 (.tmp 31)) none,
  .op (.faddr 33 1 (.tmp 32)) none,
  .op (.load 34 (.tmp 33)) none,
  .op (.ari 35 .add .i64 (.tmp 34) (.const (.int .i64 1))) none,
  .op (.nilCheck 36 (.tmp 31)) none,
  .op (.faddr 37 1 (.tmp 36)) none,
  .op (.store (.tmp 37) (.tmp 35)) none,
  .keep [0]]
def r52_9 : List G := [.op (.mov 38 (.tmp 0)) none,
  .op (.mov 39 (.tmp 0)) none,
  .op (.nilCheck 40 (.tmp 39)) none,
  .op (.faddr 41 2 (.tmp 40)) none,
  .op (.load 42 (.tmp 41)) none,
  .op (.bslice 43 5 1 1 [(0, 1, (.const (.int .u8 10)))]) none,
  .op (.append 44 5 1 1 (.tmp 42) (.tmp 43)) none,
  .op (.nilCheck 45 (.tmp 38)) none,
  .op (.faddr 46 2 (.tmp 45)) none,
  .op (.store (.tmp 46) (.tmp 44)) none,
  .keep []]
def r52_10 : List G := [.op (.ari 48 .eql .u8 (.tmp 6) (.const (.int .u8 117))) none,
  .op (.mov 47 (.tmp 48)) none,
  .keep [0, 6, 47]]
def r52_11 : List G := [.op (.mov 49 (.tmp 0)) none,
  .op (.nilCheck 50 (.tmp 49)) none,
  .op (.faddr 51 1 (.tmp 50)) none,
  .op (.load 52 (.tmp 51)) none,
  .op (.ari 53 .add .i64 (.tmp 52) (.const (.int .i64 1))) none,
  .op (.nilCheck 54 (.tmp 49)) none,
  .op (.faddr 55 1 (.tmp 54)) none,
  .op (.store (.tmp 55) (.tmp 53)) none,
  .keep [0]]
def r52_12 : List G := [.op (.mov 56 (.tmp 0)) none,
  .op (.call (some 57) 54 [(.tmp 56)]) none,
  .keep []]
def r52_13 : List G := [.op (.ari 59 .eql .u8 (.tmp 6) (.const (.int .u8 120))) none,
  .op (.mov 58 (.tmp 59)) none,
  .keep [0, 58]]
def r52_14 : List G := [.op (.mov 60 (.tmp 0)) none,
  .op (.nilCheck 61 (.tmp 60)) none,
  .op (.faddr 62 1 (.tmp 61)) none,
  .op (.load 63 (.tmp 62)) none,
  .op (.ari 64 .add .i64 (.tmp 63) (.const (.int .i64 1))) none,
  .op (.nilCheck 65 (.tmp 60)) none,
  .op (.faddr 66 1 (.tmp 65)) none,
  .op (.store (.tmp 66) (.tmp 64)) none,
  .keep [0]]
def r52_15 : List G := [.op (.mov 67 (.tmp 0)) none,
  .op (.call (some 68) 55 [(.tmp 67)]) none,
  .op (.mov 3 (.tmp 68)) none,
  .keep [0, 3]]
def r52_16 : List G := [.op (.mov 69 (.tmp 3)) none,
  .op (.shf 70 .shl .i32 (.tmp 69) (.const (.int .u64 4))) none,
  .op (.mov 71 (.tmp 0)) none,
  .op (.call (some 72) 55 [(.tmp 71)]) none,
  .op (.ari 73 .or .i32 (.tmp 70) (.tmp 72)) none,
  .op (.mov 3 (.tmp 73)) none,
  .keep [0, 3]]
def r52_17 : List G := [.op (.mov 74 (.tmp 0)) none,
  .op (.mov 75 (.tmp 0)) none,
  .op (.nilCheck 76 (.tmp 75)) none,
  .op (.faddr 77 2 (.tmp 76)) none,
  .op (.load 78 (.tmp 77)) none,
  .op (.mov 79 (.tmp 3)) none,
  .op (.conv 80 .u8 (.tmp 79)) none,
  .op (.bslice 81 5 1 1 [(0, 1, (.tmp 80))]) none,
  .op (.append 82 5 1 1 (.tmp 78) (.tmp 81)) none,
  .op (.nilCheck 83 (.tmp 74)) none,
  .op (.faddr 84 2 (.tmp 83)) none,
  .op (.store (.tmp 84) (.tmp 82)) none,
  .keep []]
def r52_2 : List G := [.op (.mov 7 (.tmp 0)) none,
  .op (.call (some 8) 53 [(.tmp 7)]) none,
  .keep []]
def c52 : C := (.seq (.region r52_0) (.seq (.region r52_1) (.block 0 (.seq (.seq (.region r52_3) (.cond (.tmp 9) .skip (.region r52_4))) (.cond (.tmp 9) (.seq (.region r52_5) (.region r52_6)) (.seq (.region r52_7) (.cond (.tmp 29) (.seq (.region r52_8) (.region r52_9)) (.seq (.region r52_10) (.cond (.tmp 47) (.seq (.region r52_11) (.region r52_12)) (.seq (.region r52_13) (.cond (.tmp 58) (.seq (.region r52_14) (.seq (.region r52_15) (.seq (.region r52_16) (.region r52_17)))) (.region r52_2))))))))))))
def x52 := PLift.up (andx (ux Tryd.prog r52_0.eq_1) (andx (ux Tryd.prog r52_1.eq_1) (andx (ux Tryd.prog r52_3.eq_1) (andx (ux Tryd.prog r52_4.eq_1) (andx (ux Tryd.prog r52_5.eq_1) (andx (ux Tryd.prog r52_6.eq_1) (andx (ux Tryd.prog r52_7.eq_1) (andx (ux Tryd.prog r52_8.eq_1) (andx (ux Tryd.prog r52_9.eq_1) (andx (ux Tryd.prog r52_10.eq_1) (andx (ux Tryd.prog r52_11.eq_1) (andx (ux Tryd.prog r52_12.eq_1) (andx (ux Tryd.prog r52_13.eq_1) (andx (ux Tryd.prog r52_14.eq_1) (andx (ux Tryd.prog r52_15.eq_1) (andx (ux Tryd.prog r52_16.eq_1) (andx (ux Tryd.prog r52_17.eq_1) (ux Tryd.prog r52_2.eq_1))))))))))))))))))
theorem low52 : Tryd.f52.body.bind (lowerC Tryd.prog 85 (fun _ => none)) = some c52.erase := by kernel_rfl
theorem enter52 {args : List Value} {w : World} {R : Ending → World → Prop} (ha : args.length ≤ 85) (h : vc Tryd.prog c52 (endPost [] R) (argEnv 0 args) w) : Calls Tryd.prog 52 args.toArray w R :=
  calls_of_vc Tryd.func52 rfl low52 rfl ha h
/-- The code of (*aquatint/glyph.reader).stop. -/
def r53_0 : List G := [.op (.mov 2 (.tmp 0)) none,
  .op (.nilCheck 3 (.tmp 2)) none,
  .op (.faddr 4 3 (.tmp 3)) none,
  .op (.load 5 (.tmp 4)) none,
  .op (.ari 6 .eql .i64 (.tmp 5) (.const (.int .i64 0))) none,
  .keep [0, 6]]
def r53_1 : List G := [.op (.mov 7 (.tmp 0)) none,
  .op (.nilCheck 8 (.tmp 7)) none,
  .op (.faddr 9 3 (.tmp 8)) none,
  .op (.store (.tmp 9) (.const (.int .i64 16))) none,
  .keep [0]]
def r53_2 : List G := [.op (.mov 10 (.tmp 0)) none,
  .op (.nilCheck 11 (.tmp 10)) none,
  .op (.faddr 12 1 (.tmp 11)) none,
  .op (.load 13 (.tmp 12)) none,
  .op (.mov 14 (.tmp 0)) none,
  .op (.nilCheck 15 (.tmp 14)) none,
  .op (.faddr 16 0 (.tmp 15)) none,
  .op (.load 17 (.tmp 16)) none,
  .op (.lenS 18 (.tmp 17)) none,
  .op (.ari 19 .geq .i64 (.tmp 13) (.tmp 18)) none,
  .keep [0, 19]]
def r53_3 : List G := [.op (.mov 20 (.tmp 0)) none,
  .op (.mov 21 (.tmp 0)) none,
  .op (.mov 22 (.tmp 0)) none,
  .op (.nilCheck 23 (.tmp 22)) none,
  .op (.faddr 24 0 (.tmp 23)) none,
  .op (.load 25 (.tmp 24)) none,
  .op (.lenS 26 (.tmp 25)) none,
  .op (.nilCheck 27 (.tmp 20)) none,
  .op (.faddr 28 1 (.tmp 27)) none,
  .op (.store (.tmp 28) (.tmp 26)) none,
  .op (.nilCheck 29 (.tmp 21)) none,
  .op (.faddr 30 3 (.tmp 29)) none,
  .op (.store (.tmp 30) (.const (.int .i64 2))) none,
  .keep []]
def c53 : C := (.seq (.region r53_0) (.cond (.tmp 6) (.seq (.region r53_1) (.seq (.regionD r53_2) (.cond (.tmp 19) (.region r53_3) .skip))) .skip))
def x53 := PLift.up (andx (ux Tryd.prog r53_0.eq_1) (andx (ux Tryd.prog r53_1.eq_1) (andx (ux Tryd.prog r53_2.eq_1) (ux Tryd.prog r53_3.eq_1))))
theorem low53 : Tryd.f53.body.bind (lowerC Tryd.prog 31 (fun i => List.lookup i [(2, .fin [(0, 0), (1, 0), (2, 0), (3, 0), (4, 0), (5, 0), (6, 0), (7, 0), (8, 0), (9, 0)])])) = some c53.erase := by kernel_rfl
theorem enter53 {args : List Value} {w : World} {R : Ending → World → Prop} (ha : args.length ≤ 31) (h : vc Tryd.prog c53 (endPost [] R) (argEnv 0 args) w) : Calls Tryd.prog 53 args.toArray w R :=
  calls_of_vc Tryd.func53 rfl low53 rfl ha h
/-- The code of (*aquatint/glyph.reader).number. -/
def r54_0 : List G := [.op (.mov 4 (.tmp 0)) none,
  .op (.call (some 5) 50 [(.tmp 4), (.const (.int .u8 123))]) none,
  .keep [0]]
def r54_1 : List G := [.op (.mov 6 (.tmp 0)) none,
  .op (.call (some 7) 55 [(.tmp 6)]) none,
  .op (.mov 2 (.tmp 7)) none,
  .keep [0, 2]]
def r54_2 : List G := [.op (.mov 3 (.const (.int .i64 1))) none,
  .keep [0, 2, 3]]
def r54_3 : List G := [.op (.mov 8 (.tmp 3)) none,
  .op (.ari 9 .lss .i64 (.tmp 8) (.const (.int .i64 6))) none,
  .op (.mov 10 (.tmp 9)) none,
  .op (.mov 11 (.tmp 2)) (some (10, true)),
  .op (.ari 12 .gtr .i32 (.tmp 11) (.const (.int .i32 0))) (some (10, true)),
  .op (.pick 13 (.tmp 10) (.tmp 12) (.const (.bool false))) none,
  .op (.mov 14 (.tmp 13)) none,
  .op (.mov 15 (.tmp 0)) (some (14, true)),
  .op (.call (some 16) 51 [(.tmp 15)]) (some (14, true)),
  .op (.call (some 17) 56 [(.tmp 16)]) (some (14, true)),
  .op (.ari 18 .geq .i32 (.tmp 17) (.const (.int .i32 0))) (some (14, true)),
  .op (.pick 19 (.tmp 14) (.tmp 18) (.const (.bool false))) none,
  .keep [0, 2, 3, 19]]
def r54_5 : List G := [.op (.mov 22 (.tmp 2)) none,
  .op (.shf 23 .shl .i32 (.tmp 22) (.const (.int .u64 4))) none,
  .op (.mov 24 (.tmp 0)) none,
  .op (.call (some 25) 55 [(.tmp 24)]) none,
  .op (.ari 26 .or .i32 (.tmp 23) (.tmp 25)) none,
  .op (.mov 2 (.tmp 26)) none,
  .keep [0, 2, 3]]
def r54_4 : List G := [.op (.mov 20 (.tmp 3)) none,
  .op (.ari 21 .add .i64 (.tmp 20) (.const (.int .i64 1))) none,
  .op (.mov 3 (.tmp 21)) none,
  .keep [0, 2, 3]]
def r54_6 : List G := [.op (.mov 27 (.tmp 0)) none,
  .op (.call (some 28) 51 [(.tmp 27)]) none,
  .op (.ari 29 .eql .u8 (.tmp 28) (.const (.int .u8 125))) none,
  .op (.mov 30 (.tmp 29)) none,
  .op (.mov 31 (.tmp 2)) (some (30, true)),
  .op (.call (some 32) 57 [(.tmp 31)]) (some (30, true)),
  .op (.not 33 (.tmp 32)) (some (30, true)),
  .op (.pick 34 (.tmp 30) (.tmp 33) (.const (.bool false))) none,
  .keep [0, 2, 34]]
def r54_7 : List G := [.op (.mov 35 (.tmp 0)) none,
  .op (.call (some 36) 53 [(.tmp 35)]) none,
  .keep [0, 2]]
def r54_8 : List G := [.op (.mov 37 (.tmp 0)) none,
  .op (.call (some 38) 50 [(.tmp 37), (.const (.int .u8 125))]) none,
  .keep [0, 2]]
def r54_9 : List G := [.op (.mov 39 (.tmp 0)) none,
  .op (.nilCheck 40 (.tmp 39)) none,
  .op (.faddr 41 3 (.tmp 40)) none,
  .op (.load 42 (.tmp 41)) none,
  .op (.ari 43 .eql .i64 (.tmp 42) (.const (.int .i64 0))) none,
  .keep [0, 2, 43]]
def r54_10 : List G := [.op (.mov 44 (.tmp 0)) none,
  .op (.mov 45 (.tmp 0)) none,
  .op (.nilCheck 46 (.tmp 45)) none,
  .op (.faddr 47 2 (.tmp 46)) none,
  .op (.load 48 (.tmp 47)) none,
  .op (.mov 49 (.tmp 2)) none,
  .op (.call (some 50) 58 [(.tmp 48), (.tmp 49)]) none,
  .op (.nilCheck 51 (.tmp 44)) none,
  .op (.faddr 52 2 (.tmp 51)) none,
  .op (.store (.tmp 52) (.tmp 50)) none,
  .keep []]
def c54 : C := (.seq (.region r54_0) (.seq (.region r54_1) (.seq (.seq (.region r54_2) (.block 0 (.loop (.seq (.seq (.region r54_3) (.cond (.tmp 19) .skip (.exit 0))) (.seq (.block 1 (.region r54_5)) (.region r54_4)))))) (.seq (.seq (.region r54_6) (.cond (.tmp 34) (.region r54_7) .skip)) (.seq (.region r54_8) (.seq (.region r54_9) (.cond (.tmp 43) (.region r54_10) .skip)))))))
def x54 := PLift.up (andx (ux Tryd.prog r54_0.eq_1) (andx (ux Tryd.prog r54_1.eq_1) (andx (ux Tryd.prog r54_2.eq_1) (andx (ux Tryd.prog r54_3.eq_1) (andx (ux Tryd.prog r54_5.eq_1) (andx (ux Tryd.prog r54_4.eq_1) (andx (ux Tryd.prog r54_6.eq_1) (andx (ux Tryd.prog r54_7.eq_1) (andx (ux Tryd.prog r54_8.eq_1) (andx (ux Tryd.prog r54_9.eq_1) (ux Tryd.prog r54_10.eq_1)))))))))))
theorem low54 : Tryd.f54.body.bind (lowerC Tryd.prog 53 (fun _ => none)) = some c54.erase := by kernel_rfl
theorem enter54 {args : List Value} {w : World} {R : Ending → World → Prop} (ha : args.length ≤ 53) (h : vc Tryd.prog c54 (endPost [] R) (argEnv 0 args) w) : Calls Tryd.prog 54 args.toArray w R :=
  calls_of_vc Tryd.func54 rfl low54 rfl ha h
/-- The code of (*aquatint/glyph.reader).hex. -/
def r55_0 : List G := [.op (.mov 2 (.const (.int .i32 0))) none,
  .keep [0]]
def r55_1 : List G := [.op (.mov 4 (.tmp 0)) none,
  .op (.call (some 5) 51 [(.tmp 4)]) none,
  .op (.call (some 6) 56 [(.tmp 5)]) none,
  .op (.mov 3 (.tmp 6)) none,
  .keep [0, 3]]
def r55_2 : List G := [.op (.mov 7 (.tmp 3)) none,
  .op (.ari 8 .lss .i32 (.tmp 7) (.const (.int .i32 0))) none,
  .keep [0, 3, 8]]
def r55_3 : List G := [.op (.mov 9 (.tmp 0)) none,
  .op (.call (some 10) 53 [(.tmp 9)]) none,
  .keep [0, 3]]
def r55_4 : List G := [.op (.mov 11 (.tmp 0)) none,
  .op (.nilCheck 12 (.tmp 11)) none,
  .op (.faddr 13 3 (.tmp 12)) none,
  .op (.load 14 (.tmp 13)) none,
  .op (.ari 15 .eql .i64 (.tmp 14) (.const (.int .i64 0))) none,
  .keep [0, 3, 15]]
def r55_5 : List G := [.op (.mov 16 (.tmp 0)) none,
  .op (.nilCheck 17 (.tmp 16)) none,
  .op (.faddr 18 1 (.tmp 17)) none,
  .op (.load 19 (.tmp 18)) none,
  .op (.ari 20 .add .i64 (.tmp 19) (.const (.int .i64 1))) none,
  .op (.nilCheck 21 (.tmp 16)) none,
  .op (.faddr 22 1 (.tmp 21)) none,
  .op (.store (.tmp 22) (.tmp 20)) none,
  .keep [3]]
def r55_6 : List G := [.op (.mov 23 (.tmp 3)) none,
  .op (.mov 2 (.tmp 23)) none,
  .keep [2]]
def c55 : C := (.seq (.region r55_0) (.seq (.region r55_1) (.seq (.seq (.region r55_2) (.cond (.tmp 8) (.region r55_3) .skip)) (.seq (.seq (.region r55_4) (.cond (.tmp 15) (.region r55_5) .skip)) (.seq (.region r55_6) .ret)))))
def x55 := PLift.up (andx (ux Tryd.prog r55_0.eq_1) (andx (ux Tryd.prog r55_1.eq_1) (andx (ux Tryd.prog r55_2.eq_1) (andx (ux Tryd.prog r55_3.eq_1) (andx (ux Tryd.prog r55_4.eq_1) (andx (ux Tryd.prog r55_5.eq_1) (ux Tryd.prog r55_6.eq_1)))))))
theorem low55 : Tryd.f55.body.bind (lowerC Tryd.prog 24 (fun _ => none)) = some c55.erase := by kernel_rfl
theorem enter55 {args : List Value} {w : World} {R : Ending → World → Prop} (ha : args.length ≤ 24) (h : vc Tryd.prog c55 (endPost [.t 2] R) (argEnv 0 args) w) : Calls Tryd.prog 55 args.toArray w R :=
  calls_of_vc Tryd.func55 rfl low55 rfl ha h
/-- The code of aquatint/glyph.digit. -/
def r56_0 : List G := [.op (.mov 2 (.const (.int .i32 0))) none,
  .keep [0]]
def r56_1 : List G := [.op (.mov 4 (.tmp 0)) none,
  .op (.ari 5 .geq .u8 (.tmp 4) (.const (.int .u8 48))) none,
  .op (.mov 6 (.tmp 5)) none,
  .op (.mov 7 (.tmp 0)) (some (6, true)),
  .op (.ari 8 .leq .u8 (.tmp 7) (.const (.int .u8 57))) (some (6, true)),
  .op (.pick 9 (.tmp 6) (.tmp 8) (.const (.bool false))) none,
  .op (.mov 3 (.tmp 9)) none,
  .keep [0, 3]]
def r56_2 : List G := [.op (.mov 10 (.tmp 0)) none,
  .op (.ari 11 .sub .u8 (.tmp 10) (.const (.int .u8 48))) none,
  .op (.conv 12 .i32 (.tmp 11)) none,
  .op (.mov 2 (.tmp 12)) none,
  .keep [2]]
def r56_3 : List G := [.op (.mov 14 (.tmp 0)) none,
  .op (.ari 15 .geq .u8 (.tmp 14) (.const (.int .u8 97))) none,
  .op (.mov 16 (.tmp 15)) none,
  .op (.mov 17 (.tmp 0)) (some (16, true)),
  .op (.ari 18 .leq .u8 (.tmp 17) (.const (.int .u8 102))) (some (16, true)),
  .op (.pick 19 (.tmp 16) (.tmp 18) (.const (.bool false))) none,
  .op (.mov 13 (.tmp 19)) none,
  .keep [0, 13]]
def r56_4 : List G := [.op (.mov 20 (.tmp 0)) none,
  .op (.ari 21 .sub .u8 (.tmp 20) (.const (.int .u8 97))) none,
  .op (.conv 22 .i32 (.tmp 21)) none,
  .op (.ari 23 .add .i32 (.tmp 22) (.const (.int .i32 10))) none,
  .op (.mov 2 (.tmp 23)) none,
  .keep [2]]
def r56_5 : List G := [.op (.mov 2 (.const (.int .i32 (-1)))) none,
  .keep [2]]
def c56 : C := (.seq (.region r56_0) (.seq (.block 0 (.seq (.region r56_1) (.cond (.tmp 3) (.seq (.region r56_2) .ret) (.seq (.region r56_3) (.cond (.tmp 13) (.seq (.region r56_4) .ret) .skip))))) (.seq (.region r56_5) .ret)))
def x56 := PLift.up (andx (ux Tryd.prog r56_0.eq_1) (andx (ux Tryd.prog r56_1.eq_1) (andx (ux Tryd.prog r56_2.eq_1) (andx (ux Tryd.prog r56_3.eq_1) (andx (ux Tryd.prog r56_4.eq_1) (ux Tryd.prog r56_5.eq_1))))))
theorem low56 : Tryd.f56.body.bind (lowerC Tryd.prog 24 (fun _ => none)) = some c56.erase := by kernel_rfl
theorem enter56 {args : List Value} {w : World} {R : Ending → World → Prop} (ha : args.length ≤ 24) (h : vc Tryd.prog c56 (endPost [.t 2] R) (argEnv 0 args) w) : Calls Tryd.prog 56 args.toArray w R :=
  calls_of_vc Tryd.func56 rfl low56 rfl ha h
/-- The code of unicode/utf8.ValidRune. -/
def r57_0 : List G := [.op (.mov 2 (.const (.bool false))) none,
  .keep [0]]
def r57_1 : List G := [.op (.mov 4 (.tmp 0)) none,
  .op (.ari 5 .leq .i32 (.const (.int .i32 0)) (.tmp 4)) none,
  .op (.mov 6 (.tmp 5)) none,
  .op (.mov 7 (.tmp 0)) (some (6, true)),
  .op (.ari 8 .lss .i32 (.tmp 7) (.const (.int .i32 55296))) (some (6, true)),
  .op (.pick 9 (.tmp 6) (.tmp 8) (.const (.bool false))) none,
  .op (.mov 3 (.tmp 9)) none,
  .keep [0, 3]]
def r57_2 : List G := [.op (.mov 2 (.const (.bool true))) none,
  .keep [2]]
def r57_3 : List G := [.op (.mov 11 (.tmp 0)) none,
  .op (.ari 12 .lss .i32 (.const (.int .i32 57343)) (.tmp 11)) none,
  .op (.mov 13 (.tmp 12)) none,
  .op (.mov 14 (.tmp 0)) (some (13, true)),
  .op (.ari 15 .leq .i32 (.tmp 14) (.const (.int .i32 1114111))) (some (13, true)),
  .op (.pick 16 (.tmp 13) (.tmp 15) (.const (.bool false))) none,
  .op (.mov 10 (.tmp 16)) none,
  .keep [10]]
def r57_4 : List G := [.op (.mov 2 (.const (.bool true))) none,
  .keep [2]]
def r57_5 : List G := [.op (.mov 2 (.const (.bool false))) none,
  .keep [2]]
def c57 : C := (.seq (.region r57_0) (.seq (.block 0 (.seq (.region r57_1) (.cond (.tmp 3) (.seq (.region r57_2) .ret) (.seq (.region r57_3) (.cond (.tmp 10) (.seq (.region r57_4) .ret) .skip))))) (.seq (.region r57_5) .ret)))
def x57 := PLift.up (andx (ux Tryd.prog r57_0.eq_1) (andx (ux Tryd.prog r57_1.eq_1) (andx (ux Tryd.prog r57_2.eq_1) (andx (ux Tryd.prog r57_3.eq_1) (andx (ux Tryd.prog r57_4.eq_1) (ux Tryd.prog r57_5.eq_1))))))
theorem low57 : Tryd.f57.body.bind (lowerC Tryd.prog 17 (fun _ => none)) = some c57.erase := by kernel_rfl
theorem enter57 {args : List Value} {w : World} {R : Ending → World → Prop} (ha : args.length ≤ 17) (h : vc Tryd.prog c57 (endPost [.t 2] R) (argEnv 0 args) w) : Calls Tryd.prog 57 args.toArray w R :=
  calls_of_vc Tryd.func57 rfl low57 rfl ha h
/-- The code of unicode/utf8.AppendRune. -/
def r58_0 : List G := [.op (.mov 4 (.const (Go.Value.slice none 0 0))) none,
  .keep [0, 1]]
def r58_1 : List G := [.op (.mov 5 (.tmp 1)) none,
  .op (.conv 6 .u32 (.tmp 5)) none,
  .op (.ari 7 .leq .u32 (.tmp 6) (.const (.int .u32 127))) none,
  .keep [0, 1, 7]]
def r58_2 : List G := [.op (.mov 8 (.tmp 0)) none,
  .op (.mov 9 (.tmp 1)) none,
  .op (.conv 10 .u8 (.tmp 9)) none,
  .op (.bslice 11 5 1 1 [(0, 1, (.tmp 10))]) none,
  .op (.append 12 5 1 1 (.tmp 8) (.tmp 11)) none,
  .op (.mov 4 (.tmp 12)) none,
  .keep [4]]
def r58_3 : List G := [.op (.mov 13 (.tmp 0)) none,
  .op (.mov 14 (.tmp 1)) none,
  .op (.call (some 15) 59 [(.tmp 13), (.tmp 14)]) none,
  .op (.mov 4 (.tmp 15)) none,
  .keep [4]]
def c58 : C := (.seq (.region r58_0) (.seq (.seq (.region r58_1) (.cond (.tmp 7) (.seq (.region r58_2) .ret) .skip)) (.seq (.region r58_3) .ret)))
def x58 := PLift.up (andx (ux Tryd.prog r58_0.eq_1) (andx (ux Tryd.prog r58_1.eq_1) (andx (ux Tryd.prog r58_2.eq_1) (ux Tryd.prog r58_3.eq_1))))
theorem low58 : Tryd.f58.body.bind (lowerC Tryd.prog 16 (fun _ => none)) = some c58.erase := by kernel_rfl
theorem enter58 {args : List Value} {w : World} {R : Ending → World → Prop} (ha : args.length ≤ 16) (h : vc Tryd.prog c58 (endPost [.t 4] R) (argEnv 0 args) w) : Calls Tryd.prog 58 args.toArray w R :=
  calls_of_vc Tryd.func58 rfl low58 rfl ha h
/-- The code of unicode/utf8.appendRuneNonASCII. -/
def r59_0 : List G := [.op (.mov 4 (.const (Go.Value.slice none 0 0))) none,
  .keep [0, 1]]
def r59_1 : List G := [.op (.mov 6 (.tmp 1)) none,
  .op (.conv 7 .u32 (.tmp 6)) none,
  .op (.mov 5 (.tmp 7)) none,
  .keep [0, 1, 5]]
def r59_3 : List G := [.op (.mov 12 (.tmp 5)) none,
  .op (.ari 13 .leq .u32 (.tmp 12) (.const (.int .u32 2047))) none,
  .op (.mov 11 (.tmp 13)) none,
  .keep [0, 1, 5, 11]]
def r59_4 : List G := [.op (.mov 14 (.tmp 0)) none,
  .op (.mov 15 (.tmp 1)) none,
  .op (.shf 16 .shr .i32 (.tmp 15) (.const (.int .u64 6))) none,
  .op (.conv 17 .u8 (.tmp 16)) none,
  .op (.ari 18 .or .u8 (.const (.int .u8 192)) (.tmp 17)) none,
  .op (.mov 19 (.tmp 1)) none,
  .op (.conv 20 .u8 (.tmp 19)) none,
  .op (.ari 21 .and .u8 (.tmp 20) (.const (.int .u8 63))) none,
  .op (.ari 22 .or .u8 (.const (.int .u8 128)) (.tmp 21)) none,
  .op (.bslice 23 5 2 1 [(0, 1, (.tmp 18)), (1, 1, (.tmp 22))]) none,
  .op (.append 24 5 1 1 (.tmp 14) (.tmp 23)) none,
  .op (.mov 4 (.tmp 24)) none,
  .keep [4]]
def r59_5 : List G := [.op (.mov 26 (.tmp 5)) none,
  .op (.ari 27 .lss .u32 (.tmp 26) (.const (.int .u32 55296))) none,
  .op (.mov 25 (.tmp 27)) none,
  .keep [0, 1, 5, 25]]
def r59_6 : List G := [.op (.mov 28 (.tmp 5)) none,
  .op (.ari 29 .lss .u32 (.const (.int .u32 57343)) (.tmp 28)) none,
  .op (.mov 30 (.tmp 29)) none,
  .op (.mov 31 (.tmp 5)) (some (30, true)),
  .op (.ari 32 .leq .u32 (.tmp 31) (.const (.int .u32 65535))) (some (30, true)),
  .op (.pick 33 (.tmp 30) (.tmp 32) (.const (.bool false))) none,
  .op (.mov 25 (.tmp 33)) none,
  .keep [0, 1, 5, 25]]
def r59_7 : List G := [.op (.mov 34 (.tmp 0)) none,
  .op (.mov 35 (.tmp 1)) none,
  .op (.shf 36 .shr .i32 (.tmp 35) (.const (.int .u64 12))) none,
  .op (.conv 37 .u8 (.tmp 36)) none,
  .op (.ari 38 .or .u8 (.const (.int .u8 224)) (.tmp 37)) none,
  .op (.mov 39 (.tmp 1)) none,
  .op (.shf 40 .shr .i32 (.tmp 39) (.const (.int .u64 6))) none,
  .op (.conv 41 .u8 (.tmp 40)) none,
  .op (.ari 42 .and .u8 (.tmp 41) (.const (.int .u8 63))) none,
  .op (.ari 43 .or .u8 (.const (.int .u8 128)) (.tmp 42)) none,
  .op (.mov 44 (.tmp 1)) none,
  .op (.conv 45 .u8 (.tmp 44)) none,
  .op (.ari 46 .and .u8 (.tmp 45) (.const (.int .u8 63))) none,
  .op (.ari 47 .or .u8 (.const (.int .u8 128)) (.tmp 46)) none,
  .op (.bslice 48 5 3 1 [(0, 1, (.tmp 38)), (1, 1, (.tmp 43)), (2, 1, (.tmp 47))]) none,
  .op (.append 49 5 1 1 (.tmp 34) (.tmp 48)) none,
  .op (.mov 4 (.tmp 49)) none,
  .keep [4]]
def r59_8 : List G := [.op (.mov 51 (.tmp 5)) none,
  .op (.ari 52 .gtr .u32 (.tmp 51) (.const (.int .u32 65535))) none,
  .op (.mov 53 (.tmp 52)) none,
  .op (.mov 54 (.tmp 5)) (some (53, true)),
  .op (.ari 55 .leq .u32 (.tmp 54) (.const (.int .u32 1114111))) (some (53, true)),
  .op (.pick 56 (.tmp 53) (.tmp 55) (.const (.bool false))) none,
  .op (.mov 50 (.tmp 56)) none,
  .keep [0, 1, 50]]
def r59_9 : List G := [.op (.mov 57 (.tmp 0)) none,
  .op (.mov 58 (.tmp 1)) none,
  .op (.shf 59 .shr .i32 (.tmp 58) (.const (.int .u64 18))) none,
  .op (.conv 60 .u8 (.tmp 59)) none,
  .op (.ari 61 .or .u8 (.const (.int .u8 240)) (.tmp 60)) none,
  .op (.mov 62 (.tmp 1)) none,
  .op (.shf 63 .shr .i32 (.tmp 62) (.const (.int .u64 12))) none,
  .op (.conv 64 .u8 (.tmp 63)) none,
  .op (.ari 65 .and .u8 (.tmp 64) (.const (.int .u8 63))) none,
  .op (.ari 66 .or .u8 (.const (.int .u8 128)) (.tmp 65)) none,
  .op (.mov 67 (.tmp 1)) none,
  .op (.shf 68 .shr .i32 (.tmp 67) (.const (.int .u64 6))) none,
  .op (.conv 69 .u8 (.tmp 68)) none,
  .op (.ari 70 .and .u8 (.tmp 69) (.const (.int .u8 63))) none,
  .op (.ari 71 .or .u8 (.const (.int .u8 128)) (.tmp 70)) none,
  .op (.mov 72 (.tmp 1)) none,
  .op (.conv 73 .u8 (.tmp 72)) none,
  .op (.ari 74 .and .u8 (.tmp 73) (.const (.int .u8 63))) none,
  .op (.ari 75 .or .u8 (.const (.int .u8 128)) (.tmp 74)) none,
  .op (.bslice 76 5 4 1 [(0, 1, (.tmp 61)), (1, 1, (.tmp 66)), (2, 1, (.tmp 71)), (3, 1, (.tmp 75))]) none,
  .op (.append 77 5 1 1 (.tmp 57) (.tmp 76)) none,
  .op (.mov 4 (.tmp 77)) none,
  .keep [4]]
def r59_2 : List G := [.op (.mov 8 (.tmp 0)) none,
  .op (.bslice 9 5 3 1 [(0, 1, (.const (.int .u8 239))), (1, 1, (.const (.int .u8 191))), (2, 1, (.const (.int .u8 189)))]) none,
  .op (.append 10 5 1 1 (.tmp 8) (.tmp 9)) none,
  .op (.mov 4 (.tmp 10)) none,
  .keep [4]]
def c59 : C := (.seq (.region r59_0) (.seq (.region r59_1) (.block 0 (.seq (.region r59_3) (.cond (.tmp 11) (.seq (.region r59_4) .ret) (.seq (.seq (.region r59_5) (.cond (.tmp 25) .skip (.region r59_6))) (.cond (.tmp 25) (.seq (.region r59_7) .ret) (.seq (.region r59_8) (.cond (.tmp 50) (.seq (.region r59_9) .ret) (.seq (.region r59_2) .ret))))))))))
def x59 := PLift.up (andx (ux Tryd.prog r59_0.eq_1) (andx (ux Tryd.prog r59_1.eq_1) (andx (ux Tryd.prog r59_3.eq_1) (andx (ux Tryd.prog r59_4.eq_1) (andx (ux Tryd.prog r59_5.eq_1) (andx (ux Tryd.prog r59_6.eq_1) (andx (ux Tryd.prog r59_7.eq_1) (andx (ux Tryd.prog r59_8.eq_1) (andx (ux Tryd.prog r59_9.eq_1) (ux Tryd.prog r59_2.eq_1))))))))))
theorem low59 : Tryd.f59.body.bind (lowerC Tryd.prog 78 (fun _ => none)) = some c59.erase := by kernel_rfl
theorem enter59 {args : List Value} {w : World} {R : Ending → World → Prop} (ha : args.length ≤ 78) (h : vc Tryd.prog c59 (endPost [.t 4] R) (argEnv 0 args) w) : Calls Tryd.prog 59 args.toArray w R :=
  calls_of_vc Tryd.func59 rfl low59 rfl ha h
end Go.Proofs.YtgibicifflfpfaaDoor
