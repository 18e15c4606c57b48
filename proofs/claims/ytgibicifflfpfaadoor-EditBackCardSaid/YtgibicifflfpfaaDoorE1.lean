/-
  The code of the edit functions and of their statements, read. Conditions: none.
-/
import Derived.Test.YtgibicifflfpfaaDoorE0
import Derived.Test.YtgibicifflfpfaaDoorProg
set_option autoImplicit false
set_option linter.unusedSimpArgs false
set_option linter.unusedVariables false
namespace Go.Proofs.YtgibicifflfpfaaDoor
open X
set_option maxRecDepth 100000
/-- The code of aquatint/aquatintlaw21.EditOps. -/
def r3_0 : List G := [.op (.box 1 23 (.tmp 0)) none,
  .op (.mov 2 (.const (.bool false))) none,
  .keep [1]]
def r3_1 : List G := [.op (.call (some 13) 6 []) none,
  .op (.not 14 (.tmp 13)) none,
  .op (.mov 15 (.tmp 14)) none,
  .op (.faddr 16 5 (.tmp 1)) (some (15, false)),
  .op (.load 17 (.tmp 16)) (some (15, false)),
  .op (.lenS 18 (.tmp 17)) (some (15, false)),
  .op (.ari 19 .gtr .i64 (.tmp 18) (.const (.int .i64 3000))) (some (15, false)),
  .op (.pick 20 (.tmp 15) (.const (.bool true)) (.tmp 19)) none,
  .keep [1, 20]]
def r3_2 : List G := [.op (.call (some 21) 6 []) none,
  .op (.mov 2 (.tmp 21)) none,
  .keep [2]]
def r3_3 : List G := [.op (.loadN 23 6 (.tmp 1)) none,
  .op (.call (some 24) 7 [(.tmp 23)]) none,
  .op (.mov 22 (.tmp 24)) none,
  .op (.ext 25 0 (.tmp 22)) none,
  .op (.ext 26 1 (.tmp 22)) none,
  .op (.mov 3 (.tmp 25)) none,
  .op (.mov 4 (.tmp 26)) none,
  .keep [1, 3, 4]]
def r3_4 : List G := [.op (.mov 28 (.tmp 3)) none,
  .op (.call (some 29) 8 [(.tmp 28)]) none,
  .op (.mov 27 (.tmp 29)) none,
  .op (.ext 30 0 (.tmp 27)) none,
  .op (.ext 31 1 (.tmp 27)) none,
  .op (.mov 5 (.tmp 30)) none,
  .op (.mov 6 (.tmp 31)) none,
  .keep [1, 3, 4, 5, 6]]
def r3_5 : List (Nat × G) := [(0, .op (.loadN 32 6 (.tmp 1)) none),
  (1, .op (.loadN 34 6 (.tmp 1)) none),
  (2, .op (.call (some 33) 9 [(.tmp 32)]) none),
  (0, .op (.call (some 35) 10 [(.tmp 34)]) none),
  (0, .op (.beq 36 true (.tmp 33) (.tmp 35)) none),
  (0, .keep [1, 3, 4, 5, 6, 36])]
def r3_6 : List G := [.op (.mov 2 (.const (.bool false))) none,
  .keep [2]]
def r3_7 : List G := [.op (.loadN 37 6 (.tmp 1)) none,
  .op (.call (some 38) 10 [(.tmp 37)]) none,
  .op (.not 39 (.tmp 38)) none,
  .keep [1, 3, 4, 5, 6, 39]]
def r3_8 : List G := [.op (.mov 40 (.tmp 3)) none,
  .op (.nili 41 false (.tmp 40)) none,
  .op (.mov 42 (.tmp 41)) none,
  .op (.mov 43 (.tmp 4)) (some (42, true)),
  .op (.ari 44 .eql .i64 (.tmp 43) (.const (.int .i64 1))) (some (42, true)),
  .op (.pick 45 (.tmp 42) (.tmp 44) (.const (.bool false))) none,
  .op (.mov 46 (.tmp 45)) none,
  .op (.mov 47 (.tmp 6)) (some (46, true)),
  .op (.not 48 (.tmp 47)) (some (46, true)),
  .op (.pick 49 (.tmp 46) (.tmp 48) (.const (.bool false))) none,
  .op (.mov 50 (.tmp 49)) none,
  .op (.mov 51 (.tmp 5)) (some (50, true)),
  .op (.ari 52 .eql .i64 (.tmp 51) (.const (.int .i64 0))) (some (50, true)),
  .op (.pick 53 (.tmp 50) (.tmp 52) (.const (.bool false))) none,
  .op (.mov 2 (.tmp 53)) none,
  .keep [2]]
def r3_9 : List (Nat × G) := [(0, .op (.mov 54 (.tmp 4)) none),
  (0, .op (.ari 55 .neq .i64 (.tmp 54) (.const (.int .i64 0))) none),
  (0, .op (.mov 56 (.tmp 55)) none),
  (0, .op (.mov 57 (.tmp 3)) (some (56, false))),
  (1, .op (.loadN 59 6 (.tmp 1)) (some (56, false))),
  (2, .op (.inv (some 58) "Edit" (.tmp 57) []) (some (56, false))),
  (0, .op (.aeq 60 true 23 (.tmp 58) (.tmp 59)) (some (56, false))),
  (0, .op (.pick 61 (.tmp 56) (.const (.bool true)) (.tmp 60)) none),
  (0, .op (.mov 62 (.tmp 61)) none),
  (0, .op (.mov 63 (.tmp 6)) (some (62, false))),
  (0, .op (.faddr 64 0 (.tmp 1)) (some (62, false))),
  (0, .op (.load 65 (.tmp 64)) (some (62, false))),
  (0, .op (.ari 66 .eql .i64 (.tmp 65) (.const (.int .i64 0))) (some (62, false))),
  (0, .op (.beq 67 true (.tmp 63) (.tmp 66)) (some (62, false))),
  (0, .op (.pick 68 (.tmp 62) (.const (.bool true)) (.tmp 67)) none),
  (0, .keep [1, 3, 6, 68])]
def r3_10 : List G := [.op (.mov 2 (.const (.bool false))) none,
  .keep [2]]
def r3_11 : List (Nat × G) := [(0, .op (.mov 69 (.tmp 6)) none),
  (0, .op (.mov 70 (.tmp 69)) none),
  (0, .op (.mov 71 (.tmp 3)) (some (70, true))),
  (0, .op (.faddr 73 1 (.tmp 1)) (some (70, true))),
  (1, .op (.load 74 (.tmp 73)) (some (70, true))),
  (2, .op (.call (some 72) 11 [(.tmp 71)]) (some (70, true))),
  (0, .op (.ari 75 .neq .i64 (.tmp 72) (.tmp 74)) (some (70, true))),
  (0, .op (.pick 76 (.tmp 70) (.tmp 75) (.const (.bool false))) none),
  (0, .keep [1, 3, 76])]
def r3_12 : List G := [.op (.mov 2 (.const (.bool false))) none,
  .keep [2]]
def r3_13 : List G := [.op (.mov 77 (.tmp 3)) none,
  .keep [1, 77]]
def r3_14 : List G := [.op (.tas 78 36 true (.tmp 77)) none,
  .op (.ext 79 1 (.tmp 78)) none,
  .op (.ext 80 0 (.tmp 78)) none,
  .keep [1, 77, 80, 79]]
def r3_15 : List G := [.op (.alloc 7 36) none,
  .op (.storeN 1 (.tmp 7) (.tmp 80)) none,
  .keep [1, 7]]
def r3_16 : List G := [.op (.faddr 81 0 (.tmp 1)) none,
  .op (.load 82 (.tmp 81)) none,
  .op (.ari 83 .eql .i64 (.tmp 82) (.const (.int .i64 0))) none,
  .op (.mov 84 (.tmp 83)) none,
  .op (.faddr 85 0 (.tmp 7)) (some (84, true)),
  .op (.load 86 (.tmp 85)) (some (84, true)),
  .op (.faddr 87 1 (.tmp 1)) (some (84, true)),
  .op (.load 88 (.tmp 87)) (some (84, true)),
  .op (.ari 89 .eql .i64 (.tmp 86) (.tmp 88)) (some (84, true)),
  .op (.pick 90 (.tmp 84) (.tmp 89) (.const (.bool false))) none,
  .op (.mov 2 (.tmp 90)) none,
  .keep [2]]
def r3_17 : List G := [.op (.tas 91 40 true (.tmp 77)) none,
  .op (.ext 92 1 (.tmp 91)) none,
  .op (.ext 93 0 (.tmp 91)) none,
  .keep [1, 77, 93, 92]]
def r3_18 : List G := [.op (.alloc 8 40) none,
  .op (.storeN 4 (.tmp 8) (.tmp 93)) none,
  .keep [1, 8]]
def r3_19 : List G := [.op (.faddr 94 0 (.tmp 1)) none,
  .op (.load 95 (.tmp 94)) none,
  .op (.ari 96 .eql .i64 (.tmp 95) (.const (.int .i64 1))) none,
  .op (.mov 97 (.tmp 96)) none,
  .op (.faddr 98 0 (.tmp 8)) (some (97, true)),
  .op (.faddr 99 0 (.tmp 98)) (some (97, true)),
  .op (.load 100 (.tmp 99)) (some (97, true)),
  .op (.faddr 101 1 (.tmp 1)) (some (97, true)),
  .op (.load 102 (.tmp 101)) (some (97, true)),
  .op (.ari 103 .eql .i64 (.tmp 100) (.tmp 102)) (some (97, true)),
  .op (.pick 104 (.tmp 97) (.tmp 103) (.const (.bool false))) none,
  .op (.mov 105 (.tmp 104)) none,
  .op (.faddr 106 0 (.tmp 8)) (some (105, true)),
  .op (.faddr 107 3 (.tmp 106)) (some (105, true)),
  .op (.load 108 (.tmp 107)) (some (105, true)),
  .op (.faddr 109 4 (.tmp 1)) (some (105, true)),
  .op (.load 110 (.tmp 109)) (some (105, true)),
  .op (.ari 111 .eql .i64 (.tmp 108) (.tmp 110)) (some (105, true)),
  .op (.pick 112 (.tmp 105) (.tmp 111) (.const (.bool false))) none,
  .op (.mov 2 (.tmp 112)) none,
  .keep [2]]
def r3_20 : List G := [.op (.tas 113 41 true (.tmp 77)) none,
  .op (.ext 114 1 (.tmp 113)) none,
  .op (.ext 115 0 (.tmp 113)) none,
  .keep [1, 77, 115, 114]]
def r3_21 : List G := [.op (.alloc 9 41) none,
  .op (.storeN 4 (.tmp 9) (.tmp 115)) none,
  .keep [1, 9]]
def r3_22 : List G := [.op (.faddr 116 0 (.tmp 1)) none,
  .op (.load 117 (.tmp 116)) none,
  .op (.ari 118 .eql .i64 (.tmp 117) (.const (.int .i64 2))) none,
  .op (.mov 119 (.tmp 118)) none,
  .op (.faddr 120 0 (.tmp 9)) (some (119, true)),
  .op (.faddr 121 1 (.tmp 120)) (some (119, true)),
  .op (.load 122 (.tmp 121)) (some (119, true)),
  .op (.faddr 123 2 (.tmp 1)) (some (119, true)),
  .op (.load 124 (.tmp 123)) (some (119, true)),
  .op (.ari 125 .eql .i64 (.tmp 122) (.tmp 124)) (some (119, true)),
  .op (.pick 126 (.tmp 119) (.tmp 125) (.const (.bool false))) none,
  .op (.mov 127 (.tmp 126)) none,
  .op (.faddr 128 0 (.tmp 9)) (some (127, true)),
  .op (.faddr 129 2 (.tmp 128)) (some (127, true)),
  .op (.load 130 (.tmp 129)) (some (127, true)),
  .op (.faddr 131 3 (.tmp 1)) (some (127, true)),
  .op (.load 132 (.tmp 131)) (some (127, true)),
  .op (.ari 133 .eql .i64 (.tmp 130) (.tmp 132)) (some (127, true)),
  .op (.pick 134 (.tmp 127) (.tmp 133) (.const (.bool false))) none,
  .op (.mov 2 (.tmp 134)) none,
  .keep [2]]
def r3_23 : List G := [.op (.tas 135 43 true (.tmp 77)) none,
  .op (.ext 136 1 (.tmp 135)) none,
  .op (.ext 137 0 (.tmp 135)) none,
  .keep [1, 77, 137, 136]]
def r3_24 : List G := [.op (.alloc 10 43) none,
  .op (.storeN 3 (.tmp 10) (.tmp 137)) none,
  .keep [1, 10]]
def r3_25 : List G := [.op (.faddr 138 0 (.tmp 1)) none,
  .op (.load 139 (.tmp 138)) none,
  .op (.ari 140 .eql .i64 (.tmp 139) (.const (.int .i64 3))) none,
  .op (.mov 141 (.tmp 140)) none,
  .op (.faddr 142 0 (.tmp 10)) (some (141, true)),
  .op (.load 143 (.tmp 142)) (some (141, true)),
  .op (.faddr 144 1 (.tmp 1)) (some (141, true)),
  .op (.load 145 (.tmp 144)) (some (141, true)),
  .op (.ari 146 .eql .i64 (.tmp 143) (.tmp 145)) (some (141, true)),
  .op (.pick 147 (.tmp 141) (.tmp 146) (.const (.bool false))) none,
  .op (.mov 148 (.tmp 147)) none,
  .op (.faddr 149 1 (.tmp 10)) (some (148, true)),
  .op (.load 150 (.tmp 149)) (some (148, true)),
  .op (.faddr 151 2 (.tmp 1)) (some (148, true)),
  .op (.load 152 (.tmp 151)) (some (148, true)),
  .op (.ari 153 .eql .i64 (.tmp 150) (.tmp 152)) (some (148, true)),
  .op (.pick 154 (.tmp 148) (.tmp 153) (.const (.bool false))) none,
  .op (.mov 155 (.tmp 154)) none,
  .op (.faddr 156 2 (.tmp 10)) (some (155, true)),
  .op (.load 157 (.tmp 156)) (some (155, true)),
  .op (.faddr 158 5 (.tmp 1)) (some (155, true)),
  .op (.load 159 (.tmp 158)) (some (155, true)),
  .op (.sop 160 .eql (.tmp 157) (.tmp 159)) (some (155, true)),
  .op (.pick 161 (.tmp 155) (.tmp 160) (.const (.bool false))) none,
  .op (.mov 2 (.tmp 161)) none,
  .keep [2]]
def r3_26 : List G := [.op (.tas 162 45 true (.tmp 77)) none,
  .op (.ext 163 1 (.tmp 162)) none,
  .op (.ext 164 0 (.tmp 162)) none,
  .keep [1, 77, 164, 163]]
def r3_27 : List G := [.op (.alloc 11 45) none,
  .op (.storeN 1 (.tmp 11) (.tmp 164)) none,
  .keep [1, 11]]
def r3_28 : List G := [.op (.faddr 165 0 (.tmp 1)) none,
  .op (.load 166 (.tmp 165)) none,
  .op (.ari 167 .eql .i64 (.tmp 166) (.const (.int .i64 4))) none,
  .op (.mov 168 (.tmp 167)) none,
  .op (.faddr 169 0 (.tmp 11)) (some (168, true)),
  .op (.load 170 (.tmp 169)) (some (168, true)),
  .op (.faddr 171 1 (.tmp 1)) (some (168, true)),
  .op (.load 172 (.tmp 171)) (some (168, true)),
  .op (.ari 173 .eql .i64 (.tmp 170) (.tmp 172)) (some (168, true)),
  .op (.pick 174 (.tmp 168) (.tmp 173) (.const (.bool false))) none,
  .op (.mov 2 (.tmp 174)) none,
  .keep [2]]
def r3_29 : List G := [.op (.tas 175 47 true (.tmp 77)) none,
  .op (.ext 176 1 (.tmp 175)) none,
  .op (.ext 177 0 (.tmp 175)) none,
  .keep [1, 177, 176]]
def r3_30 : List G := [.op (.alloc 12 47) none,
  .op (.storeN 1 (.tmp 12) (.tmp 177)) none,
  .keep [1, 12]]
def r3_31 : List G := [.op (.faddr 178 0 (.tmp 1)) none,
  .op (.load 179 (.tmp 178)) none,
  .op (.ari 180 .eql .i64 (.tmp 179) (.const (.int .i64 5))) none,
  .op (.mov 181 (.tmp 180)) none,
  .op (.faddr 182 0 (.tmp 12)) (some (181, true)),
  .op (.load 183 (.tmp 182)) (some (181, true)),
  .op (.faddr 184 5 (.tmp 1)) (some (181, true)),
  .op (.load 185 (.tmp 184)) (some (181, true)),
  .op (.sop 186 .eql (.tmp 183) (.tmp 185)) (some (181, true)),
  .op (.pick 187 (.tmp 181) (.tmp 186) (.const (.bool false))) none,
  .op (.mov 2 (.tmp 187)) none,
  .keep [2]]
def r3_32 : List G := [.op (.mov 2 (.const (.bool false))) none,
  .keep [2]]
def c3 : C := (.seq (.region r3_0) (.seq (.seq (.region r3_1) (.cond (.tmp 20) (.seq (.region r3_2) .ret) .skip)) (.seq (.region r3_3) (.seq (.region r3_4) (.seq (.seq (.regionW r3_5) (.cond (.tmp 36) (.seq (.region r3_6) .ret) .skip)) (.seq (.seq (.region r3_7) (.cond (.tmp 39) (.seq (.region r3_8) .ret) .skip)) (.seq (.seq (.regionW r3_9) (.cond (.tmp 68) (.seq (.region r3_10) .ret) .skip)) (.seq (.seq (.regionW r3_11) (.cond (.tmp 76) (.seq (.region r3_12) .ret) .skip)) (.seq (.seq (.region r3_13) (.block 0 (.seq (.region r3_14) (.cond (.tmp 79) (.seq (.region r3_15) (.seq (.region r3_16) .ret)) (.seq (.region r3_17) (.cond (.tmp 92) (.seq (.region r3_18) (.seq (.region r3_19) .ret)) (.seq (.region r3_20) (.cond (.tmp 114) (.seq (.region r3_21) (.seq (.region r3_22) .ret)) (.seq (.region r3_23) (.cond (.tmp 136) (.seq (.region r3_24) (.seq (.region r3_25) .ret)) (.seq (.region r3_26) (.cond (.tmp 163) (.seq (.region r3_27) (.seq (.region r3_28) .ret)) (.seq (.region r3_29) (.cond (.tmp 176) (.seq (.region r3_30) (.seq (.region r3_31) .ret)) .skip)))))))))))))) (.seq (.region r3_32) .ret))))))))))
def x3 := PLift.up (andx (ux Tryd.prog r3_0.eq_1) (andx (ux Tryd.prog r3_1.eq_1) (andx (ux Tryd.prog r3_2.eq_1) (andx (ux Tryd.prog r3_3.eq_1) (andx (ux Tryd.prog r3_4.eq_1) (andx (uw Tryd.prog r3_5.eq_1) (andx (ux Tryd.prog r3_6.eq_1) (andx (ux Tryd.prog r3_7.eq_1) (andx (ux Tryd.prog r3_8.eq_1) (andx (uw Tryd.prog r3_9.eq_1) (andx (ux Tryd.prog r3_10.eq_1) (andx (uw Tryd.prog r3_11.eq_1) (andx (ux Tryd.prog r3_12.eq_1) (andx (ux Tryd.prog r3_13.eq_1) (andx (ux Tryd.prog r3_14.eq_1) (andx (ux Tryd.prog r3_15.eq_1) (andx (ux Tryd.prog r3_16.eq_1) (andx (ux Tryd.prog r3_17.eq_1) (andx (ux Tryd.prog r3_18.eq_1) (andx (ux Tryd.prog r3_19.eq_1) (andx (ux Tryd.prog r3_20.eq_1) (andx (ux Tryd.prog r3_21.eq_1) (andx (ux Tryd.prog r3_22.eq_1) (andx (ux Tryd.prog r3_23.eq_1) (andx (ux Tryd.prog r3_24.eq_1) (andx (ux Tryd.prog r3_25.eq_1) (andx (ux Tryd.prog r3_26.eq_1) (andx (ux Tryd.prog r3_27.eq_1) (andx (ux Tryd.prog r3_28.eq_1) (andx (ux Tryd.prog r3_29.eq_1) (andx (ux Tryd.prog r3_30.eq_1) (andx (ux Tryd.prog r3_31.eq_1) (ux Tryd.prog r3_32.eq_1)))))))))))))))))))))))))))))))))
theorem low3 : Tryd.f3.body.bind (lowerC Tryd.prog 188 (fun i => List.lookup i [(5, .fin [(0, 0), (2, 1), (1, 2), (3, 0), (4, 0)]), (9, .fin [(0, 0), (1, 0), (2, 0), (3, 0), (5, 1), (4, 2), (6, 0), (7, 0), (8, 0), (9, 0), (10, 0), (11, 0), (12, 0), (13, 0), (14, 0)]), (11, .fin [(0, 0), (1, 0), (2, 0), (4, 0), (5, 1), (3, 2), (6, 0), (7, 0)])])) = some c3.erase := by kernel_rfl
theorem enter3 {args : List Value} {w : World} {R : Ending → World → Prop} (ha : args.length ≤ 188) (h : vc Tryd.prog c3 (endPost [.t 2] R) (argEnv 0 args) w) : Calls Tryd.prog 3 args.toArray w R :=
  calls_of_vc Tryd.func3 rfl low3 rfl ha h
/-- The code of aquatint/aquatintlaw21.EditBack. -/
def r4_0 : List G := [.op (.box 2 23 (.tmp 0)) none,
  .op (.mov 4 (.const (.bool false))) none,
  .keep [1, 2]]
def r4_1 : List G := [.op (.call (some 18) 6 []) none,
  .op (.not 19 (.tmp 18)) none,
  .op (.mov 20 (.tmp 19)) none,
  .op (.faddr 21 5 (.tmp 2)) (some (20, false)),
  .op (.load 22 (.tmp 21)) (some (20, false)),
  .op (.lenS 23 (.tmp 22)) (some (20, false)),
  .op (.ari 24 .gtr .i64 (.tmp 23) (.const (.int .i64 3000))) (some (20, false)),
  .op (.pick 25 (.tmp 20) (.const (.bool true)) (.tmp 24)) none,
  .op (.mov 26 (.tmp 25)) none,
  .op (.mov 27 (.tmp 1)) (some (26, false)),
  .op (.lenS 28 (.tmp 27)) (some (26, false)),
  .op (.ari 29 .gtr .i64 (.tmp 28) (.const (.int .i64 3000))) (some (26, false)),
  .op (.pick 30 (.tmp 26) (.const (.bool true)) (.tmp 29)) none,
  .keep [1, 2, 30]]
def r4_2 : List G := [.op (.call (some 31) 6 []) none,
  .op (.mov 4 (.tmp 31)) none,
  .keep [4]]
def r4_3 : List G := [.op (.loadN 33 6 (.tmp 2)) none,
  .op (.call (some 34) 12 [(.tmp 33)]) none,
  .op (.mov 32 (.tmp 34)) none,
  .op (.ext 35 0 (.tmp 32)) none,
  .op (.ext 36 1 (.tmp 32)) none,
  .op (.mov 5 (.tmp 35)) none,
  .op (.mov 6 (.tmp 36)) none,
  .keep [1, 2, 5, 6]]
def r4_4 : List G := [.op (.mov 37 (.tmp 6)) none,
  .op (.ari 38 .neq .i64 (.tmp 37) (.const (.int .i64 0))) none,
  .keep [1, 2, 5, 38]]
def r4_5 : List G := [.op (.mov 39 (.tmp 5)) none,
  .op (.sop 40 .neq (.tmp 39) (.const (.string { data := #[] }))) none,
  .op (.mov 41 (.tmp 40)) none,
  .op (.loadN 42 6 (.tmp 2)) (some (41, false)),
  .op (.call (some 43) 9 [(.tmp 42)]) (some (41, false)),
  .op (.pick 44 (.tmp 41) (.const (.bool true)) (.tmp 43)) none,
  .keep [1, 44]]
def r4_6 : List G := [.op (.mov 4 (.const (.bool false))) none,
  .keep [4]]
def r4_7 : List G := [.op (.mov 46 (.tmp 5)) none,
  .op (.call (some 47) 13 [(.tmp 46)]) none,
  .op (.mov 45 (.tmp 47)) none,
  .op (.ext 48 0 (.tmp 45)) none,
  .op (.ext 49 1 (.tmp 45)) none,
  .op (.ext 50 2 (.tmp 45)) none,
  .op (.alloc 7 23) none,
  .op (.storeN 6 (.tmp 7) (.tmp 48)) none,
  .op (.mov 8 (.tmp 49)) none,
  .op (.mov 9 (.tmp 50)) none,
  .keep [1, 2, 7, 9]]
def r4_8 : List G := [.op (.mov 51 (.tmp 9)) none,
  .op (.ari 52 .neq .i64 (.tmp 51) (.const (.int .i64 0))) none,
  .op (.mov 53 (.tmp 52)) none,
  .op (.loadN 54 6 (.tmp 7)) (some (53, false)),
  .op (.loadN 55 6 (.tmp 2)) (some (53, false)),
  .op (.aeq 56 true 23 (.tmp 54) (.tmp 55)) (some (53, false)),
  .op (.pick 57 (.tmp 53) (.const (.bool true)) (.tmp 56)) none,
  .keep [1, 57]]
def r4_9 : List G := [.op (.mov 4 (.const (.bool false))) none,
  .keep [4]]
def r4_10 : List G := [.op (.mov 59 (.tmp 1)) none,
  .op (.call (some 60) 13 [(.tmp 59)]) none,
  .op (.mov 58 (.tmp 60)) none,
  .op (.ext 61 0 (.tmp 58)) none,
  .op (.ext 62 1 (.tmp 58)) none,
  .op (.ext 63 2 (.tmp 58)) none,
  .op (.alloc 10 23) none,
  .op (.storeN 6 (.tmp 10) (.tmp 61)) none,
  .op (.mov 11 (.tmp 62)) none,
  .op (.mov 12 (.tmp 63)) none,
  .keep [1, 10, 11, 12]]
def r4_11 : List G := [.op (.mov 64 (.tmp 12)) none,
  .op (.ari 65 .neq .i64 (.tmp 64) (.const (.int .i64 0))) none,
  .keep [1, 10, 11, 65]]
def r4_12 : List G := [.op (.loadN 66 6 (.tmp 10)) none,
  .op (.build 67 23 []) none,
  .op (.aeq 68 false 23 (.tmp 66) (.tmp 67)) none,
  .op (.mov 69 (.tmp 68)) none,
  .op (.mov 70 (.tmp 11)) (some (69, true)),
  .op (.ari 71 .geq .i64 (.tmp 70) (.const (.int .i64 0))) (some (69, true)),
  .op (.pick 72 (.tmp 69) (.tmp 71) (.const (.bool false))) none,
  .op (.mov 73 (.tmp 72)) none,
  .op (.mov 74 (.tmp 11)) (some (73, true)),
  .op (.mov 75 (.tmp 1)) (some (73, true)),
  .op (.lenS 76 (.tmp 75)) (some (73, true)),
  .op (.ari 77 .leq .i64 (.tmp 74) (.tmp 76)) (some (73, true)),
  .op (.pick 78 (.tmp 73) (.tmp 77) (.const (.bool false))) none,
  .op (.mov 4 (.tmp 78)) none,
  .keep [4]]
def r4_13 : List G := [.op (.loadN 80 6 (.tmp 10)) none,
  .op (.call (some 81) 12 [(.tmp 80)]) none,
  .op (.mov 79 (.tmp 81)) none,
  .op (.ext 82 0 (.tmp 79)) none,
  .op (.ext 83 1 (.tmp 79)) none,
  .op (.mov 13 (.tmp 82)) none,
  .op (.mov 14 (.tmp 83)) none,
  .keep [10, 13, 14]]
def r4_14 : List G := [.op (.mov 85 (.tmp 13)) none,
  .op (.call (some 86) 13 [(.tmp 85)]) none,
  .op (.mov 84 (.tmp 86)) none,
  .op (.ext 87 0 (.tmp 84)) none,
  .op (.ext 88 1 (.tmp 84)) none,
  .op (.ext 89 2 (.tmp 84)) none,
  .op (.alloc 15 23) none,
  .op (.storeN 6 (.tmp 15) (.tmp 87)) none,
  .op (.mov 16 (.tmp 88)) none,
  .op (.mov 17 (.tmp 89)) none,
  .keep [10, 14, 15, 17]]
def r4_15 : List G := [.op (.mov 90 (.tmp 14)) none,
  .op (.ari 91 .eql .i64 (.tmp 90) (.const (.int .i64 0))) none,
  .op (.mov 92 (.tmp 91)) none,
  .op (.mov 93 (.tmp 17)) (some (92, true)),
  .op (.ari 94 .eql .i64 (.tmp 93) (.const (.int .i64 0))) (some (92, true)),
  .op (.pick 95 (.tmp 92) (.tmp 94) (.const (.bool false))) none,
  .op (.mov 96 (.tmp 95)) none,
  .op (.loadN 97 6 (.tmp 15)) (some (96, true)),
  .op (.loadN 98 6 (.tmp 10)) (some (96, true)),
  .op (.aeq 99 false 23 (.tmp 97) (.tmp 98)) (some (96, true)),
  .op (.pick 100 (.tmp 96) (.tmp 99) (.const (.bool false))) none,
  .op (.mov 101 (.tmp 100)) none,
  .op (.loadN 102 6 (.tmp 10)) (some (101, true)),
  .op (.call (some 103) 9 [(.tmp 102)]) (some (101, true)),
  .op (.pick 104 (.tmp 101) (.tmp 103) (.const (.bool false))) none,
  .op (.mov 4 (.tmp 104)) none,
  .keep [4]]
def c4 : C := (.seq (.region r4_0) (.seq (.seq (.region r4_1) (.cond (.tmp 30) (.seq (.region r4_2) .ret) .skip)) (.seq (.region r4_3) (.seq (.seq (.region r4_4) (.cond (.tmp 38) (.seq (.region r4_5) (.cond (.tmp 44) (.seq (.region r4_6) .ret) .skip)) (.seq (.region r4_7) (.seq (.region r4_8) (.cond (.tmp 57) (.seq (.region r4_9) .ret) .skip))))) (.seq (.region r4_10) (.seq (.seq (.region r4_11) (.cond (.tmp 65) (.seq (.region r4_12) .ret) .skip)) (.seq (.region r4_13) (.seq (.region r4_14) (.seq (.region r4_15) .ret)))))))))
def x4 := PLift.up (andx (ux Tryd.prog r4_0.eq_1) (andx (ux Tryd.prog r4_1.eq_1) (andx (ux Tryd.prog r4_2.eq_1) (andx (ux Tryd.prog r4_3.eq_1) (andx (ux Tryd.prog r4_4.eq_1) (andx (ux Tryd.prog r4_5.eq_1) (andx (ux Tryd.prog r4_6.eq_1) (andx (ux Tryd.prog r4_7.eq_1) (andx (ux Tryd.prog r4_8.eq_1) (andx (ux Tryd.prog r4_9.eq_1) (andx (ux Tryd.prog r4_10.eq_1) (andx (ux Tryd.prog r4_11.eq_1) (andx (ux Tryd.prog r4_12.eq_1) (andx (ux Tryd.prog r4_13.eq_1) (andx (ux Tryd.prog r4_14.eq_1) (ux Tryd.prog r4_15.eq_1))))))))))))))))
theorem low4 : Tryd.f4.body.bind (lowerC Tryd.prog 105 (fun _ => none)) = some c4.erase := by kernel_rfl
theorem enter4 {args : List Value} {w : World} {R : Ending → World → Prop} (ha : args.length ≤ 105) (h : vc Tryd.prog c4 (endPost [.t 4] R) (argEnv 0 args) w) : Calls Tryd.prog 4 args.toArray w R :=
  calls_of_vc Tryd.func4 rfl low4 rfl ha h
/-- The code of aquatint/aquatintlaw21.EditTexts. -/
def r5_0 : List G := [.op (.box 2 23 (.tmp 0)) none,
  .op (.mov 4 (.const (.bool false))) none,
  .keep [1, 2]]
def r5_1 : List G := [.op (.call (some 13) 6 []) none,
  .op (.not 14 (.tmp 13)) none,
  .op (.mov 15 (.tmp 14)) none,
  .op (.faddr 16 5 (.tmp 2)) (some (15, false)),
  .op (.load 17 (.tmp 16)) (some (15, false)),
  .op (.lenS 18 (.tmp 17)) (some (15, false)),
  .op (.ari 19 .gtr .i64 (.tmp 18) (.const (.int .i64 3000))) (some (15, false)),
  .op (.pick 20 (.tmp 15) (.const (.bool true)) (.tmp 19)) none,
  .op (.mov 21 (.tmp 20)) none,
  .op (.mov 22 (.tmp 1)) (some (21, false)),
  .op (.lenS 23 (.tmp 22)) (some (21, false)),
  .op (.ari 24 .gtr .i64 (.tmp 23) (.const (.int .i64 3000))) (some (21, false)),
  .op (.pick 25 (.tmp 21) (.const (.bool true)) (.tmp 24)) none,
  .keep [1, 2, 25]]
def r5_2 : List G := [.op (.call (some 26) 6 []) none,
  .op (.mov 4 (.tmp 26)) none,
  .keep [4]]
def r5_3 : List G := [.op (.loadN 28 6 (.tmp 2)) none,
  .op (.call (some 29) 12 [(.tmp 28)]) none,
  .op (.mov 27 (.tmp 29)) none,
  .op (.ext 30 0 (.tmp 27)) none,
  .op (.ext 31 1 (.tmp 27)) none,
  .op (.mov 5 (.tmp 30)) none,
  .op (.mov 6 (.tmp 31)) none,
  .keep [1, 2, 5, 6]]
def r5_4 : List G := [.op (.loadN 32 6 (.tmp 2)) none,
  .op (.call (some 33) 10 [(.tmp 32)]) none,
  .op (.mov 34 (.tmp 33)) none,
  .op (.mov 35 (.tmp 5)) (some (34, true)),
  .op (.loadN 36 6 (.tmp 2)) (some (34, true)),
  .op (.call (some 37) 14 [(.tmp 36)]) (some (34, true)),
  .op (.sop 38 .neq (.tmp 35) (.tmp 37)) (some (34, true)),
  .op (.mov 39 (.tmp 38)) (some (34, true)),
  .op (.mov 40 (.tmp 6)) (some (39, false)),
  .op (.ari 41 .neq .i64 (.tmp 40) (.const (.int .i64 0))) (some (39, false)),
  .op (.pick 42 (.tmp 39) (.const (.bool true)) (.tmp 41)) (some (34, true)),
  .op (.pick 43 (.tmp 34) (.tmp 42) (.const (.bool false))) none,
  .op (.mov 44 (.tmp 43)) none,
  .op (.loadN 45 6 (.tmp 2)) (some (44, false)),
  .op (.call (some 46) 10 [(.tmp 45)]) (some (44, false)),
  .op (.not 47 (.tmp 46)) (some (44, false)),
  .op (.mov 48 (.tmp 47)) (some (44, false)),
  .op (.mov 49 (.tmp 5)) (some (48, true)),
  .op (.sop 50 .neq (.tmp 49) (.const (.string { data := #[] }))) (some (48, true)),
  .op (.mov 51 (.tmp 50)) (some (48, true)),
  .op (.mov 52 (.tmp 6)) (some (51, false)),
  .op (.ari 53 .neq .i64 (.tmp 52) (.const (.int .i64 1))) (some (51, false)),
  .op (.pick 54 (.tmp 51) (.const (.bool true)) (.tmp 53)) (some (48, true)),
  .op (.pick 55 (.tmp 48) (.tmp 54) (.const (.bool false))) (some (44, false)),
  .op (.pick 56 (.tmp 44) (.const (.bool true)) (.tmp 55)) none,
  .keep [1, 56]]
def r5_5 : List G := [.op (.mov 4 (.const (.bool false))) none,
  .keep [4]]
def r5_6 : List G := [.op (.mov 58 (.tmp 1)) none,
  .op (.call (some 59) 13 [(.tmp 58)]) none,
  .op (.mov 57 (.tmp 59)) none,
  .op (.ext 60 0 (.tmp 57)) none,
  .op (.ext 61 1 (.tmp 57)) none,
  .op (.ext 62 2 (.tmp 57)) none,
  .op (.alloc 7 23) none,
  .op (.storeN 6 (.tmp 7) (.tmp 60)) none,
  .op (.mov 8 (.tmp 61)) none,
  .op (.mov 9 (.tmp 62)) none,
  .keep [1, 7, 8, 9]]
def r5_7 : List G := [.op (.mov 64 (.tmp 1)) none,
  .op (.call (some 65) 15 [(.tmp 64)]) none,
  .op (.mov 63 (.tmp 65)) none,
  .op (.ext 66 0 (.tmp 63)) none,
  .op (.ext 67 1 (.tmp 63)) none,
  .op (.ext 68 2 (.tmp 63)) none,
  .op (.alloc 10 23) none,
  .op (.storeN 6 (.tmp 10) (.tmp 66)) none,
  .op (.mov 11 (.tmp 67)) none,
  .op (.mov 12 (.tmp 68)) none,
  .keep [7, 8, 9, 10, 11, 12]]
def r5_8 : List G := [.op (.loadN 69 6 (.tmp 7)) none,
  .op (.loadN 70 6 (.tmp 10)) none,
  .op (.aeq 71 false 23 (.tmp 69) (.tmp 70)) none,
  .op (.mov 72 (.tmp 71)) none,
  .op (.mov 73 (.tmp 8)) (some (72, true)),
  .op (.mov 74 (.tmp 11)) (some (72, true)),
  .op (.ari 75 .eql .i64 (.tmp 73) (.tmp 74)) (some (72, true)),
  .op (.pick 76 (.tmp 72) (.tmp 75) (.const (.bool false))) none,
  .op (.mov 77 (.tmp 76)) none,
  .op (.mov 78 (.tmp 9)) (some (77, true)),
  .op (.mov 79 (.tmp 12)) (some (77, true)),
  .op (.ari 80 .eql .i64 (.tmp 78) (.tmp 79)) (some (77, true)),
  .op (.pick 81 (.tmp 77) (.tmp 80) (.const (.bool false))) none,
  .op (.mov 4 (.tmp 81)) none,
  .keep [4]]
def c5 : C := (.seq (.region r5_0) (.seq (.seq (.region r5_1) (.cond (.tmp 25) (.seq (.region r5_2) .ret) .skip)) (.seq (.region r5_3) (.seq (.seq (.region r5_4) (.cond (.tmp 56) (.seq (.region r5_5) .ret) .skip)) (.seq (.region r5_6) (.seq (.region r5_7) (.seq (.region r5_8) .ret)))))))
def x5 := PLift.up (andx (ux Tryd.prog r5_0.eq_1) (andx (ux Tryd.prog r5_1.eq_1) (andx (ux Tryd.prog r5_2.eq_1) (andx (ux Tryd.prog r5_3.eq_1) (andx (ux Tryd.prog r5_4.eq_1) (andx (ux Tryd.prog r5_5.eq_1) (andx (ux Tryd.prog r5_6.eq_1) (andx (ux Tryd.prog r5_7.eq_1) (ux Tryd.prog r5_8.eq_1)))))))))
theorem low5 : Tryd.f5.body.bind (lowerC Tryd.prog 82 (fun _ => none)) = some c5.erase := by kernel_rfl
theorem enter5 {args : List Value} {w : World} {R : Ending → World → Prop} (ha : args.length ≤ 82) (h : vc Tryd.prog c5 (endPost [.t 4] R) (argEnv 0 args) w) : Calls Tryd.prog 5 args.toArray w R :=
  calls_of_vc Tryd.func5 rfl low5 rfl ha h
/-- The code of aquatint/aquatintlaw21.awake. -/
def r6_0 : List G := [.op (.mov 0 (.const (.bool false))) none,
  .keep []]
def r6_1 : List G := [.op (.call (some 8) 13 [(.const (.string { data := #[112, 117, 116, 32, 48, 32, 50, 53, 52, 32, 34, 104, 105, 34] }))]) none,
  .op (.mov 7 (.tmp 8)) none,
  .op (.ext 9 0 (.tmp 7)) none,
  .op (.ext 10 1 (.tmp 7)) none,
  .op (.ext 11 2 (.tmp 7)) none,
  .op (.alloc 1 23) none,
  .op (.storeN 6 (.tmp 1) (.tmp 9)) none,
  .op (.mov 2 (.tmp 10)) none,
  .op (.mov 3 (.tmp 11)) none,
  .keep [1, 3]]
def r6_2 : List G := [.op (.call (some 13) 13 [(.const (.string { data := #[116, 117, 114, 110, 32, 114, 105, 103, 116, 104] }))]) none,
  .op (.mov 12 (.tmp 13)) none,
  .op (.ext 14 0 (.tmp 12)) none,
  .op (.ext 15 1 (.tmp 12)) none,
  .op (.ext 16 2 (.tmp 12)) none,
  .op (.alloc 4 23) none,
  .op (.storeN 6 (.tmp 4) (.tmp 14)) none,
  .op (.mov 5 (.tmp 15)) none,
  .op (.mov 6 (.tmp 16)) none,
  .keep [1, 3, 5, 6]]
def r6_3 : List G := [.op (.mov 17 (.tmp 3)) none,
  .op (.ari 18 .eql .i64 (.tmp 17) (.const (.int .i64 0))) none,
  .op (.mov 19 (.tmp 18)) none,
  .op (.loadN 20 6 (.tmp 1)) (some (19, true)),
  .op (.build 21 23 [(0, 1, (.const (.int .i64 3))), (2, 1, (.const (.int .i64 254))), (5, 1, (.const (.string { data := #[104, 105] })))]) (some (19, true)),
  .op (.aeq 22 false 23 (.tmp 20) (.tmp 21)) (some (19, true)),
  .op (.pick 23 (.tmp 19) (.tmp 22) (.const (.bool false))) none,
  .op (.mov 24 (.tmp 23)) none,
  .op (.mov 25 (.tmp 5)) (some (24, true)),
  .op (.ari 26 .eql .i64 (.tmp 25) (.const (.int .i64 8))) (some (24, true)),
  .op (.pick 27 (.tmp 24) (.tmp 26) (.const (.bool false))) none,
  .op (.mov 28 (.tmp 27)) none,
  .op (.mov 29 (.tmp 6)) (some (28, true)),
  .op (.ari 30 .eql .i64 (.tmp 29) (.const (.int .i64 16))) (some (28, true)),
  .op (.pick 31 (.tmp 28) (.tmp 30) (.const (.bool false))) none,
  .op (.mov 0 (.tmp 31)) none,
  .keep [0]]
def c6 : C := (.seq (.region r6_0) (.seq (.region r6_1) (.seq (.region r6_2) (.seq (.region r6_3) .ret))))
def x6 := PLift.up (andx (ux Tryd.prog r6_0.eq_1) (andx (ux Tryd.prog r6_1.eq_1) (andx (ux Tryd.prog r6_2.eq_1) (ux Tryd.prog r6_3.eq_1))))
theorem low6 : Tryd.f6.body.bind (lowerC Tryd.prog 32 (fun _ => none)) = some c6.erase := by kernel_rfl
theorem enter6 {args : List Value} {w : World} {R : Ending → World → Prop} (ha : args.length ≤ 32) (h : vc Tryd.prog c6 (endPost [.t 0] R) (argEnv 0 args) w) : Calls Tryd.prog 6 args.toArray w R :=
  calls_of_vc Tryd.func6 rfl low6 rfl ha h
/-- The code of aquatint/edit.Of. -/
def r7_0 : List G := [.op (.box 1 23 (.tmp 0)) none,
  .op (.mov 2 (.const Go.Value.nilIface)) none,
  .op (.mov 3 (.const (.int .i64 0))) none,
  .keep [1]]
def r7_1 : List G := [.op (.loadN 4 6 (.tmp 1)) none,
  .op (.call (some 5) 9 [(.tmp 4)]) none,
  .op (.not 6 (.tmp 5)) none,
  .keep [1, 6]]
def r7_2 : List G := [.op (.mov 2 (.const Go.Value.nilIface)) none,
  .op (.mov 3 (.const (.int .i64 1))) none,
  .keep [2, 3]]
def r7_3 : List G := [.op (.loadN 7 6 (.tmp 1)) none,
  .op (.call (some 8) 16 [(.tmp 7)]) none,
  .op (.mov 2 (.tmp 8)) none,
  .op (.mov 3 (.const (.int .i64 0))) none,
  .keep [2, 3]]
def c7 : C := (.seq (.region r7_0) (.seq (.seq (.region r7_1) (.cond (.tmp 6) (.seq (.region r7_2) .ret) .skip)) (.seq (.region r7_3) .ret)))
def x7 := PLift.up (andx (ux Tryd.prog r7_0.eq_1) (andx (ux Tryd.prog r7_1.eq_1) (andx (ux Tryd.prog r7_2.eq_1) (ux Tryd.prog r7_3.eq_1))))
theorem low7 : Tryd.f7.body.bind (lowerC Tryd.prog 9 (fun _ => none)) = some c7.erase := by kernel_rfl
theorem enter7 {args : List Value} {w : World} {R : Ending → World → Prop} (ha : args.length ≤ 9) (h : vc Tryd.prog c7 (endPost [.t 2, .t 3] R) (argEnv 0 args) w) : Calls Tryd.prog 7 args.toArray w R :=
  calls_of_vc Tryd.func7 rfl low7 rfl ha h
/-- The code of aquatint/edit.IsTurn. -/
def r8_0 : List G := [.op (.mov 2 (.const (.int .i64 0))) none,
  .op (.mov 3 (.const (.bool false))) none,
  .keep [0]]
def r8_1 : List G := [.op (.mov 7 (.tmp 0)) none,
  .op (.tas 8 36 true (.tmp 7)) none,
  .op (.mov 6 (.tmp 8)) none,
  .op (.ext 9 0 (.tmp 6)) none,
  .op (.ext 10 1 (.tmp 6)) none,
  .op (.alloc 4 36) none,
  .op (.storeN 1 (.tmp 4) (.tmp 9)) none,
  .op (.mov 5 (.tmp 10)) none,
  .keep [4, 5]]
def r8_2 : List G := [.op (.faddr 11 0 (.tmp 4)) none,
  .op (.load 12 (.tmp 11)) none,
  .op (.mov 13 (.tmp 5)) none,
  .op (.mov 2 (.tmp 12)) none,
  .op (.mov 3 (.tmp 13)) none,
  .keep [2, 3]]
def c8 : C := (.seq (.region r8_0) (.seq (.region r8_1) (.seq (.region r8_2) .ret)))
def x8 := PLift.up (andx (ux Tryd.prog r8_0.eq_1) (andx (ux Tryd.prog r8_1.eq_1) (ux Tryd.prog r8_2.eq_1)))
theorem low8 : Tryd.f8.body.bind (lowerC Tryd.prog 14 (fun _ => none)) = some c8.erase := by kernel_rfl
theorem enter8 {args : List Value} {w : World} {R : Ending → World → Prop} (ha : args.length ≤ 14) (h : vc Tryd.prog c8 (endPost [.t 2, .t 3] R) (argEnv 0 args) w) : Calls Tryd.prog 8 args.toArray w R :=
  calls_of_vc Tryd.func8 rfl low8 rfl ha h
/-- The code of aquatint/edit.Clean. -/
def r9_0 : List G := [.op (.box 1 23 (.tmp 0)) none,
  .op (.mov 2 (.const (.bool false))) none,
  .keep [1]]
def r9_1 : List G := [.op (.loadN 10 6 (.tmp 1)) none,
  .op (.call (some 11) 16 [(.tmp 10)]) none,
  .op (.mov 3 (.tmp 11)) none,
  .keep [1, 3]]
def r9_2 : List (Nat × G) := [(0, .op (.mov 12 (.tmp 3)) none),
  (0, .op (.nili 13 false (.tmp 12)) none),
  (0, .op (.mov 14 (.tmp 13)) none),
  (0, .op (.mov 15 (.tmp 3)) (some (14, false))),
  (1, .op (.loadN 17 6 (.tmp 1)) (some (14, false))),
  (2, .op (.inv (some 16) "Edit" (.tmp 15) []) (some (14, false))),
  (0, .op (.aeq 18 true 23 (.tmp 16) (.tmp 17)) (some (14, false))),
  (0, .op (.pick 19 (.tmp 14) (.const (.bool true)) (.tmp 18)) none),
  (0, .keep [1, 3, 19])]
def r9_3 : List G := [.op (.mov 2 (.const (.bool false))) none,
  .keep [2]]
def r9_4 : List G := [.op (.faddr 20 1 (.tmp 1)) none,
  .op (.load 21 (.tmp 20)) none,
  .op (.faddr 22 2 (.tmp 1)) none,
  .op (.load 23 (.tmp 22)) none,
  .op (.faddr 24 3 (.tmp 1)) none,
  .op (.load 25 (.tmp 24)) none,
  .op (.faddr 26 4 (.tmp 1)) none,
  .op (.load 27 (.tmp 26)) none,
  .op (.bslice 28 3 4 1 [(0, 1, (.tmp 21)), (1, 1, (.tmp 23)), (2, 1, (.tmp 25)), (3, 1, (.tmp 27))]) none,
  .op (.lenL 29 (.tmp 28)) none,
  .op (.mov 30 (.const (.int .i64 0))) none,
  .keep [3, 28, 29, 30]]
def r9_5 : List G := [.op (.ari 31 .lss .i64 (.tmp 30) (.tmp 29)) none,
  .keep [3, 28, 29, 30, 31]]
def r9_6 : List G := [.op (.iaddrL 32 1 (.tmp 28) (.tmp 30)) none,
  .op (.load 33 (.tmp 32)) none,
  .op (.mov 5 (.tmp 33)) none,
  .keep [3, 5, 28, 29, 30]]
def r9_7 : List G := [.op (.mov 34 (.tmp 5)) none,
  .op (.ari 35 .lss .i64 (.tmp 34) (.const (.int .i64 0))) none,
  .op (.mov 36 (.tmp 35)) none,
  .op (.mov 37 (.tmp 5)) (some (36, false)),
  .op (.ari 38 .gtr .i64 (.tmp 37) (.const (.int .i64 2147483647))) (some (36, false)),
  .op (.pick 39 (.tmp 36) (.const (.bool true)) (.tmp 38)) none,
  .keep [3, 28, 29, 30, 39]]
def r9_8 : List G := [.op (.mov 2 (.const (.bool false))) none,
  .keep [2]]
def r9_9 : List G := [.op (.ari 40 .add .i64 (.tmp 30) (.const (.int .i64 1))) none,
  .op (.mov 30 (.tmp 40)) none,
  .keep [3, 28, 29, 30]]
def r9_10 : List G := [.op (.mov 42 (.tmp 3)) none,
  .op (.call (some 43) 8 [(.tmp 42)]) none,
  .op (.mov 41 (.tmp 43)) none,
  .op (.ext 44 0 (.tmp 41)) none,
  .op (.ext 45 1 (.tmp 41)) none,
  .op (.mov 6 (.tmp 44)) none,
  .op (.mov 7 (.tmp 45)) none,
  .keep [3, 6, 7]]
def r9_11 : List G := [.op (.mov 46 (.tmp 7)) none,
  .keep [3, 6, 46]]
def r9_12 : List G := [.op (.mov 47 (.tmp 6)) none,
  .op (.call (some 48) 17 [(.tmp 47)]) none,
  .op (.mov 2 (.tmp 48)) none,
  .keep [2]]
def r9_13 : List G := [.op (.mov 50 (.tmp 3)) none,
  .op (.tas 51 43 true (.tmp 50)) none,
  .op (.mov 49 (.tmp 51)) none,
  .op (.ext 52 0 (.tmp 49)) none,
  .op (.ext 53 1 (.tmp 49)) none,
  .op (.alloc 8 43) none,
  .op (.storeN 3 (.tmp 8) (.tmp 52)) none,
  .op (.mov 9 (.tmp 53)) none,
  .keep [8, 9]]
def r9_14 : List G := [.op (.mov 54 (.tmp 9)) none,
  .op (.not 55 (.tmp 54)) none,
  .op (.mov 56 (.tmp 55)) none,
  .op (.faddr 57 1 (.tmp 8)) (some (56, false)),
  .op (.load 58 (.tmp 57)) (some (56, false)),
  .op (.ari 59 .leq .i64 (.tmp 58) (.const (.int .i64 255))) (some (56, false)),
  .op (.pick 60 (.tmp 56) (.const (.bool true)) (.tmp 59)) none,
  .op (.mov 2 (.tmp 60)) none,
  .keep [2]]
def c9 : C := (.seq (.region r9_0) (.seq (.region r9_1) (.seq (.seq (.regionW r9_2) (.cond (.tmp 19) (.seq (.region r9_3) .ret) .skip)) (.seq (.seq (.region r9_4) (.block 0 (.loop (.seq (.region r9_5) (.seq (.cond (.tmp 31) .skip (.exit 0)) (.seq (.block 1 (.seq (.region r9_6) (.seq (.region r9_7) (.cond (.tmp 39) (.seq (.region r9_8) .ret) .skip)))) (.region r9_9))))))) (.seq (.seq (.region r9_10) (.seq (.region r9_11) (.cond (.tmp 46) (.seq (.region r9_12) .ret) .skip))) (.seq (.region r9_13) (.seq (.region r9_14) .ret)))))))
def x9 := PLift.up (andx (ux Tryd.prog r9_0.eq_1) (andx (ux Tryd.prog r9_1.eq_1) (andx (uw Tryd.prog r9_2.eq_1) (andx (ux Tryd.prog r9_3.eq_1) (andx (ux Tryd.prog r9_4.eq_1) (andx (ux Tryd.prog r9_5.eq_1) (andx (ux Tryd.prog r9_6.eq_1) (andx (ux Tryd.prog r9_7.eq_1) (andx (ux Tryd.prog r9_8.eq_1) (andx (ux Tryd.prog r9_9.eq_1) (andx (ux Tryd.prog r9_10.eq_1) (andx (ux Tryd.prog r9_11.eq_1) (andx (ux Tryd.prog r9_12.eq_1) (andx (ux Tryd.prog r9_13.eq_1) (ux Tryd.prog r9_14.eq_1)))))))))))))))
theorem low9 : Tryd.f9.body.bind (lowerC Tryd.prog 61 (fun i => List.lookup i [(2, .fin [(0, 0), (1, 0), (2, 0), (3, 0), (5, 1), (4, 2), (6, 0), (7, 0)])])) = some c9.erase := by kernel_rfl
theorem enter9 {args : List Value} {w : World} {R : Ending → World → Prop} (ha : args.length ≤ 61) (h : vc Tryd.prog c9 (endPost [.t 2] R) (argEnv 0 args) w) : Calls Tryd.prog 9 args.toArray w R :=
  calls_of_vc Tryd.func9 rfl low9 rfl ha h
/-- The code of aquatint/edit.MustTurn. -/
def r11_0 : List G := [.op (.mov 2 (.const (.int .i64 0))) none,
  .keep [0]]
def r11_1 : List G := [.op (.mov 3 (.tmp 0)) none,
  .op (.tas 4 36 false (.tmp 3)) none,
  .op (.field 5 0 none (.tmp 4)) none,
  .op (.mov 2 (.tmp 5)) none,
  .keep [2]]
def c11 : C := (.seq (.region r11_0) (.seq (.region r11_1) .ret))
def x11 := PLift.up (andx (ux Tryd.prog r11_0.eq_1) (ux Tryd.prog r11_1.eq_1))
theorem low11 : Tryd.f11.body.bind (lowerC Tryd.prog 6 (fun _ => none)) = some c11.erase := by kernel_rfl
theorem enter11 {args : List Value} {w : World} {R : Ending → World → Prop} (ha : args.length ≤ 6) (h : vc Tryd.prog c11 (endPost [.t 2] R) (argEnv 0 args) w) : Calls Tryd.prog 11 args.toArray w R :=
  calls_of_vc Tryd.func11 rfl low11 rfl ha h
/-- The code of aquatint/edit.Text. -/
def r12_0 : List G := [.op (.box 1 23 (.tmp 0)) none,
  .op (.mov 2 (.const (.string { data := #[] }))) none,
  .op (.mov 3 (.const (.int .i64 0))) none,
  .keep [1]]
def r12_1 : List G := [.op (.loadN 4 6 (.tmp 1)) none,
  .op (.call (some 5) 9 [(.tmp 4)]) none,
  .op (.not 6 (.tmp 5)) none,
  .keep [1, 6]]
def r12_2 : List G := [.op (.mov 2 (.const (.string { data := #[] }))) none,
  .op (.mov 3 (.const (.int .i64 1))) none,
  .keep [2, 3]]
def r12_3 : List G := [.op (.faddr 7 0 (.tmp 1)) none,
  .op (.load 8 (.tmp 7)) none,
  .keep [1, 8]]
def r12_4 : List G := [.op (.ari 10 .eql .i64 (.tmp 8) (.const (.int .i64 0))) none,
  .op (.mov 9 (.tmp 10)) none,
  .keep [1, 8, 9]]
def r12_5 : List G := [.op (.faddr 11 1 (.tmp 1)) none,
  .op (.load 12 (.tmp 11)) none,
  .op (.call (some 13) 18 [(.tmp 12)]) none,
  .op (.sop 14 .add (.const (.string { data := #[116, 117, 114, 110, 32] })) (.tmp 13)) none,
  .op (.mov 2 (.tmp 14)) none,
  .op (.mov 3 (.const (.int .i64 0))) none,
  .keep [2, 3]]
def r12_6 : List G := [.op (.ari 16 .eql .i64 (.tmp 8) (.const (.int .i64 1))) none,
  .op (.mov 15 (.tmp 16)) none,
  .keep [1, 8, 15]]
def r12_7 : List G := [.op (.faddr 17 1 (.tmp 1)) none,
  .op (.load 18 (.tmp 17)) none,
  .op (.faddr 19 2 (.tmp 1)) none,
  .op (.load 20 (.tmp 19)) none,
  .op (.faddr 21 3 (.tmp 1)) none,
  .op (.load 22 (.tmp 21)) none,
  .op (.faddr 23 4 (.tmp 1)) none,
  .op (.load 24 (.tmp 23)) none,
  .op (.bslice 25 3 4 1 [(0, 1, (.tmp 18)), (1, 1, (.tmp 20)), (2, 1, (.tmp 22)), (3, 1, (.tmp 24))]) none,
  .op (.call (some 26) 19 [(.tmp 25)]) none,
  .op (.sop 27 .add (.const (.string { data := #[99, 114, 111, 112] })) (.tmp 26)) none,
  .op (.mov 2 (.tmp 27)) none,
  .op (.mov 3 (.const (.int .i64 0))) none,
  .keep [2, 3]]
def r12_8 : List G := [.op (.ari 29 .eql .i64 (.tmp 8) (.const (.int .i64 2))) none,
  .op (.mov 28 (.tmp 29)) none,
  .keep [1, 8, 28]]
def r12_9 : List G := [.op (.faddr 30 1 (.tmp 1)) none,
  .op (.load 31 (.tmp 30)) none,
  .op (.faddr 32 2 (.tmp 1)) none,
  .op (.load 33 (.tmp 32)) none,
  .op (.faddr 34 3 (.tmp 1)) none,
  .op (.load 35 (.tmp 34)) none,
  .op (.faddr 36 4 (.tmp 1)) none,
  .op (.load 37 (.tmp 36)) none,
  .op (.bslice 38 3 4 1 [(0, 1, (.tmp 31)), (1, 1, (.tmp 33)), (2, 1, (.tmp 35)), (3, 1, (.tmp 37))]) none,
  .op (.call (some 39) 19 [(.tmp 38)]) none,
  .op (.sop 40 .add (.const (.string { data := #[114, 101, 100, 97, 99, 116] })) (.tmp 39)) none,
  .op (.mov 2 (.tmp 40)) none,
  .op (.mov 3 (.const (.int .i64 0))) none,
  .keep [2, 3]]
def r12_10 : List G := [.op (.ari 42 .eql .i64 (.tmp 8) (.const (.int .i64 3))) none,
  .op (.mov 41 (.tmp 42)) none,
  .keep [1, 8, 41]]
def r12_11 : List (Nat × G) := [(0, .op (.faddr 43 1 (.tmp 1)) none),
  (0, .op (.load 44 (.tmp 43)) none),
  (0, .op (.faddr 45 2 (.tmp 1)) none),
  (0, .op (.load 46 (.tmp 45)) none),
  (0, .op (.faddr 51 5 (.tmp 1)) none),
  (1, .op (.load 52 (.tmp 51)) none),
  (2, .op (.bslice 47 3 2 1 [(0, 1, (.tmp 44)), (1, 1, (.tmp 46))]) none),
  (2, .op (.call (some 48) 19 [(.tmp 47)]) none),
  (0, .op (.sop 49 .add (.const (.string { data := #[112, 117, 116] })) (.tmp 48)) none),
  (0, .op (.sop 50 .add (.tmp 49) (.const (.string { data := #[32] }))) none),
  (0, .op (.call (some 53) 20 [(.tmp 52)]) none),
  (0, .op (.sop 54 .add (.tmp 50) (.tmp 53)) none),
  (0, .op (.mov 2 (.tmp 54)) none),
  (0, .op (.mov 3 (.const (.int .i64 0))) none),
  (0, .keep [2, 3])]
def r12_12 : List G := [.op (.ari 56 .eql .i64 (.tmp 8) (.const (.int .i64 4))) none,
  .op (.mov 55 (.tmp 56)) none,
  .keep [1, 55]]
def r12_13 : List G := [.op (.faddr 57 1 (.tmp 1)) none,
  .op (.load 58 (.tmp 57)) none,
  .op (.bslice 59 3 1 1 [(0, 1, (.tmp 58))]) none,
  .op (.call (some 60) 19 [(.tmp 59)]) none,
  .op (.sop 61 .add (.const (.string { data := #[100, 114, 111, 112] })) (.tmp 60)) none,
  .op (.mov 2 (.tmp 61)) none,
  .op (.mov 3 (.const (.int .i64 0))) none,
  .keep [2, 3]]
def r12_14 : List G := [.op (.faddr 62 5 (.tmp 1)) none,
  .op (.load 63 (.tmp 62)) none,
  .op (.call (some 64) 20 [(.tmp 63)]) none,
  .op (.sop 65 .add (.const (.string { data := #[110, 111, 116, 101, 32] })) (.tmp 64)) none,
  .op (.mov 2 (.tmp 65)) none,
  .op (.mov 3 (.const (.int .i64 0))) none,
  .keep [2, 3]]
def c12 : C := (.seq (.region r12_0) (.seq (.seq (.region r12_1) (.cond (.tmp 6) (.seq (.region r12_2) .ret) .skip)) (.seq (.seq (.region r12_3) (.block 0 (.seq (.region r12_4) (.cond (.tmp 9) (.seq (.region r12_5) .ret) (.seq (.region r12_6) (.cond (.tmp 15) (.seq (.region r12_7) .ret) (.seq (.region r12_8) (.cond (.tmp 28) (.seq (.region r12_9) .ret) (.seq (.region r12_10) (.cond (.tmp 41) (.seq (.regionW r12_11) .ret) (.seq (.region r12_12) (.cond (.tmp 55) (.seq (.region r12_13) .ret) .skip)))))))))))) (.seq (.region r12_14) .ret))))
def x12 := PLift.up (andx (ux Tryd.prog r12_0.eq_1) (andx (ux Tryd.prog r12_1.eq_1) (andx (ux Tryd.prog r12_2.eq_1) (andx (ux Tryd.prog r12_3.eq_1) (andx (ux Tryd.prog r12_4.eq_1) (andx (ux Tryd.prog r12_5.eq_1) (andx (ux Tryd.prog r12_6.eq_1) (andx (ux Tryd.prog r12_7.eq_1) (andx (ux Tryd.prog r12_8.eq_1) (andx (ux Tryd.prog r12_9.eq_1) (andx (ux Tryd.prog r12_10.eq_1) (andx (uw Tryd.prog r12_11.eq_1) (andx (ux Tryd.prog r12_12.eq_1) (andx (ux Tryd.prog r12_13.eq_1) (ux Tryd.prog r12_14.eq_1)))))))))))))))
theorem low12 : Tryd.f12.body.bind (lowerC Tryd.prog 66 (fun i => List.lookup i [(11, .fin [(0, 0), (1, 0), (2, 0), (3, 0), (8, 0), (9, 1), (4, 2), (5, 2), (6, 0), (7, 0), (10, 0), (11, 0), (12, 0), (13, 0)])])) = some c12.erase := by kernel_rfl
theorem enter12 {args : List Value} {w : World} {R : Ending → World → Prop} (ha : args.length ≤ 66) (h : vc Tryd.prog c12 (endPost [.t 2, .t 3] R) (argEnv 0 args) w) : Calls Tryd.prog 12 args.toArray w R :=
  calls_of_vc Tryd.func12 rfl low12 rfl ha h
/-- The code of aquatint/edit.op. -/
def r16_0 : List G := [.op (.box 1 23 (.tmp 0)) none,
  .op (.mov 2 (.const Go.Value.nilIface)) none,
  .keep [1]]
def r16_1 : List G := [.op (.faddr 4 1 (.tmp 1)) none,
  .op (.load 5 (.tmp 4)) none,
  .op (.faddr 6 2 (.tmp 1)) none,
  .op (.load 7 (.tmp 6)) none,
  .op (.faddr 8 3 (.tmp 1)) none,
  .op (.load 9 (.tmp 8)) none,
  .op (.faddr 10 4 (.tmp 1)) none,
  .op (.load 11 (.tmp 10)) none,
  .op (.build 12 38 [(0, 1, (.tmp 5)), (1, 1, (.tmp 7)), (2, 1, (.tmp 9)), (3, 1, (.tmp 11))]) none,
  .op (.alloc 3 38) none,
  .op (.storeN 4 (.tmp 3) (.tmp 12)) none,
  .keep [1, 3]]
def r16_2 : List G := [.op (.faddr 13 0 (.tmp 1)) none,
  .op (.load 14 (.tmp 13)) none,
  .keep [1, 3, 14]]
def r16_3 : List G := [.op (.ari 16 .eql .i64 (.tmp 14) (.const (.int .i64 0))) none,
  .op (.mov 15 (.tmp 16)) none,
  .keep [1, 3, 14, 15]]
def r16_4 : List G := [.op (.faddr 17 1 (.tmp 1)) none,
  .op (.load 18 (.tmp 17)) none,
  .op (.build 19 36 [(0, 1, (.tmp 18))]) none,
  .op (.iface 20 36 (.tmp 19)) none,
  .op (.mov 2 (.tmp 20)) none,
  .keep [2]]
def r16_5 : List G := [.op (.ari 22 .eql .i64 (.tmp 14) (.const (.int .i64 1))) none,
  .op (.mov 21 (.tmp 22)) none,
  .keep [1, 3, 14, 21]]
def r16_6 : List G := [.op (.loadN 23 4 (.tmp 3)) none,
  .op (.build 24 40 [(0, 4, (.tmp 23))]) none,
  .op (.iface 25 40 (.tmp 24)) none,
  .op (.mov 2 (.tmp 25)) none,
  .keep [2]]
def r16_7 : List G := [.op (.ari 27 .eql .i64 (.tmp 14) (.const (.int .i64 2))) none,
  .op (.mov 26 (.tmp 27)) none,
  .keep [1, 3, 14, 26]]
def r16_8 : List G := [.op (.loadN 28 4 (.tmp 3)) none,
  .op (.build 29 41 [(0, 4, (.tmp 28))]) none,
  .op (.iface 30 41 (.tmp 29)) none,
  .op (.mov 2 (.tmp 30)) none,
  .keep [2]]
def r16_9 : List G := [.op (.ari 32 .eql .i64 (.tmp 14) (.const (.int .i64 3))) none,
  .op (.mov 31 (.tmp 32)) none,
  .keep [1, 14, 31]]
def r16_10 : List G := [.op (.faddr 33 1 (.tmp 1)) none,
  .op (.load 34 (.tmp 33)) none,
  .op (.faddr 35 2 (.tmp 1)) none,
  .op (.load 36 (.tmp 35)) none,
  .op (.faddr 37 5 (.tmp 1)) none,
  .op (.load 38 (.tmp 37)) none,
  .op (.build 39 43 [(0, 1, (.tmp 34)), (1, 1, (.tmp 36)), (2, 1, (.tmp 38))]) none,
  .op (.iface 40 43 (.tmp 39)) none,
  .op (.mov 2 (.tmp 40)) none,
  .keep [2]]
def r16_11 : List G := [.op (.ari 42 .eql .i64 (.tmp 14) (.const (.int .i64 4))) none,
  .op (.mov 41 (.tmp 42)) none,
  .keep [1, 14, 41]]
def r16_12 : List G := [.op (.faddr 43 1 (.tmp 1)) none,
  .op (.load 44 (.tmp 43)) none,
  .op (.build 45 45 [(0, 1, (.tmp 44))]) none,
  .op (.iface 46 45 (.tmp 45)) none,
  .op (.mov 2 (.tmp 46)) none,
  .keep [2]]
def r16_13 : List G := [.op (.ari 48 .eql .i64 (.tmp 14) (.const (.int .i64 5))) none,
  .op (.mov 47 (.tmp 48)) none,
  .keep [1, 47]]
def r16_14 : List G := [.op (.faddr 49 5 (.tmp 1)) none,
  .op (.load 50 (.tmp 49)) none,
  .op (.build 51 47 [(0, 1, (.tmp 50))]) none,
  .op (.iface 52 47 (.tmp 51)) none,
  .op (.mov 2 (.tmp 52)) none,
  .keep [2]]
def r16_15 : List G := [.op (.mov 2 (.const Go.Value.nilIface)) none,
  .keep [2]]
def c16 : C := (.seq (.region r16_0) (.seq (.region r16_1) (.seq (.seq (.region r16_2) (.block 0 (.seq (.region r16_3) (.cond (.tmp 15) (.seq (.region r16_4) .ret) (.seq (.region r16_5) (.cond (.tmp 21) (.seq (.region r16_6) .ret) (.seq (.region r16_7) (.cond (.tmp 26) (.seq (.region r16_8) .ret) (.seq (.region r16_9) (.cond (.tmp 31) (.seq (.region r16_10) .ret) (.seq (.region r16_11) (.cond (.tmp 41) (.seq (.region r16_12) .ret) (.seq (.region r16_13) (.cond (.tmp 47) (.seq (.region r16_14) .ret) .skip)))))))))))))) (.seq (.region r16_15) .ret))))
def x16 := PLift.up (andx (ux Tryd.prog r16_0.eq_1) (andx (ux Tryd.prog r16_1.eq_1) (andx (ux Tryd.prog r16_2.eq_1) (andx (ux Tryd.prog r16_3.eq_1) (andx (ux Tryd.prog r16_4.eq_1) (andx (ux Tryd.prog r16_5.eq_1) (andx (ux Tryd.prog r16_6.eq_1) (andx (ux Tryd.prog r16_7.eq_1) (andx (ux Tryd.prog r16_8.eq_1) (andx (ux Tryd.prog r16_9.eq_1) (andx (ux Tryd.prog r16_10.eq_1) (andx (ux Tryd.prog r16_11.eq_1) (andx (ux Tryd.prog r16_12.eq_1) (andx (ux Tryd.prog r16_13.eq_1) (andx (ux Tryd.prog r16_14.eq_1) (ux Tryd.prog r16_15.eq_1))))))))))))))))
theorem low16 : Tryd.f16.body.bind (lowerC Tryd.prog 53 (fun _ => none)) = some c16.erase := by kernel_rfl
theorem enter16 {args : List Value} {w : World} {R : Ending → World → Prop} (ha : args.length ≤ 53) (h : vc Tryd.prog c16 (endPost [.t 2] R) (argEnv 0 args) w) : Calls Tryd.prog 16 args.toArray w R :=
  calls_of_vc Tryd.func16 rfl low16 rfl ha h
/-- The code of aquatint/turn.Right. -/
def r17_0 : List G := [.op (.mov 2 (.const (.bool false))) none,
  .keep [0]]
def r17_1 : List G := [.op (.mov 3 (.tmp 0)) none,
  .op (.ari 4 .geq .i64 (.tmp 3) (.const (.int .i64 0))) none,
  .op (.mov 5 (.tmp 4)) none,
  .op (.mov 6 (.tmp 0)) (some (5, true)),
  .op (.ari 7 .lss .i64 (.tmp 6) (.const (.int .i64 8))) (some (5, true)),
  .op (.pick 8 (.tmp 5) (.tmp 7) (.const (.bool false))) none,
  .op (.mov 2 (.tmp 8)) none,
  .keep [2]]
def c17 : C := (.seq (.region r17_0) (.seq (.region r17_1) .ret))
def x17 := PLift.up (andx (ux Tryd.prog r17_0.eq_1) (ux Tryd.prog r17_1.eq_1))
theorem low17 : Tryd.f17.body.bind (lowerC Tryd.prog 9 (fun _ => none)) = some c17.erase := by kernel_rfl
theorem enter17 {args : List Value} {w : World} {R : Ending → World → Prop} (ha : args.length ≤ 9) (h : vc Tryd.prog c17 (endPost [.t 2] R) (argEnv 0 args) w) : Calls Tryd.prog 17 args.toArray w R :=
  calls_of_vc Tryd.func17 rfl low17 rfl ha h
/-- The code of aquatint/turn.Name. -/
def r18_0 : List G := [.op (.mov 2 (.const (.string { data := #[] }))) none,
  .keep [0]]
def r18_1 : List G := [.op (.mov 3 (.tmp 0)) none,
  .op (.call (some 4) 17 [(.tmp 3)]) none,
  .op (.not 5 (.tmp 4)) none,
  .keep [0, 5]]
def r18_2 : List G := [.op (.mov 2 (.const (.string { data := #[] }))) none,
  .keep [2]]
def r18_3 : List G := [.op (.mov 6 (.tmp 0)) none,
  .op (.iaddrA 7 8 1 (.global 0) (.tmp 6)) none,
  .op (.load 8 (.tmp 7)) none,
  .op (.mov 2 (.tmp 8)) none,
  .keep [2]]
def c18 : C := (.seq (.region r18_0) (.seq (.seq (.region r18_1) (.cond (.tmp 5) (.seq (.region r18_2) .ret) .skip)) (.seq (.region r18_3) .ret)))
def x18 := PLift.up (andx (ux Tryd.prog r18_0.eq_1) (andx (ux Tryd.prog r18_1.eq_1) (andx (ux Tryd.prog r18_2.eq_1) (ux Tryd.prog r18_3.eq_1))))
theorem low18 : Tryd.f18.body.bind (lowerC Tryd.prog 9 (fun _ => none)) = some c18.erase := by kernel_rfl
theorem enter18 {args : List Value} {w : World} {R : Ending → World → Prop} (ha : args.length ≤ 9) (h : vc Tryd.prog c18 (endPost [.t 2] R) (argEnv 0 args) w) : Calls Tryd.prog 18 args.toArray w R :=
  calls_of_vc Tryd.func18 rfl low18 rfl ha h
/-- The code of aquatint/edit.digits. -/
def r19_0 : List G := [.op (.mov 2 (.const (.string { data := #[] }))) none,
  .keep [0]]
def r19_1 : List G := [.op (.mov 3 (.const (.string { data := #[] }))) none,
  .keep [0, 3]]
def r19_2 : List G := [.op (.mov 6 (.tmp 0)) none,
  .op (.lenL 7 (.tmp 6)) none,
  .op (.ari 8 .sub .i64 (.tmp 7) (.const (.int .i64 1))) none,
  .op (.mov 4 (.tmp 8)) none,
  .keep [0, 3, 4]]
def r19_3 : List G := [.op (.mov 9 (.tmp 4)) none,
  .op (.ari 10 .geq .i64 (.tmp 9) (.const (.int .i64 0))) none,
  .keep [0, 3, 4, 10]]
def r19_5 : List G := [.op (.mov 13 (.tmp 0)) none,
  .op (.mov 14 (.tmp 4)) none,
  .op (.iaddrL 15 1 (.tmp 13) (.tmp 14)) none,
  .op (.load 16 (.tmp 15)) none,
  .op (.mov 5 (.tmp 16)) none,
  .keep [0, 3, 4, 5]]
def r19_6 : List G := [.op (.mov 17 (.tmp 5)) none,
  .op (.ari 18 .rem .i64 (.tmp 17) (.const (.int .i64 10))) none,
  .op (.ari 19 .add .i64 (.const (.int .i64 48)) (.tmp 18)) none,
  .op (.conv 20 .i32 (.tmp 19)) none,
  .op (.conIS 21 (.tmp 20)) none,
  .op (.mov 22 (.tmp 3)) none,
  .op (.sop 23 .add (.tmp 21) (.tmp 22)) none,
  .op (.mov 3 (.tmp 23)) none,
  .keep [0, 3, 4, 5]]
def r19_7 : List G := [.op (.mov 24 (.tmp 5)) none,
  .op (.ari 25 .quo .i64 (.tmp 24) (.const (.int .i64 10))) none,
  .op (.mov 5 (.tmp 25)) none,
  .keep [0, 3, 4, 5]]
def r19_8 : List G := [.op (.mov 26 (.tmp 5)) none,
  .op (.ari 27 .eql .i64 (.tmp 26) (.const (.int .i64 0))) none,
  .keep [0, 3, 4, 5, 27]]
def r19_9 : List G := [.op (.mov 28 (.tmp 3)) none,
  .op (.sop 29 .add (.const (.string { data := #[32] })) (.tmp 28)) none,
  .op (.mov 3 (.tmp 29)) none,
  .keep [0, 3, 4]]
def r19_4 : List G := [.op (.mov 11 (.tmp 4)) none,
  .op (.ari 12 .sub .i64 (.tmp 11) (.const (.int .i64 1))) none,
  .op (.mov 4 (.tmp 12)) none,
  .keep [0, 3, 4]]
def r19_10 : List G := [.op (.mov 30 (.tmp 3)) none,
  .op (.mov 2 (.tmp 30)) none,
  .keep [2]]
def c19 : C := (.seq (.region r19_0) (.seq (.region r19_1) (.seq (.seq (.region r19_2) (.block 0 (.loop (.seq (.seq (.region r19_3) (.cond (.tmp 10) .skip (.exit 0))) (.seq (.block 1 (.seq (.region r19_5) (.seq (.block 2 (.loop (.block 3 (.seq (.region r19_6) (.seq (.region r19_7) (.seq (.region r19_8) (.cond (.tmp 27) (.exit 2) .skip))))))) (.region r19_9)))) (.region r19_4)))))) (.seq (.region r19_10) .ret))))
def x19 := PLift.up (andx (ux Tryd.prog r19_0.eq_1) (andx (ux Tryd.prog r19_1.eq_1) (andx (ux Tryd.prog r19_2.eq_1) (andx (ux Tryd.prog r19_3.eq_1) (andx (ux Tryd.prog r19_5.eq_1) (andx (ux Tryd.prog r19_6.eq_1) (andx (ux Tryd.prog r19_7.eq_1) (andx (ux Tryd.prog r19_8.eq_1) (andx (ux Tryd.prog r19_9.eq_1) (andx (ux Tryd.prog r19_4.eq_1) (ux Tryd.prog r19_10.eq_1)))))))))))
theorem low19 : Tryd.f19.body.bind (lowerC Tryd.prog 31 (fun _ => none)) = some c19.erase := by kernel_rfl
theorem enter19 {args : List Value} {w : World} {R : Ending → World → Prop} (ha : args.length ≤ 31) (h : vc Tryd.prog c19 (endPost [.t 2] R) (argEnv 0 args) w) : Calls Tryd.prog 19 args.toArray w R :=
  calls_of_vc Tryd.func19 rfl low19 rfl ha h
/-- The code of (*aquatint/edit.reader).edit. -/
def r22_0 : List G := [.op (.alloc 2 23) none,
  .keep [0, 2]]
def r22_1 : List G := [.op (.alloc 3 23) none,
  .keep [0, 2, 3]]
def r22_2 : List G := [.op (.mov 6 (.tmp 0)) none,
  .op (.bslice 7 9 6 1 [(0, 1, (.const (.string { data := #[116, 117, 114, 110] }))), (1, 1, (.const (.string { data := #[99, 114, 111, 112] }))), (2, 1, (.const (.string { data := #[114, 101, 100, 97, 99, 116] }))), (3, 1, (.const (.string { data := #[112, 117, 116] }))), (4, 1, (.const (.string { data := #[100, 114, 111, 112] }))), (5, 1, (.const (.string { data := #[110, 111, 116, 101] })))]) none,
  .op (.call (some 8) 33 [(.tmp 6), (.tmp 7)]) none,
  .keep [0, 2, 3, 8]]
def r22_3 : List G := [.op (.sop 10 .eql (.tmp 8) (.const (.string { data := #[116, 117, 114, 110] }))) none,
  .op (.mov 9 (.tmp 10)) none,
  .keep [0, 2, 3, 8, 9]]
def r22_4 : List G := [.op (.mov 11 (.tmp 0)) none,
  .op (.bslice 12 9 1 1 [(0, 1, (.const (.string { data := #[32] })))]) none,
  .op (.call (some 13) 33 [(.tmp 11), (.tmp 12)]) none,
  .keep [0, 2, 3]]
def r22_5 : List G := [.op (.mov 4 (.const (Go.Value.slice none 0 0))) none,
  .keep [0, 2, 3, 4]]
def r22_6 : List G := [.op (.mov 14 (.const (.int .i64 0))) none,
  .keep [0, 2, 3, 4, 14]]
def r22_7 : List G := [.op (.ari 15 .lss .i64 (.tmp 14) (.const (.int .i64 8))) none,
  .keep [0, 2, 3, 4, 14, 15]]
def r22_8 : List G := [.op (.mov 16 (.tmp 14)) none,
  .op (.mov 5 (.tmp 16)) none,
  .keep [0, 2, 3, 4, 5, 14]]
def r22_9 : List G := [.op (.mov 17 (.tmp 4)) none,
  .op (.mov 18 (.tmp 5)) none,
  .op (.call (some 19) 18 [(.tmp 18)]) none,
  .op (.bslice 20 9 1 1 [(0, 1, (.tmp 19))]) none,
  .op (.append 21 9 1 16 (.tmp 17) (.tmp 20)) none,
  .op (.mov 4 (.tmp 21)) none,
  .keep [0, 2, 3, 4, 14]]
def r22_10 : List G := [.op (.ari 22 .add .i64 (.tmp 14) (.const (.int .i64 1))) none,
  .op (.mov 14 (.tmp 22)) none,
  .keep [0, 2, 3, 4, 14]]
def r22_11 : List G := [.op (.mov 24 (.tmp 0)) none,
  .op (.mov 25 (.tmp 4)) none,
  .op (.call (some 26) 33 [(.tmp 24), (.tmp 25)]) none,
  .op (.call (some 27) 34 [(.tmp 26)]) none,
  .op (.mov 23 (.tmp 27)) none,
  .op (.ext 28 0 (.tmp 23)) none,
  .op (.ext 29 1 (.tmp 23)) none,
  .op (.faddr 30 1 (.tmp 3)) none,
  .op (.store (.tmp 30) (.tmp 28)) none,
  .keep [0, 2, 3]]
def r22_12 : List G := [.op (.sop 32 .eql (.tmp 8) (.const (.string { data := #[99, 114, 111, 112] }))) none,
  .op (.mov 31 (.tmp 32)) none,
  .keep [0, 2, 3, 8, 31]]
def r22_13 : List G := [.op (.faddr 33 0 (.tmp 3)) none,
  .op (.store (.tmp 33) (.const (.int .i64 1))) none,
  .keep [0, 2, 3]]
def r22_14 : List G := [.op (.mov 34 (.tmp 0)) none,
  .op (.faddr 35 1 (.tmp 3)) none,
  .op (.faddr 36 2 (.tmp 3)) none,
  .op (.faddr 37 3 (.tmp 3)) none,
  .op (.faddr 38 4 (.tmp 3)) none,
  .op (.bslice 39 86 4 1 [(0, 1, (.tmp 35)), (1, 1, (.tmp 36)), (2, 1, (.tmp 37)), (3, 1, (.tmp 38))]) none,
  .op (.call (some 40) 35 [(.tmp 34), (.tmp 39)]) none,
  .keep [0, 2, 3]]
def r22_15 : List G := [.op (.sop 42 .eql (.tmp 8) (.const (.string { data := #[114, 101, 100, 97, 99, 116] }))) none,
  .op (.mov 41 (.tmp 42)) none,
  .keep [0, 2, 3, 8, 41]]
def r22_16 : List G := [.op (.faddr 43 0 (.tmp 3)) none,
  .op (.store (.tmp 43) (.const (.int .i64 2))) none,
  .keep [0, 2, 3]]
def r22_17 : List G := [.op (.mov 44 (.tmp 0)) none,
  .op (.faddr 45 1 (.tmp 3)) none,
  .op (.faddr 46 2 (.tmp 3)) none,
  .op (.faddr 47 3 (.tmp 3)) none,
  .op (.faddr 48 4 (.tmp 3)) none,
  .op (.bslice 49 86 4 1 [(0, 1, (.tmp 45)), (1, 1, (.tmp 46)), (2, 1, (.tmp 47)), (3, 1, (.tmp 48))]) none,
  .op (.call (some 50) 35 [(.tmp 44), (.tmp 49)]) none,
  .keep [0, 2, 3]]
def r22_18 : List G := [.op (.sop 52 .eql (.tmp 8) (.const (.string { data := #[112, 117, 116] }))) none,
  .op (.mov 51 (.tmp 52)) none,
  .keep [0, 2, 3, 8, 51]]
def r22_19 : List G := [.op (.faddr 53 0 (.tmp 3)) none,
  .op (.store (.tmp 53) (.const (.int .i64 3))) none,
  .keep [0, 2, 3]]
def r22_20 : List G := [.op (.mov 54 (.tmp 0)) none,
  .op (.faddr 55 1 (.tmp 3)) none,
  .op (.bslice 56 86 1 1 [(0, 1, (.tmp 55))]) none,
  .op (.call (some 57) 35 [(.tmp 54), (.tmp 56)]) none,
  .keep [0, 2, 3]]
def r22_21 : List G := [.op (.mov 58 (.tmp 0)) none,
  .op (.bslice 59 9 1 1 [(0, 1, (.const (.string { data := #[32] })))]) none,
  .op (.call (some 60) 33 [(.tmp 58), (.tmp 59)]) none,
  .keep [0, 2, 3]]
def r22_22 : List G := [.op (.mov 61 (.tmp 0)) none,
  .op (.call (some 62) 36 [(.tmp 61), (.const (.int .i64 255))]) none,
  .op (.faddr 63 2 (.tmp 3)) none,
  .op (.store (.tmp 63) (.tmp 62)) none,
  .keep [0, 2, 3]]
def r22_23 : List G := [.op (.mov 64 (.tmp 0)) none,
  .op (.call (some 65) 37 [(.tmp 64)]) none,
  .op (.faddr 66 5 (.tmp 3)) none,
  .op (.store (.tmp 66) (.tmp 65)) none,
  .keep [0, 2, 3]]
def r22_24 : List G := [.op (.sop 68 .eql (.tmp 8) (.const (.string { data := #[100, 114, 111, 112] }))) none,
  .op (.mov 67 (.tmp 68)) none,
  .keep [0, 2, 3, 8, 67]]
def r22_25 : List G := [.op (.faddr 69 0 (.tmp 3)) none,
  .op (.store (.tmp 69) (.const (.int .i64 4))) none,
  .keep [0, 2, 3]]
def r22_26 : List G := [.op (.mov 70 (.tmp 0)) none,
  .op (.faddr 71 1 (.tmp 3)) none,
  .op (.bslice 72 86 1 1 [(0, 1, (.tmp 71))]) none,
  .op (.call (some 73) 35 [(.tmp 70), (.tmp 72)]) none,
  .keep [0, 2, 3]]
def r22_27 : List G := [.op (.sop 75 .eql (.tmp 8) (.const (.string { data := #[110, 111, 116, 101] }))) none,
  .op (.mov 74 (.tmp 75)) none,
  .keep [0, 2, 3, 74]]
def r22_28 : List G := [.op (.faddr 76 0 (.tmp 3)) none,
  .op (.store (.tmp 76) (.const (.int .i64 5))) none,
  .keep [0, 2, 3]]
def r22_29 : List G := [.op (.mov 77 (.tmp 0)) none,
  .op (.call (some 78) 37 [(.tmp 77)]) none,
  .op (.faddr 79 5 (.tmp 3)) none,
  .op (.store (.tmp 79) (.tmp 78)) none,
  .keep [0, 2, 3]]
def r22_30 : List G := [.op (.mov 80 (.tmp 0)) none,
  .op (.nilCheck 81 (.tmp 80)) none,
  .op (.faddr 82 1 (.tmp 81)) none,
  .op (.load 83 (.tmp 82)) none,
  .op (.mov 84 (.tmp 0)) none,
  .op (.nilCheck 85 (.tmp 84)) none,
  .op (.faddr 86 0 (.tmp 85)) none,
  .op (.load 87 (.tmp 86)) none,
  .op (.lenS 88 (.tmp 87)) none,
  .op (.ari 89 .lss .i64 (.tmp 83) (.tmp 88)) none,
  .keep [0, 2, 3, 89]]
def r22_31 : List G := [.op (.mov 90 (.tmp 0)) none,
  .op (.mov 91 (.tmp 0)) none,
  .op (.nilCheck 92 (.tmp 91)) none,
  .op (.faddr 93 1 (.tmp 92)) none,
  .op (.load 94 (.tmp 93)) none,
  .op (.call (some 95) 38 [(.tmp 90), (.tmp 94)]) none,
  .keep [2, 3]]
def r22_32 : List G := [.op (.loadN 96 6 (.tmp 3)) none,
  .op (.storeN 6 (.tmp 2) (.tmp 96)) none,
  .keep [2]]
def c22 : C := (.seq (.region r22_0) (.seq (.region r22_1) (.seq (.seq (.region r22_2) (.block 0 (.seq (.region r22_3) (.cond (.tmp 9) (.seq (.region r22_4) (.seq (.region r22_5) (.seq (.seq (.region r22_6) (.block 1 (.loop (.seq (.region r22_7) (.seq (.cond (.tmp 15) .skip (.exit 1)) (.seq (.block 2 (.seq (.region r22_8) (.region r22_9))) (.region r22_10))))))) (.region r22_11)))) (.seq (.region r22_12) (.cond (.tmp 31) (.seq (.region r22_13) (.region r22_14)) (.seq (.region r22_15) (.cond (.tmp 41) (.seq (.region r22_16) (.region r22_17)) (.seq (.region r22_18) (.cond (.tmp 51) (.seq (.region r22_19) (.seq (.region r22_20) (.seq (.region r22_21) (.seq (.region r22_22) (.region r22_23))))) (.seq (.region r22_24) (.cond (.tmp 67) (.seq (.region r22_25) (.region r22_26)) (.seq (.region r22_27) (.cond (.tmp 74) (.seq (.region r22_28) (.region r22_29)) .skip)))))))))))))) (.seq (.seq (.regionD r22_30) (.cond (.tmp 89) (.region r22_31) .skip)) (.seq (.region r22_32) .ret)))))
def x22 := PLift.up (andx (ux Tryd.prog r22_0.eq_1) (andx (ux Tryd.prog r22_1.eq_1) (andx (ux Tryd.prog r22_2.eq_1) (andx (ux Tryd.prog r22_3.eq_1) (andx (ux Tryd.prog r22_4.eq_1) (andx (ux Tryd.prog r22_5.eq_1) (andx (ux Tryd.prog r22_6.eq_1) (andx (ux Tryd.prog r22_7.eq_1) (andx (ux Tryd.prog r22_8.eq_1) (andx (ux Tryd.prog r22_9.eq_1) (andx (ux Tryd.prog r22_10.eq_1) (andx (ux Tryd.prog r22_11.eq_1) (andx (ux Tryd.prog r22_12.eq_1) (andx (ux Tryd.prog r22_13.eq_1) (andx (ux Tryd.prog r22_14.eq_1) (andx (ux Tryd.prog r22_15.eq_1) (andx (ux Tryd.prog r22_16.eq_1) (andx (ux Tryd.prog r22_17.eq_1) (andx (ux Tryd.prog r22_18.eq_1) (andx (ux Tryd.prog r22_19.eq_1) (andx (ux Tryd.prog r22_20.eq_1) (andx (ux Tryd.prog r22_21.eq_1) (andx (ux Tryd.prog r22_22.eq_1) (andx (ux Tryd.prog r22_23.eq_1) (andx (ux Tryd.prog r22_24.eq_1) (andx (ux Tryd.prog r22_25.eq_1) (andx (ux Tryd.prog r22_26.eq_1) (andx (ux Tryd.prog r22_27.eq_1) (andx (ux Tryd.prog r22_28.eq_1) (andx (ux Tryd.prog r22_29.eq_1) (andx (ux Tryd.prog r22_30.eq_1) (andx (ux Tryd.prog r22_31.eq_1) (ux Tryd.prog r22_32.eq_1)))))))))))))))))))))))))))))))))
theorem low22 : Tryd.f22.body.bind (lowerC Tryd.prog 97 (fun i => List.lookup i [(30, .fin [(0, 0), (1, 0), (2, 0), (3, 0), (4, 0), (5, 0), (6, 0), (7, 0), (8, 0), (9, 0)])])) = some c22.erase := by kernel_rfl
theorem enter22 {args : List Value} {w : World} {R : Ending → World → Prop} (ha : args.length ≤ 97) (h : vc Tryd.prog c22 (endPost [.cN 2 6] R) (argEnv 0 args) w) : Calls Tryd.prog 22 args.toArray w R :=
  calls_of_vc Tryd.func22 rfl low22 rfl ha h
/-- The code of (*aquatint/edit.reader).word. -/
def r33_0 : List G := [.op (.mov 4 (.const (.string { data := #[] }))) none,
  .keep [0, 1]]
def r33_1 : List G := [.op (.mov 12 (.tmp 0)) none,
  .op (.nilCheck 13 (.tmp 12)) none,
  .op (.faddr 14 0 (.tmp 13)) none,
  .op (.load 15 (.tmp 14)) none,
  .op (.mov 16 (.tmp 0)) none,
  .op (.nilCheck 17 (.tmp 16)) none,
  .op (.faddr 18 1 (.tmp 17)) none,
  .op (.load 19 (.tmp 18)) none,
  .op (.sliceS 20 (.tmp 15) (some (.tmp 19)) none) none,
  .op (.mov 5 (.tmp 20)) none,
  .keep [0, 1, 5]]
def r33_2 : List G := [.op (.mov 6 (.const (.int .i64 0))) none,
  .keep [0, 1, 5, 6]]
def r33_3 : List G := [.op (.mov 21 (.tmp 1)) none,
  .op (.lenL 22 (.tmp 21)) none,
  .op (.mov 23 (.const (.int .i64 0))) none,
  .keep [0, 5, 6, 21, 22, 23]]
def r33_4 : List G := [.op (.ari 24 .lss .i64 (.tmp 23) (.tmp 22)) none,
  .keep [0, 5, 6, 21, 22, 23, 24]]
def r33_5 : List G := [.op (.iaddrL 25 1 (.tmp 21) (.tmp 23)) none,
  .op (.load 26 (.tmp 25)) none,
  .op (.mov 8 (.tmp 26)) none,
  .keep [0, 5, 6, 8, 21, 22, 23]]
def r33_6 : List G := [.op (.mov 27 (.tmp 5)) none,
  .op (.mov 28 (.tmp 8)) none,
  .op (.call (some 29) 45 [(.tmp 27), (.tmp 28)]) none,
  .keep [0, 5, 6, 8, 21, 22, 23, 29]]
def r33_7 : List G := [.op (.mov 30 (.tmp 0)) none,
  .op (.nilCheck 31 (.tmp 30)) none,
  .op (.faddr 32 1 (.tmp 31)) none,
  .op (.load 33 (.tmp 32)) none,
  .op (.mov 34 (.tmp 8)) none,
  .op (.lenS 35 (.tmp 34)) none,
  .op (.ari 36 .add .i64 (.tmp 33) (.tmp 35)) none,
  .op (.nilCheck 37 (.tmp 30)) none,
  .op (.faddr 38 1 (.tmp 37)) none,
  .op (.store (.tmp 38) (.tmp 36)) none,
  .keep [8]]
def r33_8 : List G := [.op (.mov 39 (.tmp 8)) none,
  .op (.mov 4 (.tmp 39)) none,
  .keep [4]]
def r33_9 : List G := [.op (.mov 9 (.const (.int .i64 0))) none,
  .keep [0, 5, 6, 8, 9, 21, 22, 23]]
def r33_10 : List G := [.op (.mov 40 (.tmp 8)) none,
  .op (.rng 41 (.tmp 40)) none,
  .keep [0, 5, 6, 9, 21, 22, 23, 41]]
def r33_11 : List G := [.op (.nxt 42 (.tmp 41)) none,
  .op (.ext 43 0 (.tmp 42)) none,
  .keep [0, 5, 6, 9, 21, 22, 23, 41, 42, 43]]
def r33_12 : List G := [.op (.ext 44 1 (.tmp 42)) none,
  .op (.ext 45 2 (.tmp 42)) none,
  .op (.mov 10 (.tmp 44)) none,
  .op (.mov 11 (.tmp 45)) none,
  .keep [0, 5, 6, 9, 10, 11, 21, 22, 23, 41]]
def r33_13 : List G := [.op (.mov 46 (.tmp 10)) none,
  .op (.mov 47 (.tmp 5)) none,
  .op (.lenS 48 (.tmp 47)) none,
  .op (.ari 49 .geq .i64 (.tmp 46) (.tmp 48)) none,
  .op (.mov 50 (.tmp 49)) none,
  .op (.mov 51 (.tmp 5)) (some (50, false)),
  .op (.mov 52 (.tmp 10)) (some (50, false)),
  .op (.idxS 53 (.tmp 51) (.tmp 52)) (some (50, false)),
  .op (.conv 54 .i32 (.tmp 53)) (some (50, false)),
  .op (.mov 55 (.tmp 11)) (some (50, false)),
  .op (.ari 56 .neq .i32 (.tmp 54) (.tmp 55)) (some (50, false)),
  .op (.pick 57 (.tmp 50) (.const (.bool true)) (.tmp 56)) none,
  .keep [0, 5, 6, 9, 10, 21, 22, 23, 41, 57]]
def r33_14 : List G := [.op (.mov 58 (.tmp 10)) none,
  .op (.ari 59 .add .i64 (.tmp 58) (.const (.int .i64 1))) none,
  .op (.mov 9 (.tmp 59)) none,
  .keep [0, 5, 6, 9, 21, 22, 23, 41]]
def r33_15 : List G := [.op (.mov 60 (.tmp 6)) none,
  .op (.mov 61 (.tmp 9)) none,
  .op (.mm 62 true (.tmp 60) (.tmp 61)) none,
  .op (.mov 6 (.tmp 62)) none,
  .keep [0, 5, 6, 21, 22, 23]]
def r33_16 : List G := [.op (.ari 63 .add .i64 (.tmp 23) (.const (.int .i64 1))) none,
  .op (.mov 23 (.tmp 63)) none,
  .keep [0, 5, 6, 21, 22, 23]]
def r33_17 : List G := [.op (.mov 64 (.tmp 0)) none,
  .op (.mov 65 (.tmp 0)) none,
  .op (.nilCheck 66 (.tmp 65)) none,
  .op (.faddr 67 1 (.tmp 66)) none,
  .op (.load 68 (.tmp 67)) none,
  .op (.mov 69 (.tmp 6)) none,
  .op (.ari 70 .add .i64 (.tmp 68) (.tmp 69)) none,
  .op (.call (some 71) 38 [(.tmp 64), (.tmp 70)]) none,
  .keep []]
def r33_18 : List G := [.op (.mov 4 (.const (.string { data := #[] }))) none,
  .keep [4]]
def c33 : C := (.seq (.region r33_0) (.seq (.regionD r33_1) (.seq (.region r33_2) (.seq (.seq (.region r33_3) (.block 0 (.loop (.seq (.region r33_4) (.seq (.cond (.tmp 24) .skip (.exit 0)) (.seq (.block 1 (.seq (.region r33_5) (.seq (.seq (.region r33_6) (.cond (.tmp 29) (.seq (.region r33_7) (.seq (.region r33_8) .ret)) .skip)) (.seq (.region r33_9) (.seq (.seq (.region r33_10) (.block 2 (.loop (.seq (.region r33_11) (.seq (.cond (.tmp 43) .skip (.exit 2)) (.block 3 (.seq (.region r33_12) (.seq (.seq (.region r33_13) (.cond (.tmp 57) (.exit 2) .skip)) (.region r33_14))))))))) (.region r33_15)))))) (.region r33_16))))))) (.seq (.region r33_17) (.seq (.region r33_18) .ret))))))
def x33 := PLift.up (andx (ux Tryd.prog r33_0.eq_1) (andx (ux Tryd.prog r33_1.eq_1) (andx (ux Tryd.prog r33_2.eq_1) (andx (ux Tryd.prog r33_3.eq_1) (andx (ux Tryd.prog r33_4.eq_1) (andx (ux Tryd.prog r33_5.eq_1) (andx (ux Tryd.prog r33_6.eq_1) (andx (ux Tryd.prog r33_7.eq_1) (andx (ux Tryd.prog r33_8.eq_1) (andx (ux Tryd.prog r33_9.eq_1) (andx (ux Tryd.prog r33_10.eq_1) (andx (ux Tryd.prog r33_11.eq_1) (andx (ux Tryd.prog r33_12.eq_1) (andx (ux Tryd.prog r33_13.eq_1) (andx (ux Tryd.prog r33_14.eq_1) (andx (ux Tryd.prog r33_15.eq_1) (andx (ux Tryd.prog r33_16.eq_1) (andx (ux Tryd.prog r33_17.eq_1) (ux Tryd.prog r33_18.eq_1)))))))))))))))))))
theorem low33 : Tryd.f33.body.bind (lowerC Tryd.prog 72 (fun i => List.lookup i [(1, .fin [(0, 0), (1, 0), (2, 0), (3, 0), (4, 0), (5, 0), (6, 0), (7, 0), (8, 0), (9, 0)])])) = some c33.erase := by kernel_rfl
theorem enter33 {args : List Value} {w : World} {R : Ending → World → Prop} (ha : args.length ≤ 72) (h : vc Tryd.prog c33 (endPost [.t 4] R) (argEnv 0 args) w) : Calls Tryd.prog 33 args.toArray w R :=
  calls_of_vc Tryd.func33 rfl low33 rfl ha h
/-- The code of aquatint/turn.Kind. -/
def r34_0 : List G := [.op (.mov 2 (.const (.int .i64 0))) none,
  .op (.mov 3 (.const (.bool false))) none,
  .keep [0]]
def r34_1 : List G := [.op (.loadN 6 8 (.global 0)) none,
  .op (.mov 7 (.const (.int .i64 0))) none,
  .keep [0, 6, 7]]
def r34_2 : List G := [.op (.ari 8 .lss .i64 (.tmp 7) (.const (.int .i64 8))) none,
  .keep [0, 6, 7, 8]]
def r34_3 : List G := [.op (.mov 9 (.tmp 7)) none,
  .op (.idxA 10 8 1 false (.tmp 6) (.tmp 7)) none,
  .op (.mov 4 (.tmp 9)) none,
  .op (.mov 5 (.tmp 10)) none,
  .keep [0, 4, 5, 6, 7]]
def r34_4 : List G := [.op (.mov 11 (.tmp 5)) none,
  .op (.mov 12 (.tmp 0)) none,
  .op (.call (some 13) 46 [(.tmp 11), (.tmp 12)]) none,
  .keep [0, 4, 6, 7, 13]]
def r34_5 : List G := [.op (.mov 14 (.tmp 4)) none,
  .op (.mov 2 (.tmp 14)) none,
  .op (.mov 3 (.const (.bool true))) none,
  .keep [2, 3]]
def r34_6 : List G := [.op (.ari 15 .add .i64 (.tmp 7) (.const (.int .i64 1))) none,
  .op (.mov 7 (.tmp 15)) none,
  .keep [0, 6, 7]]
def r34_7 : List G := [.op (.mov 2 (.const (.int .i64 0))) none,
  .op (.mov 3 (.const (.bool false))) none,
  .keep [2, 3]]
def c34 : C := (.seq (.region r34_0) (.seq (.seq (.region r34_1) (.block 0 (.loop (.seq (.region r34_2) (.seq (.cond (.tmp 8) .skip (.exit 0)) (.seq (.block 1 (.seq (.region r34_3) (.seq (.region r34_4) (.cond (.tmp 13) (.seq (.region r34_5) .ret) .skip)))) (.region r34_6))))))) (.seq (.region r34_7) .ret)))
def x34 := PLift.up (andx (ux Tryd.prog r34_0.eq_1) (andx (ux Tryd.prog r34_1.eq_1) (andx (ux Tryd.prog r34_2.eq_1) (andx (ux Tryd.prog r34_3.eq_1) (andx (ux Tryd.prog r34_4.eq_1) (andx (ux Tryd.prog r34_5.eq_1) (andx (ux Tryd.prog r34_6.eq_1) (ux Tryd.prog r34_7.eq_1))))))))
theorem low34 : Tryd.f34.body.bind (lowerC Tryd.prog 16 (fun _ => none)) = some c34.erase := by kernel_rfl
theorem enter34 {args : List Value} {w : World} {R : Ending → World → Prop} (ha : args.length ≤ 16) (h : vc Tryd.prog c34 (endPost [.t 2, .t 3] R) (argEnv 0 args) w) : Calls Tryd.prog 34 args.toArray w R :=
  calls_of_vc Tryd.func34 rfl low34 rfl ha h
/-- The code of (*aquatint/edit.reader).numbers. -/
def r35_0 : List G := [.op (.mov 6 (.tmp 1)) none,
  .op (.lenL 7 (.tmp 6)) none,
  .op (.mov 8 (.const (.int .i64 0))) none,
  .keep [0, 6, 7, 8]]
def r35_1 : List G := [.op (.ari 9 .lss .i64 (.tmp 8) (.tmp 7)) none,
  .keep [0, 6, 7, 8, 9]]
def r35_2 : List G := [.op (.iaddrL 10 1 (.tmp 6) (.tmp 8)) none,
  .op (.load 11 (.tmp 10)) none,
  .op (.mov 5 (.tmp 11)) none,
  .keep [0, 5, 6, 7, 8]]
def r35_3 : List G := [.op (.mov 12 (.tmp 0)) none,
  .op (.bslice 13 9 1 1 [(0, 1, (.const (.string { data := #[32] })))]) none,
  .op (.call (some 14) 33 [(.tmp 12), (.tmp 13)]) none,
  .keep [0, 5, 6, 7, 8]]
def r35_4 : List G := [.op (.mov 15 (.tmp 5)) none,
  .op (.mov 16 (.tmp 0)) none,
  .op (.call (some 17) 36 [(.tmp 16), (.const (.int .i64 2147483647))]) none,
  .op (.nilCheck 18 (.tmp 15)) none,
  .op (.store (.tmp 18) (.tmp 17)) none,
  .keep [0, 6, 7, 8]]
def r35_5 : List G := [.op (.ari 19 .add .i64 (.tmp 8) (.const (.int .i64 1))) none,
  .op (.mov 8 (.tmp 19)) none,
  .keep [0, 6, 7, 8]]
def c35 : C := (.seq (.region r35_0) (.block 0 (.loop (.seq (.region r35_1) (.seq (.cond (.tmp 9) .skip (.exit 0)) (.seq (.block 1 (.seq (.region r35_2) (.seq (.region r35_3) (.region r35_4)))) (.region r35_5)))))))
def x35 := PLift.up (andx (ux Tryd.prog r35_0.eq_1) (andx (ux Tryd.prog r35_1.eq_1) (andx (ux Tryd.prog r35_2.eq_1) (andx (ux Tryd.prog r35_3.eq_1) (andx (ux Tryd.prog r35_4.eq_1) (ux Tryd.prog r35_5.eq_1))))))
theorem low35 : Tryd.f35.body.bind (lowerC Tryd.prog 20 (fun _ => none)) = some c35.erase := by kernel_rfl
theorem enter35 {args : List Value} {w : World} {R : Ending → World → Prop} (ha : args.length ≤ 20) (h : vc Tryd.prog c35 (endPost [] R) (argEnv 0 args) w) : Calls Tryd.prog 35 args.toArray w R :=
  calls_of_vc Tryd.func35 rfl low35 rfl ha h
/-- The code of (*aquatint/edit.reader).number. -/
def r36_0 : List G := [.op (.mov 4 (.const (.int .i64 0))) none,
  .keep [0, 1]]
def r36_1 : List G := [.op (.mov 9 (.tmp 0)) none,
  .op (.nilCheck 10 (.tmp 9)) none,
  .op (.faddr 11 1 (.tmp 10)) none,
  .op (.load 12 (.tmp 11)) none,
  .op (.mov 5 (.tmp 12)) none,
  .op (.mov 6 (.const (.int .i64 0))) none,
  .keep [0, 1, 5, 6]]
def r36_2 : List G := [.op (.mov 13 (.tmp 0)) none,
  .op (.nilCheck 14 (.tmp 13)) none,
  .op (.faddr 15 0 (.tmp 14)) none,
  .op (.load 16 (.tmp 15)) none,
  .op (.mov 17 (.tmp 5)) none,
  .op (.sliceS 18 (.tmp 16) (some (.tmp 17)) none) none,
  .op (.rng 19 (.tmp 18)) none,
  .keep [0, 1, 5, 6, 19]]
def r36_3 : List G := [.op (.nxt 20 (.tmp 19)) none,
  .op (.ext 21 0 (.tmp 20)) none,
  .keep [0, 1, 5, 6, 19, 20, 21]]
def r36_4 : List G := [.op (.ext 22 2 (.tmp 20)) none,
  .op (.mov 8 (.tmp 22)) none,
  .keep [0, 1, 5, 6, 8, 19]]
def r36_5 : List G := [.op (.mov 23 (.tmp 8)) none,
  .op (.ari 24 .lss .i32 (.tmp 23) (.const (.int .i32 48))) none,
  .op (.mov 25 (.tmp 24)) none,
  .op (.mov 26 (.tmp 8)) (some (25, false)),
  .op (.ari 27 .gtr .i32 (.tmp 26) (.const (.int .i32 57))) (some (25, false)),
  .op (.pick 28 (.tmp 25) (.const (.bool true)) (.tmp 27)) none,
  .op (.mov 29 (.tmp 28)) none,
  .op (.mov 30 (.tmp 0)) (some (29, false)),
  .op (.nilCheck 31 (.tmp 30)) (some (29, false)),
  .op (.faddr 32 1 (.tmp 31)) (some (29, false)),
  .op (.load 33 (.tmp 32)) (some (29, false)),
  .op (.mov 34 (.tmp 5)) (some (29, false)),
  .op (.ari 35 .gtr .i64 (.tmp 33) (.tmp 34)) (some (29, false)),
  .op (.mov 36 (.tmp 35)) (some (29, false)),
  .op (.mov 37 (.tmp 6)) (some (36, true)),
  .op (.ari 38 .eql .i64 (.tmp 37) (.const (.int .i64 0))) (some (36, true)),
  .op (.pick 39 (.tmp 36) (.tmp 38) (.const (.bool false))) (some (29, false)),
  .op (.pick 40 (.tmp 29) (.const (.bool true)) (.tmp 39)) none,
  .keep [0, 1, 5, 6, 8, 19, 40]]
def r36_6 : List G := [.op (.mov 41 (.tmp 0)) none,
  .op (.nilCheck 42 (.tmp 41)) none,
  .op (.faddr 43 1 (.tmp 42)) none,
  .op (.load 44 (.tmp 43)) none,
  .op (.ari 45 .add .i64 (.tmp 44) (.const (.int .i64 1))) none,
  .op (.nilCheck 46 (.tmp 41)) none,
  .op (.faddr 47 1 (.tmp 46)) none,
  .op (.store (.tmp 47) (.tmp 45)) none,
  .keep [0, 1, 5, 6, 8, 19]]
def r36_7 : List G := [.op (.mov 48 (.tmp 6)) none,
  .op (.ari 49 .mul .i64 (.const (.int .i64 10)) (.tmp 48)) none,
  .op (.mov 50 (.tmp 8)) none,
  .op (.ari 51 .sub .i32 (.tmp 50) (.const (.int .i32 48))) none,
  .op (.conv 52 .i64 (.tmp 51)) none,
  .op (.ari 53 .add .i64 (.tmp 49) (.tmp 52)) none,
  .op (.mm 54 false (.tmp 53) (.const (.int .i64 2147483648))) none,
  .op (.mov 6 (.tmp 54)) none,
  .keep [0, 1, 5, 6, 19]]
def r36_8 : List G := [.op (.mov 56 (.tmp 0)) none,
  .op (.nilCheck 57 (.tmp 56)) none,
  .op (.faddr 58 1 (.tmp 57)) none,
  .op (.load 59 (.tmp 58)) none,
  .op (.mov 60 (.tmp 5)) none,
  .op (.ari 61 .eql .i64 (.tmp 59) (.tmp 60)) none,
  .op (.mov 55 (.tmp 61)) none,
  .keep [0, 1, 5, 6, 55]]
def r36_9 : List G := [.op (.mov 62 (.tmp 0)) none,
  .op (.mov 63 (.tmp 5)) none,
  .op (.call (some 64) 38 [(.tmp 62), (.tmp 63)]) none,
  .keep [6]]
def r36_10 : List G := [.op (.mov 66 (.tmp 6)) none,
  .op (.mov 67 (.tmp 1)) none,
  .op (.ari 68 .gtr .i64 (.tmp 66) (.tmp 67)) none,
  .op (.mov 65 (.tmp 68)) none,
  .keep [5, 6, 65]]
def r36_11 : List G := [.op (.mov 69 (.tmp 5)) none,
  .op (.build 70 65 [(0, 1, (.tmp 69)), (1, 1, (.const (.int .i64 11)))]) none,
  .op (.iface 71 65 (.tmp 70)) none,
  .op (.panic (.tmp 71)) none,
  .keep [6]]
def r36_12 : List G := [.op (.mov 72 (.tmp 6)) none,
  .op (.mov 4 (.tmp 72)) none,
  .keep [4]]
def c36 : C := (.seq (.region r36_0) (.seq (.region r36_1) (.seq (.seq (.region r36_2) (.block 0 (.loop (.seq (.region r36_3) (.seq (.cond (.tmp 21) .skip (.exit 0)) (.block 1 (.seq (.region r36_4) (.seq (.seq (.region r36_5) (.cond (.tmp 40) (.exit 0) .skip)) (.seq (.region r36_6) (.region r36_7)))))))))) (.seq (.block 2 (.seq (.region r36_8) (.cond (.tmp 55) (.region r36_9) (.seq (.region r36_10) (.cond (.tmp 65) (.region r36_11) .skip))))) (.seq (.region r36_12) .ret)))))
def x36 := PLift.up (andx (ux Tryd.prog r36_0.eq_1) (andx (ux Tryd.prog r36_1.eq_1) (andx (ux Tryd.prog r36_2.eq_1) (andx (ux Tryd.prog r36_3.eq_1) (andx (ux Tryd.prog r36_4.eq_1) (andx (ux Tryd.prog r36_5.eq_1) (andx (ux Tryd.prog r36_6.eq_1) (andx (ux Tryd.prog r36_7.eq_1) (andx (ux Tryd.prog r36_8.eq_1) (andx (ux Tryd.prog r36_9.eq_1) (andx (ux Tryd.prog r36_10.eq_1) (andx (ux Tryd.prog r36_11.eq_1) (ux Tryd.prog r36_12.eq_1)))))))))))))
theorem low36 : Tryd.f36.body.bind (lowerC Tryd.prog 73 (fun _ => none)) = some c36.erase := by kernel_rfl
theorem enter36 {args : List Value} {w : World} {R : Ending → World → Prop} (ha : args.length ≤ 73) (h : vc Tryd.prog c36 (endPost [.t 4] R) (argEnv 0 args) w) : Calls Tryd.prog 36 args.toArray w R :=
  calls_of_vc Tryd.func36 rfl low36 rfl ha h
/-- The code of (*aquatint/edit.reader).quoted. -/
def r37_0 : List G := [.op (.mov 2 (.const (.string { data := #[] }))) none,
  .keep [0]]
def r37_1 : List G := [.op (.mov 6 (.tmp 0)) none,
  .op (.bslice 7 9 1 1 [(0, 1, (.const (.string { data := #[32] })))]) none,
  .op (.call (some 8) 33 [(.tmp 6), (.tmp 7)]) none,
  .keep [0]]
def r37_2 : List G := [.op (.mov 10 (.tmp 0)) none,
  .op (.nilCheck 11 (.tmp 10)) none,
  .op (.faddr 12 0 (.tmp 11)) none,
  .op (.load 13 (.tmp 12)) none,
  .op (.mov 14 (.tmp 0)) none,
  .op (.nilCheck 15 (.tmp 14)) none,
  .op (.faddr 16 1 (.tmp 15)) none,
  .op (.load 17 (.tmp 16)) none,
  .op (.sliceS 18 (.tmp 13) (some (.tmp 17)) none) none,
  .op (.call (some 19) 47 [(.tmp 18)]) none,
  .op (.mov 9 (.tmp 19)) none,
  .op (.ext 20 0 (.tmp 9)) none,
  .op (.ext 21 1 (.tmp 9)) none,
  .op (.ext 22 2 (.tmp 9)) none,
  .op (.mov 3 (.tmp 20)) none,
  .op (.mov 4 (.tmp 21)) none,
  .op (.mov 5 (.tmp 22)) none,
  .keep [0, 3, 4, 5]]
def r37_3 : List G := [.op (.mov 23 (.tmp 5)) none,
  .op (.ari 24 .neq .i64 (.tmp 23) (.const (.int .i64 0))) none,
  .keep [0, 3, 4, 5, 24]]
def r37_4 : List G := [.op (.mov 25 (.tmp 0)) none,
  .op (.nilCheck 26 (.tmp 25)) none,
  .op (.faddr 27 1 (.tmp 26)) none,
  .op (.load 28 (.tmp 27)) none,
  .op (.mov 29 (.tmp 4)) none,
  .op (.ari 30 .add .i64 (.tmp 28) (.tmp 29)) none,
  .op (.mov 31 (.tmp 5)) none,
  .op (.build 32 65 [(0, 1, (.tmp 30)), (1, 1, (.tmp 31))]) none,
  .op (.iface 33 65 (.tmp 32)) none,
  .op (.panic (.tmp 33)) none,
  .keep [0, 3, 4]]
def r37_5 : List G := [.op (.mov 34 (.tmp 0)) none,
  .op (.nilCheck 35 (.tmp 34)) none,
  .op (.faddr 36 1 (.tmp 35)) none,
  .op (.load 37 (.tmp 36)) none,
  .op (.mov 38 (.tmp 4)) none,
  .op (.ari 39 .add .i64 (.tmp 37) (.tmp 38)) none,
  .op (.nilCheck 40 (.tmp 34)) none,
  .op (.faddr 41 1 (.tmp 40)) none,
  .op (.store (.tmp 41) (.tmp 39)) none,
  .keep [3]]
def r37_6 : List G := [.op (.mov 42 (.tmp 3)) none,
  .op (.mov 2 (.tmp 42)) none,
  .keep [2]]
def c37 : C := (.seq (.region r37_0) (.seq (.region r37_1) (.seq (.regionD r37_2) (.seq (.seq (.region r37_3) (.cond (.tmp 24) (.region r37_4) .skip)) (.seq (.region r37_5) (.seq (.region r37_6) .ret))))))
def x37 := PLift.up (andx (ux Tryd.prog r37_0.eq_1) (andx (ux Tryd.prog r37_1.eq_1) (andx (ux Tryd.prog r37_2.eq_1) (andx (ux Tryd.prog r37_3.eq_1) (andx (ux Tryd.prog r37_4.eq_1) (andx (ux Tryd.prog r37_5.eq_1) (ux Tryd.prog r37_6.eq_1)))))))
theorem low37 : Tryd.f37.body.bind (lowerC Tryd.prog 43 (fun i => List.lookup i [(2, .fin [(0, 0), (1, 0), (2, 0), (3, 0), (4, 0), (5, 0), (6, 0), (7, 0), (8, 0), (9, 0), (10, 0), (11, 0), (12, 0), (13, 0), (14, 0), (15, 0), (16, 0)])])) = some c37.erase := by kernel_rfl
theorem enter37 {args : List Value} {w : World} {R : Ending → World → Prop} (ha : args.length ≤ 43) (h : vc Tryd.prog c37 (endPost [.t 2] R) (argEnv 0 args) w) : Calls Tryd.prog 37 args.toArray w R :=
  calls_of_vc Tryd.func37 rfl low37 rfl ha h
/-- The code of (*aquatint/edit.reader).fail. -/
def r38_0 : List G := [.op (.mov 4 (.tmp 1)) none,
  .op (.mov 5 (.tmp 0)) none,
  .op (.nilCheck 6 (.tmp 5)) none,
  .op (.faddr 7 0 (.tmp 6)) none,
  .op (.load 8 (.tmp 7)) none,
  .op (.lenS 9 (.tmp 8)) none,
  .op (.ari 10 .geq .i64 (.tmp 4) (.tmp 9)) none,
  .keep [0, 1, 10]]
def r38_1 : List G := [.op (.mov 11 (.tmp 0)) none,
  .op (.nilCheck 12 (.tmp 11)) none,
  .op (.faddr 13 0 (.tmp 12)) none,
  .op (.load 14 (.tmp 13)) none,
  .op (.lenS 15 (.tmp 14)) none,
  .op (.build 16 65 [(0, 1, (.tmp 15)), (1, 1, (.const (.int .i64 2)))]) none,
  .op (.iface 17 65 (.tmp 16)) none,
  .op (.panic (.tmp 17)) none,
  .keep [1]]
def r38_2 : List G := [.op (.mov 18 (.tmp 1)) none,
  .op (.build 19 65 [(0, 1, (.tmp 18)), (1, 1, (.const (.int .i64 16)))]) none,
  .op (.iface 20 65 (.tmp 19)) none,
  .op (.panic (.tmp 20)) none,
  .keep []]
def c38 : C := (.seq (.seq (.region r38_0) (.cond (.tmp 10) (.region r38_1) .skip)) (.region r38_2))
def x38 := PLift.up (andx (ux Tryd.prog r38_0.eq_1) (andx (ux Tryd.prog r38_1.eq_1) (ux Tryd.prog r38_2.eq_1)))
theorem low38 : Tryd.f38.body.bind (lowerC Tryd.prog 21 (fun _ => none)) = some c38.erase := by kernel_rfl
theorem enter38 {args : List Value} {w : World} {R : Ending → World → Prop} (ha : args.length ≤ 21) (h : vc Tryd.prog c38 (endPost [] R) (argEnv 0 args) w) : Calls Tryd.prog 38 args.toArray w R :=
  calls_of_vc Tryd.func38 rfl low38 rfl ha h
/-- The code of strings.HasPrefix. -/
def r45_0 : List G := [.op (.mov 4 (.const (.bool false))) none,
  .keep [0, 1]]
def r45_1 : List G := [.op (.mov 5 (.tmp 0)) none,
  .op (.mov 6 (.tmp 1)) none,
  .op (.call (some 7) 49 [(.tmp 5), (.tmp 6)]) none,
  .op (.mov 4 (.tmp 7)) none,
  .keep [4]]
def c45 : C := (.seq (.region r45_0) (.seq (.region r45_1) .ret))
def x45 := PLift.up (andx (ux Tryd.prog r45_0.eq_1) (ux Tryd.prog r45_1.eq_1))
theorem low45 : Tryd.f45.body.bind (lowerC Tryd.prog 8 (fun _ => none)) = some c45.erase := by kernel_rfl
theorem enter45 {args : List Value} {w : World} {R : Ending → World → Prop} (ha : args.length ≤ 8) (h : vc Tryd.prog c45 (endPost [.t 4] R) (argEnv 0 args) w) : Calls Tryd.prog 45 args.toArray w R :=
  calls_of_vc Tryd.func45 rfl low45 rfl ha h
/-- The code of aquatint/turn.same. -/
def r46_0 : List G := [.op (.mov 4 (.const (.bool false))) none,
  .keep [0, 1]]
def r46_1 : List G := [.op (.mov 7 (.tmp 0)) none,
  .op (.lenS 8 (.tmp 7)) none,
  .op (.mov 9 (.tmp 1)) none,
  .op (.lenS 10 (.tmp 9)) none,
  .op (.ari 11 .neq .i64 (.tmp 8) (.tmp 10)) none,
  .keep [0, 1, 11]]
def r46_2 : List G := [.op (.mov 4 (.const (.bool false))) none,
  .keep [4]]
def r46_3 : List G := [.op (.mov 12 (.tmp 0)) none,
  .op (.rng 13 (.tmp 12)) none,
  .keep [1, 13]]
def r46_4 : List G := [.op (.nxt 14 (.tmp 13)) none,
  .op (.ext 15 0 (.tmp 14)) none,
  .keep [1, 13, 14, 15]]
def r46_5 : List G := [.op (.ext 16 1 (.tmp 14)) none,
  .op (.ext 17 2 (.tmp 14)) none,
  .op (.mov 5 (.tmp 16)) none,
  .op (.mov 6 (.tmp 17)) none,
  .keep [1, 5, 6, 13]]
def r46_6 : List G := [.op (.mov 18 (.tmp 1)) none,
  .op (.mov 19 (.tmp 5)) none,
  .op (.idxS 20 (.tmp 18) (.tmp 19)) none,
  .op (.conv 21 .i32 (.tmp 20)) none,
  .op (.mov 22 (.tmp 6)) none,
  .op (.ari 23 .neq .i32 (.tmp 21) (.tmp 22)) none,
  .keep [1, 13, 23]]
def r46_7 : List G := [.op (.mov 4 (.const (.bool false))) none,
  .keep [4]]
def r46_8 : List G := [.op (.mov 4 (.const (.bool true))) none,
  .keep [4]]
def c46 : C := (.seq (.region r46_0) (.seq (.seq (.region r46_1) (.cond (.tmp 11) (.seq (.region r46_2) .ret) .skip)) (.seq (.seq (.region r46_3) (.block 0 (.loop (.seq (.region r46_4) (.seq (.cond (.tmp 15) .skip (.exit 0)) (.block 1 (.seq (.region r46_5) (.seq (.region r46_6) (.cond (.tmp 23) (.seq (.region r46_7) .ret) .skip))))))))) (.seq (.region r46_8) .ret))))
def x46 := PLift.up (andx (ux Tryd.prog r46_0.eq_1) (andx (ux Tryd.prog r46_1.eq_1) (andx (ux Tryd.prog r46_2.eq_1) (andx (ux Tryd.prog r46_3.eq_1) (andx (ux Tryd.prog r46_4.eq_1) (andx (ux Tryd.prog r46_5.eq_1) (andx (ux Tryd.prog r46_6.eq_1) (andx (ux Tryd.prog r46_7.eq_1) (ux Tryd.prog r46_8.eq_1)))))))))
theorem low46 : Tryd.f46.body.bind (lowerC Tryd.prog 24 (fun _ => none)) = some c46.erase := by kernel_rfl
theorem enter46 {args : List Value} {w : World} {R : Ending → World → Prop} (ha : args.length ≤ 24) (h : vc Tryd.prog c46 (endPost [.t 4] R) (argEnv 0 args) w) : Calls Tryd.prog 46 args.toArray w R :=
  calls_of_vc Tryd.func46 rfl low46 rfl ha h
/-- The code of internal/stringslite.HasPrefix. -/
def r49_0 : List G := [.op (.mov 4 (.const (.bool false))) none,
  .keep [0, 1]]
def r49_1 : List G := [.op (.mov 5 (.tmp 0)) none,
  .op (.lenS 6 (.tmp 5)) none,
  .op (.mov 7 (.tmp 1)) none,
  .op (.lenS 8 (.tmp 7)) none,
  .op (.ari 9 .geq .i64 (.tmp 6) (.tmp 8)) none,
  .op (.mov 10 (.tmp 9)) none,
  .op (.mov 11 (.tmp 0)) (some (10, true)),
  .op (.mov 12 (.tmp 1)) (some (10, true)),
  .op (.lenS 13 (.tmp 12)) (some (10, true)),
  .op (.sliceS 14 (.tmp 11) none (some (.tmp 13))) (some (10, true)),
  .op (.mov 15 (.tmp 1)) (some (10, true)),
  .op (.sop 16 .eql (.tmp 14) (.tmp 15)) (some (10, true)),
  .op (.pick 17 (.tmp 10) (.tmp 16) (.const (.bool false))) none,
  .op (.mov 4 (.tmp 17)) none,
  .keep [4]]
def c49 : C := (.seq (.region r49_0) (.seq (.region r49_1) .ret))
def x49 := PLift.up (andx (ux Tryd.prog r49_0.eq_1) (ux Tryd.prog r49_1.eq_1))
theorem low49 : Tryd.f49.body.bind (lowerC Tryd.prog 18 (fun _ => none)) = some c49.erase := by kernel_rfl
theorem enter49 {args : List Value} {w : World} {R : Ending → World → Prop} (ha : args.length ≤ 18) (h : vc Tryd.prog c49 (endPost [.t 4] R) (argEnv 0 args) w) : Calls Tryd.prog 49 args.toArray w R :=
  calls_of_vc Tryd.func49 rfl low49 rfl ha h
/-- The code of (aquatint/edit.Turn).Edit. -/
def r76_0 : List G := [.op (.box 1 36 (.tmp 0)) none,
  .op (.alloc 2 23) none,
  .keep [1, 2]]
def r76_1 : List G := [.op (.faddr 3 0 (.tmp 1)) none,
  .op (.load 4 (.tmp 3)) none,
  .op (.build 5 23 [(0, 1, (.const (.int .i64 0))), (1, 1, (.tmp 4))]) none,
  .op (.storeN 6 (.tmp 2) (.tmp 5)) none,
  .keep [2]]
def c76 : C := (.seq (.region r76_0) (.seq (.region r76_1) .ret))
def x76 := PLift.up (andx (ux Tryd.prog r76_0.eq_1) (ux Tryd.prog r76_1.eq_1))
theorem low76 : Tryd.f76.body.bind (lowerC Tryd.prog 6 (fun _ => none)) = some c76.erase := by kernel_rfl
theorem enter76 {args : List Value} {w : World} {R : Ending → World → Prop} (ha : args.length ≤ 6) (h : vc Tryd.prog c76 (endPost [.cN 2 6] R) (argEnv 0 args) w) : Calls Tryd.prog 76 args.toArray w R :=
  calls_of_vc Tryd.func76 rfl low76 rfl ha h
/-- The code of (aquatint/edit.Crop).Edit. -/
def r78_0 : List G := [.op (.box 1 40 (.tmp 0)) none,
  .op (.alloc 2 23) none,
  .keep [1, 2]]
def r78_1 : List G := [.op (.faddr 3 0 (.tmp 1)) none,
  .op (.loadN 4 4 (.tmp 3)) none,
  .op (.call (some 5) 79 [(.const (.int .i64 1)), (.tmp 4)]) none,
  .op (.storeN 6 (.tmp 2) (.tmp 5)) none,
  .keep [2]]
def c78 : C := (.seq (.region r78_0) (.seq (.region r78_1) .ret))
def x78 := PLift.up (andx (ux Tryd.prog r78_0.eq_1) (ux Tryd.prog r78_1.eq_1))
theorem low78 : Tryd.f78.body.bind (lowerC Tryd.prog 6 (fun _ => none)) = some c78.erase := by kernel_rfl
theorem enter78 {args : List Value} {w : World} {R : Ending → World → Prop} (ha : args.length ≤ 6) (h : vc Tryd.prog c78 (endPost [.cN 2 6] R) (argEnv 0 args) w) : Calls Tryd.prog 78 args.toArray w R :=
  calls_of_vc Tryd.func78 rfl low78 rfl ha h
/-- The code of (aquatint/edit.Redact).Edit. -/
def r81_0 : List G := [.op (.box 1 41 (.tmp 0)) none,
  .op (.alloc 2 23) none,
  .keep [1, 2]]
def r81_1 : List G := [.op (.faddr 3 0 (.tmp 1)) none,
  .op (.loadN 4 4 (.tmp 3)) none,
  .op (.call (some 5) 79 [(.const (.int .i64 2)), (.tmp 4)]) none,
  .op (.storeN 6 (.tmp 2) (.tmp 5)) none,
  .keep [2]]
def c81 : C := (.seq (.region r81_0) (.seq (.region r81_1) .ret))
def x81 := PLift.up (andx (ux Tryd.prog r81_0.eq_1) (ux Tryd.prog r81_1.eq_1))
theorem low81 : Tryd.f81.body.bind (lowerC Tryd.prog 6 (fun _ => none)) = some c81.erase := by kernel_rfl
theorem enter81 {args : List Value} {w : World} {R : Ending → World → Prop} (ha : args.length ≤ 6) (h : vc Tryd.prog c81 (endPost [.cN 2 6] R) (argEnv 0 args) w) : Calls Tryd.prog 81 args.toArray w R :=
  calls_of_vc Tryd.func81 rfl low81 rfl ha h
/-- The code of (aquatint/edit.Put).Edit. -/
def r83_0 : List G := [.op (.box 1 43 (.tmp 0)) none,
  .op (.alloc 2 23) none,
  .keep [1, 2]]
def r83_1 : List G := [.op (.faddr 3 0 (.tmp 1)) none,
  .op (.load 4 (.tmp 3)) none,
  .op (.faddr 5 1 (.tmp 1)) none,
  .op (.load 6 (.tmp 5)) none,
  .op (.faddr 7 2 (.tmp 1)) none,
  .op (.load 8 (.tmp 7)) none,
  .op (.build 9 23 [(0, 1, (.const (.int .i64 3))), (1, 1, (.tmp 4)), (2, 1, (.tmp 6)), (5, 1, (.tmp 8))]) none,
  .op (.storeN 6 (.tmp 2) (.tmp 9)) none,
  .keep [2]]
def c83 : C := (.seq (.region r83_0) (.seq (.region r83_1) .ret))
def x83 := PLift.up (andx (ux Tryd.prog r83_0.eq_1) (ux Tryd.prog r83_1.eq_1))
theorem low83 : Tryd.f83.body.bind (lowerC Tryd.prog 10 (fun _ => none)) = some c83.erase := by kernel_rfl
theorem enter83 {args : List Value} {w : World} {R : Ending → World → Prop} (ha : args.length ≤ 10) (h : vc Tryd.prog c83 (endPost [.cN 2 6] R) (argEnv 0 args) w) : Calls Tryd.prog 83 args.toArray w R :=
  calls_of_vc Tryd.func83 rfl low83 rfl ha h
/-- The code of (aquatint/edit.Drop).Edit. -/
def r85_0 : List G := [.op (.box 1 45 (.tmp 0)) none,
  .op (.alloc 2 23) none,
  .keep [1, 2]]
def r85_1 : List G := [.op (.faddr 3 0 (.tmp 1)) none,
  .op (.load 4 (.tmp 3)) none,
  .op (.build 5 23 [(0, 1, (.const (.int .i64 4))), (1, 1, (.tmp 4))]) none,
  .op (.storeN 6 (.tmp 2) (.tmp 5)) none,
  .keep [2]]
def c85 : C := (.seq (.region r85_0) (.seq (.region r85_1) .ret))
def x85 := PLift.up (andx (ux Tryd.prog r85_0.eq_1) (ux Tryd.prog r85_1.eq_1))
theorem low85 : Tryd.f85.body.bind (lowerC Tryd.prog 6 (fun _ => none)) = some c85.erase := by kernel_rfl
theorem enter85 {args : List Value} {w : World} {R : Ending → World → Prop} (ha : args.length ≤ 6) (h : vc Tryd.prog c85 (endPost [.cN 2 6] R) (argEnv 0 args) w) : Calls Tryd.prog 85 args.toArray w R :=
  calls_of_vc Tryd.func85 rfl low85 rfl ha h
/-- The code of (aquatint/edit.Note).Edit. -/
def r87_0 : List G := [.op (.box 1 47 (.tmp 0)) none,
  .op (.alloc 2 23) none,
  .keep [1, 2]]
def r87_1 : List G := [.op (.faddr 3 0 (.tmp 1)) none,
  .op (.load 4 (.tmp 3)) none,
  .op (.build 5 23 [(0, 1, (.const (.int .i64 5))), (5, 1, (.tmp 4))]) none,
  .op (.storeN 6 (.tmp 2) (.tmp 5)) none,
  .keep [2]]
def c87 : C := (.seq (.region r87_0) (.seq (.region r87_1) .ret))
def x87 := PLift.up (andx (ux Tryd.prog r87_0.eq_1) (ux Tryd.prog r87_1.eq_1))
theorem low87 : Tryd.f87.body.bind (lowerC Tryd.prog 6 (fun _ => none)) = some c87.erase := by kernel_rfl
theorem enter87 {args : List Value} {w : World} {R : Ending → World → Prop} (ha : args.length ≤ 6) (h : vc Tryd.prog c87 (endPost [.cN 2 6] R) (argEnv 0 args) w) : Calls Tryd.prog 87 args.toArray w R :=
  calls_of_vc Tryd.func87 rfl low87 rfl ha h
/-- The code of aquatint/edit.boxed. -/
def r79_0 : List G := [.op (.box 3 38 (.tmp 1)) none,
  .op (.alloc 4 23) none,
  .keep [0, 3, 4]]
def r79_1 : List G := [.op (.mov 5 (.tmp 0)) none,
  .op (.faddr 6 0 (.tmp 3)) none,
  .op (.load 7 (.tmp 6)) none,
  .op (.faddr 8 1 (.tmp 3)) none,
  .op (.load 9 (.tmp 8)) none,
  .op (.faddr 10 2 (.tmp 3)) none,
  .op (.load 11 (.tmp 10)) none,
  .op (.faddr 12 3 (.tmp 3)) none,
  .op (.load 13 (.tmp 12)) none,
  .op (.build 14 23 [(0, 1, (.tmp 5)), (1, 1, (.tmp 7)), (2, 1, (.tmp 9)), (3, 1, (.tmp 11)), (4, 1, (.tmp 13))]) none,
  .op (.storeN 6 (.tmp 4) (.tmp 14)) none,
  .keep [4]]
def c79 : C := (.seq (.region r79_0) (.seq (.region r79_1) .ret))
def x79 := PLift.up (andx (ux Tryd.prog r79_0.eq_1) (ux Tryd.prog r79_1.eq_1))
theorem low79 : Tryd.f79.body.bind (lowerC Tryd.prog 15 (fun _ => none)) = some c79.erase := by kernel_rfl
theorem enter79 {args : List Value} {w : World} {R : Ending → World → Prop} (ha : args.length ≤ 15) (h : vc Tryd.prog c79 (endPost [.cN 4 6] R) (argEnv 0 args) w) : Calls Tryd.prog 79 args.toArray w R :=
  calls_of_vc Tryd.func79 rfl low79 rfl ha h
end Go.Proofs.YtgibicifflfpfaaDoor
