/-
  Parse and its deferred closure, entered. Conditions: none.
-/
import Derived.Test.YtgibicifflfpfaaDoorE1
set_option autoImplicit false
set_option linter.unusedSimpArgs false
set_option linter.unusedVariables false
namespace Go.Proofs.YtgibicifflfpfaaDoor
open X
set_option maxRecDepth 100000
/-- The code of aquatint/edit.Parse$1. -/
def r21_1 : List G := [.op (.mov 6 (.tmp 3)) none,
  .op (.nili 7 true (.tmp 6)) none,
  .keep [0, 1, 2, 3, 7]]
def r21_2 : List G := [.op (.mov 8 (.tmp 3)) none,
  .op (.tas 9 65 false (.tmp 8)) none,
  .op (.alloc 4 65) none,
  .op (.storeN 2 (.tmp 4) (.tmp 9)) none,
  .keep [0, 1, 2, 4]]
def r21_3 : List (Nat × G) := [(0, .op (.build 10 23 []) none),
  (0, .op (.faddr 11 0 (.tmp 4)) none),
  (1, .op (.load 12 (.tmp 11)) none),
  (0, .op (.faddr 13 1 (.tmp 4)) none),
  (1, .op (.load 14 (.tmp 13)) none),
  (2, .op (.storeN 6 (.tmp 0) (.tmp 10)) none),
  (2, .op (.store (.tmp 1) (.tmp 12)) none),
  (0, .op (.store (.tmp 2) (.tmp 14)) none),
  (0, .keep [])]
def c21 : C := (.seq (.region r21_1) (.cond (.tmp 7) (.seq (.region r21_2) (.regionW r21_3)) .skip))
def x21 := PLift.up (andx (ux Tryd.prog r21_1.eq_1) (andx (ux Tryd.prog r21_2.eq_1) (uw Tryd.prog r21_3.eq_1)))
theorem low21 : (match Tryd.f21.body with | some (.seq _ c) => lowerC Tryd.prog 15 (fun i => List.lookup i [(3, .fin [(0, 0), (1, 0), (2, 1), (3, 0), (4, 1), (5, 2), (6, 2), (7, 0)])]) c | _ => none) = some c21.erase := by kernel_rfl
theorem enter21 {args : List Value} {u u' : FrameMode} {v : Value} {w : World} {R : Ending → FrameMode → World → Prop} (ha : args.length ≤ 15) (hu : (∃ older, u = .panicking ({ v, recovered := false } :: older) ∧ u' = .panicking ({ v, recovered := true } :: older)) ∨ (u = .returning ∧ u' = .returning ∧ v = .nilIface)) (h : vc Tryd.prog c21 (dPost R u') ((3, v) :: (5, v) :: argEnv 0 args) w) : CallsD Tryd.prog 21 args.toArray u w R :=
  calls_recover Tryd.func21 rfl rfl low21 rfl ha rfl rfl rfl rfl rfl rfl (by decide) (by decide) hu h
def gp0 : List G := [.op (.alloc 2 23) none, .op (.alloc 3 3) none, .op (.alloc 4 27) none, .keep [0, 2, 3, 4]]
def gp2 : List G := [.op (.mov 7 (.tmp 0)) none, .op (.build 8 68 [(0, 1, .tmp 7)]) none, .op (.box 9 68 (.tmp 8)) none, .op (.mov 5 (.tmp 9)) none, .keep [2, 3, 4, 5]]
def gp3 : List G := [.op (.mov 10 (.tmp 5)) none, .op (.call (some 11) 22 [(.tmp 10)]) none, .op (.storeN 6 (.tmp 2) (.tmp 11)) none, .op (.store (.tmp 3) (.const (.int .i64 0))) none, .op (.store (.tmp 4) (.const (.int .i64 0))) none, .keep [2, 3, 4]]
def rsP : List RV := [.cN 2 6, .c1 3, .c1 4]
theorem enterParse {args : List Value} {w : World} {R : Ending → World → Prop} (ha : args.length ≤ 12)
    (h : vcOpsE Tryd.prog gp0 (fun e w => evs e [.tmp 2, .tmp 3, .tmp 4] fun cv => vcOpsE Tryd.prog gp2 (fun e w => vcOpsE Tryd.prog gp3 (fun e w => CallsD Tryd.prog 21 cv.toArray .returning w (doorPost rsP R e))
        (fun e ch w => CallsD Tryd.prog 21 cv.toArray (.panicking ch) w (doorPost rsP R e)) e w) (fun _ _ _ => False)
      ((6, .func (.func 21) #[] cv.toArray) :: e) w) (fun _ _ _ => False) (argEnv 0 args) w) : Calls Tryd.prog 13 args.toArray w R :=
  calls_defer (P := Tryd.prog) (f := 13) (fn := Tryd.f13) (g := 21) (n := 12) (gs0 := gp0) (gs2 := gp2) (gs3 := gp3) (rs := rsP) (args := args) (w := w) (R := R) (t := 6) (caps := [.tmp 2, .tmp 3, .tmp 4])
    (hf := Tryd.func13) (hn := rfl) (hb := rfl) (hl0 := by kernel_rfl) (hl2 := by kernel_rfl) (hl3 := by kernel_rfl) (h1 := rfl) (d1 := rfl) (g1 := rfl) (h2 := rfl) (d2 := rfl) (g2 := rfl) (ht := by decide) (hr := by kernel_rfl) (ha := ha) (hg := by kernel_rfl) (h := h)
end Go.Proofs.YtgibicifflfpfaaDoor
