/-
  What the rows of this seat use. Conditions: none.
-/
import Derived.Test.YtgibicifflfpfaaDoorRows
import Derived.Test.YtgibicifflfpfaaDoorCards
import Derived.Test.YtgibicifflfpfaaDoorTie
import Derived.Test.YtgibicifflfpfaaDoorXU
import Derived.Test.YtgibicifflfpfaaDoorEL1
import Derived.Lay
import Derived.SevenTiedAt
import Derived.Lib.LaidU8
set_option autoImplicit false
set_option linter.unusedVariables false
namespace Go.Proofs.YtgibicifflfpfaaDoor
open X
open Go.ChangeShapes Go.WideShapes Go.ChangeAt Go.RowKit

theorem laidOut : laidOutB Tryd.prog = true := by kernel_rfl
theorem own : ownKnob Tryd.prog.godebug = none := by kernel_rfl
def laidL : List (String × DataW Unit) := [("aquatint/turn.names", Rows.laid_aquatint_turn_names), ("unicode/utf8.acceptRanges", Rows.laid_unicode_utf8_acceptRanges), ("unicode/utf8.first", Rows.laid_unicode_utf8_first)]
def laid1 : List (String × DataW Unit) := [("aquatint/turn.names", Rows.laid_aquatint_turn_names)]
set_option maxRecDepth 100000 in
theorem fits_l (os : Os) : (World.holding Tryd.prog os ⟨#[], #[], []⟩).layFits Tryd.prog laidL [] = true := by kernel_rfl
set_option maxRecDepth 100000 in
theorem ifaces_l (os : Os) : (World.holding Tryd.prog os ⟨#[], #[], []⟩).layIfaces Tryd.prog laidL (World.laidAll Tryd.prog os laidL) = true := by kernel_rfl
set_option maxRecDepth 100000 in
theorem fits_1 (os : Os) : (World.holding Tryd.prog os ⟨#[], #[], []⟩).layFits Tryd.prog laid1 [] = true := by kernel_rfl
set_option maxRecDepth 100000 in
theorem ifaces_1 (os : Os) : (World.holding Tryd.prog os ⟨#[], #[], []⟩).layIfaces Tryd.prog laid1 (World.laidAll Tryd.prog os laid1) = true := by kernel_rfl

/-! what is laid -/
theorem first_eq : Rows.laid_unicode_utf8_first = Lib.firstData := by kernel_rfl
theorem accept_eq : (Rows.laid_unicode_utf8_acceptRanges : DataW Unit) = Lib.acceptData := by kernel_rfl
theorem ut_of {w : World} (h : laidMet Tryd.prog laidL w) : UT w :=
  utf8Tabs_of_reads (ρ := shLays260_ren) shLays260 ⟨by kernel_rfl, by kernel_rfl, by kernel_rfl, by kernel_rfl, by kernel_rfl, by kernel_rfl, by kernel_rfl⟩ (first_eq ▸ Lib.laidMet.reads h (.tail _ (.tail _ (.head _)))) (accept_eq ▸ Lib.laidMet.reads h (.tail _ (.head _)))
theorem var_row {P : Program} {w : World} {n : String} {g : Nat} {cs : Array Value} (hg : P.globalNamed n = some g) (h : w.var? P n = some cs) : Row w g cs := by
  unfold World.var? at h
  rw [hg] at h
  simp only [Option.bind_some] at h
  split at h
  · rename_i C T fz hh
    simp only [Option.some.injEq] at h
    subst h
    exact ⟨T, fz, hh⟩
  · cases h
theorem tn_of {w : World} {l : List (String × DataW Unit)} (h : laidMet Tryd.prog l w) (hm : ("aquatint/turn.names", Rows.laid_aquatint_turn_names) ∈ l) : TN w := by
  obtain ⟨g, t, cs, fuel, p, hg, hty, hvar, hd⟩ := Lib.laidMet.reads h hm
  have hg0 : Tryd.prog.globalNamed "aquatint/turn.names" = some 0 := by kernel_rfl
  obtain rfl := Option.some.inj (hg0.symm.trans hg)
  have hr := var_row hg hvar
  have hty0 : (Tryd.prog.globals[0]?).map (·.type) = some 79 := by kernel_rfl
  obtain rfl := Option.some.inj (hty0.symm.trans hty)
  obtain ⟨xs, m, _, hx, hl, hxl, hxs⟩ := DataW.trod_array Tryd.underlying79 hd
  have hc8 : Tryd.prog.cellsOf 79 = 8 := by kernel_rfl
  have hc1 : Tryd.prog.cellsOf 9 = 1 := by kernel_rfl
  rw [hc8] at hl
  rw [hc1] at hxs
  have hxm : xs.map (·.1) = turnW.map fun s => (DataW.lit (.string s) : DataW Unit) := by
    have := congrArg Prod.fst hx
    simp only [Rows.laid_aquatint_turn_names, DataW.agg.injEq] at this
    exact this.symm
  have key : cs.toList = namesC.toList := by
    apply List.ext_getElem?
    intro i
    rcases Nat.lt_or_ge i 8 with hi | hi
    · have h1 := hxs i hi
      rw [Nat.mul_one] at h1
      obtain ⟨y, hy⟩ : ∃ y, xs[i]? = some y := ⟨_, List.getElem?_eq_getElem (by omega)⟩
      rw [hy] at h1
      obtain ⟨s, e1, e2, _⟩ := DataW.trod_string Tryd.underlying9 h1
      have e3 := congrArg (fun l => l[i]?) hxm
      simp only [List.getElem?_map, hy, Option.map_some] at e3
      have e4 : cs.toList[i]? = some (.string s) := by
        have := congrArg (fun l => l[0]?) e1
        simpa using this
      rw [e4]
      have hi8 : i < turnW.length := hi
      rw [List.getElem?_eq_getElem hi8, Option.map_some, e2] at e3
      simp only [Option.some.injEq, DataW.lit.injEq, Lit.string.injEq] at e3
      show some (Value.string s) = (turnW.map fun s => Value.string (ba s))[i]?
      rw [List.getElem?_map, List.getElem?_eq_getElem hi8, Option.map_some, ← e3]
      obtain ⟨l, rfl⟩ := ba_of s
      rw [ba_list]
    · rw [List.getElem?_eq_none (by omega), List.getElem?_eq_none (by simpa [namesC, turnW] using hi)]
  have : cs = namesC := Array.ext' key
  subst this
  exact hr
/-! an edit that came in -/
def fEd : List (TypeId × Nat) := [(3, 0), (3, 1), (3, 2), (3, 3), (3, 4), (9, 5)]
theorem isEd : structIs Tryd.prog 23 fEd = true := by kernel_rfl
theorem cEd : Tryd.prog.cellsOf 23 = 6 := by kernel_rfl
theorem ci : Tryd.prog.cellsOf 3 = 1 := by kernel_rfl
theorem cst : Tryd.prog.cellsOf 9 = 1 := by kernel_rfl
theorem len6 (l : List Value) (h : l.length = 6) : ∃ a b c d e f, l = [a, b, c, d, e, f] := by
  match l, h with
  | [a, b, c, d, e, f], _ => exact ⟨a, b, c, d, e, f, rfl⟩
set_option maxRecDepth 100000 in
theorem open_ed {H : Type} {enc : TypeId × Value → H} {w : World} {base : Nat} {sp : Nat → Bool} {held : Bool} {v : Value} {d : DataW H} {p : List MemPlace} {r : Reach} {b0 : Nat} (hok : Value.okWide Tryd.prog w r b0 23 v) (h : DataW.Trod enc Tryd.prog w base sp held 23 v d p) :
    ∃ e, v = .agg (edC e) ∧ EdOk e := by
  obtain ⟨cs, rfl, hsz⟩ := open_agg isEd hok
  obtain ⟨fuel, hf0⟩ := h
  have hf0 : DataW.trod enc Tryd.prog w base sp held fuel 23 cs.toList = some (d, p) := hf0
  rw [cEd] at hsz
  obtain ⟨u0, u1, u2, u3, u4, u5, e⟩ := len6 cs.toList (by simpa using hsz)
  rw [e] at hf0
  obtain ⟨_, n, hf⟩ := open_fields isEd hf0
  suffices g : ∃ x, [u0, u1, u2, u3, u4, u5] = (edC x).toList ∧ EdOk x by
    obtain ⟨x, g, g2⟩ := g
    exact ⟨x, by rw [Array.ext' (e.trans g)], g2⟩
  clear e hf0 hsz
  obtain ⟨y0, h0⟩ := hf 0 _ _ rfl
  obtain ⟨y1, h1⟩ := hf 1 _ _ rfl
  obtain ⟨y2, h2⟩ := hf 2 _ _ rfl
  obtain ⟨y3, h3⟩ := hf 3 _ _ rfl
  obtain ⟨y4, h4⟩ := hf 4 _ _ rfl
  obtain ⟨y5, h5⟩ := hf 5 _ _ rfl
  rw [ci] at h0 h1 h2 h3 h4
  rw [cst] at h5
  obtain ⟨a0, e0, _, w0⟩ := DataW.trod_int Tryd.underlying3 h0
  obtain ⟨a1, e1, _, w1⟩ := DataW.trod_int Tryd.underlying3 h1
  obtain ⟨a2, e2, _, w2⟩ := DataW.trod_int Tryd.underlying3 h2
  obtain ⟨a3, e3, _, w3⟩ := DataW.trod_int Tryd.underlying3 h3
  obtain ⟨a4, e4, _, w4⟩ := DataW.trod_int Tryd.underlying3 h4
  obtain ⟨s, e5, _, w5⟩ := DataW.trod_string Tryd.underlying9 h5
  obtain ⟨bd, rfl⟩ := ba_of s
  have e0 : [u0] = _ := e0
  have e1 : [u1] = _ := e1
  have e2 : [u2] = _ := e2
  have e3 : [u3] = _ := e3
  have e4 : [u4] = _ := e4
  have e5 : [u5] = _ := e5
  obtain ⟨rfl, _⟩ := List.cons.inj e0
  obtain ⟨rfl, _⟩ := List.cons.inj e1
  obtain ⟨rfl, _⟩ := List.cons.inj e2
  obtain ⟨rfl, _⟩ := List.cons.inj e3
  obtain ⟨rfl, _⟩ := List.cons.inj e4
  obtain ⟨rfl, _⟩ := List.cons.inj e5
  exact ⟨⟨a0, a1, a2, a3, a4, bd⟩, rfl, ⟨w0, w1, w2, w3, w4, w5⟩⟩
end Go.Proofs.YtgibicifflfpfaaDoor
