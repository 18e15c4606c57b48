/-
  For every input, WireReplies returns true, and the input reads as it did; the listed variables are those of the program's text. Conditions: none.
-/
import Derived.Test.YtdggcoaabohlmaaDoorR0
import Derived.Test.YtdggcoaabohlmaaDoorC17
import Derived.Test.YtdggcoaabohlmaaDoorXU
set_option autoImplicit false
set_option linter.unusedVariables false
namespace Go.Proofs.YtdggcoaabohlmaaDoor
namespace RR
open X
open Go.ChangeShapes Go.WideShapes Go.ChangeAt Go.RowKit

theorem room : (∀ t ∈ Tryd.f3.params.toList, Tryd.prog.readableRec t = true ∧ t < Tryd.prog.types.size) := by
  have h : (Tryd.f3.params.toList.all fun t => Tryd.prog.readableRec t && decide (t < Tryd.prog.types.size)) = true := by kernel_rfl
  intro t ht
  have := List.all_eq_true.1 h t ht
  simpa using this
def fR : List (TypeId × Nat) := [(3, 0), (22, 1), (3, 2), (3, 3), (3, 4), (3, 5), (9, 6), (23, 7)]
def fE : List (TypeId × Nat) := [(3, 0), (3, 1), (9, 2)]
theorem isR : structIs Tryd.prog 25 fR = true := by kernel_rfl
theorem isE : structIs Tryd.prog 52 fE = true := by kernel_rfl
theorem cR : Tryd.prog.cellsOf 25 = 8 := by kernel_rfl
theorem cE : Tryd.prog.cellsOf 52 = 3 := by kernel_rfl
theorem c3 : Tryd.prog.cellsOf 3 = 1 := by kernel_rfl
theorem c22 : Tryd.prog.cellsOf 22 = 1 := by kernel_rfl
theorem c9 : Tryd.prog.cellsOf 9 = 1 := by kernel_rfl
theorem c23 : Tryd.prog.cellsOf 23 = 1 := by kernel_rfl
section
variable {H : Type} {enc : TypeId × Value → H} {w : World} {base : Nat} {sp : Nat → Bool} {held : Bool}
theorem len3 (l : List Value) (h : l.length = 3) : ∃ a b c, l = [a, b, c] := by
  match l, h with
  | [a, b, c], _ => exact ⟨a, b, c, rfl⟩
theorem len8 (l : List Value) (h : l.length = 8) : ∃ a b c d e f g i, l = [a, b, c, d, e, f, g, i] := by
  match l, h with
  | [a, b, c, d, e, f, g, i], _ => exact ⟨a, b, c, d, e, f, g, i, rfl⟩
set_option maxRecDepth 100000 in
theorem open_ent {x : Array Value} {m : Nat} {y : DataW H × List MemPlace} (hs : x.size = 3) (h : DataW.trod enc Tryd.prog w base sp held m 52 x.toList = some y) : ∃ a, x = entC a := by
  obtain ⟨u0, u1, u2, e⟩ := len3 x.toList (by simpa using hs)
  rw [e] at h
  obtain ⟨_, n, hf⟩ := open_fields isE h
  suffices g : ∃ a, [u0, u1, u2] = (entC a).toList by
    obtain ⟨a, g⟩ := g
    exact ⟨a, Array.ext' (e.trans g)⟩
  · clear e h hs
    obtain ⟨y0, h0⟩ := hf 0 _ _ rfl
    obtain ⟨y1, h1⟩ := hf 1 _ _ rfl
    obtain ⟨y2, h2⟩ := hf 2 _ _ rfl
    rw [c3] at h0 h1
    rw [c9] at h2
    obtain ⟨a0, e0, _, _⟩ := DataW.trod_int Tryd.underlying3 h0
    obtain ⟨a1, e1, _, _⟩ := DataW.trod_int Tryd.underlying3 h1
    obtain ⟨s, e2, _, _⟩ := DataW.trod_string Tryd.underlying9 h2
    obtain ⟨nm, rfl⟩ := ba_of s
    have e0 : [u0] = _ := e0
    have e1 : [u1] = _ := e1
    have e2 : [u2] = _ := e2
    obtain ⟨rfl, _⟩ := List.cons.inj e0
    obtain ⟨rfl, _⟩ := List.cons.inj e1
    obtain ⟨rfl, _⟩ := List.cons.inj e2
    exact ⟨⟨a0, a1, nm⟩, rfl⟩
set_option maxRecDepth 100000 in
theorem open_rpl {v : Value} {d : DataW H} {p : List MemPlace} {r : Reach} {b0 : Nat} (hok : Value.okWide Tryd.prog w r b0 25 v) (h : DataW.Trod enc Tryd.prog w base sp held 25 v d p) :
    ∃ r u, v = .agg (rplC r u) ∧ Sl w w.heap.size u 3 (r.es.map entC) := by
  obtain ⟨cs, rfl, hsz⟩ := open_agg isR hok
  obtain ⟨fuel, hf0⟩ := h
  have hf0 : DataW.trod enc Tryd.prog w base sp held fuel 25 cs.toList = some (d, p) := hf0
  rw [cR] at hsz
  obtain ⟨u0, u1, u2, u3, u4, u5, u6, u7, e⟩ := len8 cs.toList (by simpa using hsz)
  rw [e] at hf0
  obtain ⟨_, n, hf⟩ := open_fields isR hf0
  suffices g : ∃ r u, [u0, u1, u2, u3, u4, u5, u6, u7] = (rplC r u).toList ∧ Sl w w.heap.size u 3 (r.es.map entC) by
    obtain ⟨r, u, g, g2⟩ := g
    exact ⟨r, u, by rw [Array.ext' (e.trans g)], g2⟩
  · clear e hf0 hsz
    obtain ⟨y0, h0⟩ := hf 0 _ _ rfl
    obtain ⟨y1, h1⟩ := hf 1 _ _ rfl
    obtain ⟨y2, h2⟩ := hf 2 _ _ rfl
    obtain ⟨y3, h3⟩ := hf 3 _ _ rfl
    obtain ⟨y4, h4⟩ := hf 4 _ _ rfl
    obtain ⟨y5, h5⟩ := hf 5 _ _ rfl
    obtain ⟨y6, h6⟩ := hf 6 _ _ rfl
    obtain ⟨⟨d7, p7⟩, h7⟩ := hf 7 _ _ rfl
    rw [c3] at h0 h2 h3 h4 h5
    rw [c22] at h1
    rw [c9] at h6
    rw [c23] at h7
    obtain ⟨a0, e0, _, _⟩ := DataW.trod_int Tryd.underlying3 h0
    obtain ⟨a1, e1, _, _⟩ := DataW.trod_int Tryd.underlying22 h1
    obtain ⟨a2, e2, _, _⟩ := DataW.trod_int Tryd.underlying3 h2
    obtain ⟨a3, e3, _, _⟩ := DataW.trod_int Tryd.underlying3 h3
    obtain ⟨a4, e4, _, _⟩ := DataW.trod_int Tryd.underlying3 h4
    obtain ⟨a5, e5, _, _⟩ := DataW.trod_int Tryd.underlying3 h5
    obtain ⟨s, e6, _, _⟩ := DataW.trod_string Tryd.underlying9 h6
    obtain ⟨bd, rfl⟩ := ba_of s
    have h7 : DataW.trod enc Tryd.prog w base sp held n 23 [u7] = some (d7, p7) := h7
    obtain ⟨xs, hS, _, hx⟩ := open_sl Tryd.underlying23 (by rw [cE]; decide) h7
    rw [cE] at hS hx
    obtain ⟨es, rfl⟩ := map_of (f := entC) xs fun x hxm => by
      obtain ⟨hs, m, y, hy⟩ := hx x hxm
      exact open_ent hs hy
    have e0 : [u0] = _ := e0
    have e1 : [u1] = _ := e1
    have e2 : [u2] = _ := e2
    have e3 : [u3] = _ := e3
    have e4 : [u4] = _ := e4
    have e5 : [u5] = _ := e5
    have e6 : [u6] = _ := e6
    obtain ⟨rfl, _⟩ := List.cons.inj e0
    obtain ⟨rfl, _⟩ := List.cons.inj e1
    obtain ⟨rfl, _⟩ := List.cons.inj e2
    obtain ⟨rfl, _⟩ := List.cons.inj e3
    obtain ⟨rfl, _⟩ := List.cons.inj e4
    obtain ⟨rfl, _⟩ := List.cons.inj e5
    obtain ⟨rfl, _⟩ := List.cons.inj e6
    exact ⟨⟨a0, a1, a2, a3, a4, a5, bd, es⟩, u7, rfl, hS⟩
end
set_option maxRecDepth 100000 in
theorem lifted (os : Os) (started : os.Started) (H : Type) (enc : TypeId × Value → H) :
    ReturnsInHanded {} Tryd.checked os 3 .any (fun w args => (Rows.wireRepliesSpec.pre enc Tryd.prog Tryd.f3 Rows.wireRepliesRow.domain false w args ∧ laidMet Tryd.prog laidL w) ∧ sizedMet enc Tryd.prog Tryd.f3 (OpenSpec.ofChange Rows.wireRepliesSpec) false w args)
      (Rows.wireRepliesSpec.post enc Tryd.prog Tryd.f3 false true false false) := by
  refine law_laidX (C := Tryd.checked) (fn := Tryd.f3) (tb := 4) (X := fun w _ => laidMet Tryd.prog laidL w) (fun _ _ _ hh h => h.of_heap hh) own started (by kernel_rfl) Tryd.func3
    (ChangeSpec.witness_at (enc := enc) (C := Tryd.checked) (os := os) (X := fun w _ => laidMet Tryd.prog laidL w) false (World.laidAll Tryd.prog os laidL) #[.agg (rplC ⟨0, 0, 0, 0, 0, 0, [], []⟩ (.slice none 0 0))] 8 (World.laidAll_os _ _ _) (by kernel_rfl) (by kernel_rfl) (by kernel_rfl) (by kernel_rfl) (by kernel_rfl) (laidMet_laidAll _ (fits_l os) (ifaces_l os)))
    rfl laidOut room rfl Tryd.underlying4 ?_
  intro W base args ds ps hval hA _
  rw [show Tryd.f3.params.toList = [25] by rw [Tryd.params3]] at hA
  rw [Tryd.params3] at hval
  obtain ⟨v0, vs0, d0, ds0, p0, q0, hargs, rfl, rfl, h0, r0⟩ := trodAll_cons hA
  obtain ⟨rfl, rfl, rfl⟩ := trodAll_nil r0
  obtain rfl : args = #[v0] := by cases args; simp_all
  obtain ⟨r, u, rfl, hl⟩ := open_rpl (hval 0 _ v0 rfl rfl) h0
  exact ⟨rfl, rfl, rfl, WireReplies_any W r u hl⟩

theorem row : Rows.WireRepliesSaid :=
  OpenClaim.holds_of_wide 3 Tryd.f3 rfl rfl rfl rfl rfl rfl rfl ⟨rfl, rfl, rfl, rfl, rfl⟩ rfl rfl rfl rfl rfl (by kernel_rfl) Tryd.func3 (by kernel_rfl)
    (of_decide_eq_true (by kernel_rfl)) (by unfold Func.isWrapper; first | (rw [if_pos (by decide +kernel)]; kernel_rfl) | (rw [if_neg (by decide +kernel)]; exact ⟨rfl, rfl⟩))
    (fun os started H enc _ => lifted os started H enc)
theorem proved : Rows.WireRepliesCardSaid :=
  Claim7.holds_tied_plain_at .later [] [.data, .data, .pinned] true (true, "5aad29c3b2070161844c6b6f89ac3f7bb47b963a50d27ebc6c9861630a80bdfd") true
    row (fun _ h => by cases h) (by kernel_rfl) (fun _ h => by cases h) wireReplies_row_tie rfl ⟨rfl, rfl⟩ (by kernel_rfl) rfl
    (fun f fn hf hfn => by
      obtain rfl : f = 3 := Option.some.inj ((show Tryd.prog.funcNamed "aquatint/aquatintlaw24.WireReplies" = some 3 by kernel_rfl).symm.trans hf) |>.symm
      obtain rfl : fn = Tryd.f3 := (Option.some.inj (Tryd.func3.symm.trans hfn)).symm
      refine ⟨by kernel_rfl, fun j t ht => ?_⟩
      have h : (Tryd.f3.params.toList.all fun t => Tryd.prog.wantsStandIn t == false) = true := by kernel_rfl
      have := List.all_eq_true.1 h t (Array.mem_toList_iff.2 (Array.mem_of_getElem? ht))
      exact (show Tryd.prog.wantsStandIn t = false by simpa using this))
    (by kernel_rfl)
#print axioms proved
end RR
end Go.Proofs.YtdggcoaabohlmaaDoor
