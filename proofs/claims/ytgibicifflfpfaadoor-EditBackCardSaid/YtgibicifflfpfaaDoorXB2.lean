/-
  The engine: runs of append, copy, and of what turns texts and bytes. Conditions: none.
-/
import Derived.Test.YtgibicifflfpfaaDoorXB
import Derived.Lib.UnsafeStr
import Derived.Laws.BytesString
import Derived.Laws.IdiomStrings
set_option autoImplicit false
namespace Go.Proofs.YtgibicifflfpfaaDoor
namespace X
variable {P : Program}

theorem run_loadRow {w : World} {b o n : Nat} {C : Array Value} {T : TypeId} {fz : Nat × Nat} (hg : w.heap[b]? = some (.cells C T fz)) (hl : o + n ≤ C.size) :
    (loadCells ⟨b, o, none⟩ n).run P w = .ok (C.extract o (o + n)) w := by
  have hlen : (C.extract o (o + n)).toList.length = n := by simp; omega
  have := run_loadCells_list (P := P) w ⟨b, o, none⟩ (C.extract o (o + n)).toList (fun j v hv => by
    rw [add_none, cell_in hg]
    have hj : j < (C.extract o (o + n)).toList.length := by
      rcases Nat.lt_or_ge j (C.extract o (o + n)).toList.length with h1 | h1
      · exact h1
      · rw [List.getElem?_eq_none h1] at hv; cases hv
    rw [Array.getElem?_toList, Array.getElem?_extract] at hv
    rw [← hv, if_pos (by rw [hlen] at hj; omega)])
  rw [hlen] at this
  simpa only [Array.toArray_toList] using this

theorem LdN_row {w : World} {a : Addr} {n : Nat} {K : Array Value → Prop} (h : LdN w a n K) : ∃ C T fz, w.heap[a.block]? = some (.cells C T fz) ∧ a = ⟨a.block, a.off, none⟩ ∧ a.off + n ≤ C.size ∧ K (C.extract a.off (a.off + n)) := by
  unfold LdN at h
  split at h
  · rename_i C T fz hg
    obtain ⟨hs, hl, h⟩ := h
    exact ⟨C, T, fz, hg, by cases a; simp_all, hl, h⟩
  · exact h.elim

theorem run_take {w : World} {c n : Nat} {x : Value} {K : List Value → Prop} (h : Take w c n x K) :
    ∃ cs, (Builtin.firstCells c n x).run P w = .ok cs.toArray w ∧ (Builtin.firstCells c n x).run P w.drew = .ok cs.toArray w.drew ∧ K cs := by
  unfold Take at h
  split at h
  · rename_i a l cap
    obtain ⟨C, T, fz, hg, ha, hl, hk⟩ := LdN_row h
    refine ⟨_, ?_, ?_, hk⟩
    · have := run_loadRow (P := P) hg hl
      rw [← ha] at this
      rw [Array.toArray_toList]; exact this
    · have hg' : w.drew.heap[a.block]? = some (.cells C T fz) := hg
      have := run_loadRow (P := P) hg' hl
      rw [← ha] at this
      rw [Array.toArray_toList]; exact this
  · obtain ⟨rfl, h⟩ := h
    exact ⟨[], rfl, rfl, h⟩
  · rename_i s
    obtain ⟨rfl, hn, h⟩ := h
    refine ⟨_, ?_, ?_, h⟩ <;>
    · simp only [Builtin.firstCells, Sem.run_pure]
      congr 1
      apply Array.ext'
      simp [ByteArray.extract, ByteArray.copySlice]
  · exact h.elim

theorem Slc1_iff {x : Value} {K : Option Addr → Nat → Nat → Prop} (h : Slc1 x K) : ∃ a n c, x = .slice a n c ∧ K a n c := by
  unfold Slc1 at h
  split at h
  · exact ⟨_, _, _, rfl, h⟩
  · exact h.elim
theorem Strg1_iff {x : Value} {K : ByteArray → Prop} (h : Strg1 x K) : ∃ s, x = .string s ∧ K s := by
  unfold Strg1 at h
  split at h
  · exact ⟨_, rfl, h⟩
  · exact h.elim
theorem run_lenOf {x : Value} {K : Nat → Prop} (h : Len1 x K) : ∃ n, (∀ w : World, (Builtin.lenOf x).run P w = .ok n w) ∧ K n := by
  unfold Len1 at h
  split at h
  · exact ⟨_, fun _ => rfl, h⟩
  · exact ⟨_, fun _ => rfl, h⟩
  · exact h.elim

theorem run_StO {w : World} {a : Option Addr} {i : Nat} {vs : List Value} {K : World → Prop} (h : StO w a i vs K) :
    ∃ w', (match a with | some a => storeCells (a.add i) vs | none => pure () : Sem Unit).run P w = .ok () w' ∧ K w' := by
  unfold StO at h
  split at h
  · rename_i a
    unfold StN at h
    split at h
    · rename_i C T fz hg
      obtain ⟨hs, hl, hf, h1, h⟩ := h
      have ha : a.add i = ⟨(a.add i).block, (a.add i).off, none⟩ := by cases hh : a.add i; simp_all
      refine ⟨_, ?_, h⟩
      have := run_storeCells_fz P (a.add i).block (a.add i).off T fz vs 0 C w hg (by simpa using hf) (by simpa using hl) h1
      rw [← ha] at this
      simpa using this
    · exact h.elim
  · obtain ⟨rfl, h⟩ := h
    exact ⟨w, rfl, h⟩

theorem one_cell {v : Value} (h : one v = true) : v.oneCell' = true := by cases v <;> simp_all [one, Value.oneCell']

theorem run_append {t u ty el : TypeId} (ht : P.underlying t = some (.slice el)) (hu : (∃ e', P.underlying u = some (.slice e')) ∨ P.underlying u = some .string) (hz : ((P.info? el).bind (·.zero)).isSome = true) {w : World} {s x : Value} {K : Value → World → Prop}
    (h : AppVC P el (P.cellsOf el) (P.bytesOf el) w s x K) : ∃ r w', (Builtin.append_ #[t, u] ty #[s, x]).run P w = .ok r w' ∧ K r w' := by
  obtain ⟨z, hz'⟩ := Option.isSome_iff_exists.1 hz
  obtain ⟨i, hi, hiz⟩ := Option.bind_eq_some_iff.1 hz'
  have hc : P.cellsOf el = i.size := by simp [Program.cellsOf, hi]
  have hb : P.bytesOf el = i.bytes := by simp [Program.bytesOf, hi]
  have hzc : zcells P el = z.cells := by simp [zcells, hi, hiz]
  rw [hc, hb] at h
  obtain ⟨base, len, cap, hx, h2⟩ := Slc1_iff h
  subst hx
  obtain ⟨n, hn, h3⟩ := run_lenOf (P := P) h2
  obtain ⟨new, hnew, hnewD, h1, hroom, hgrow⟩ := run_take (P := P) h3
  have hkind : ∀ (w : World), (underlying u).run P w = .ok (match P.underlying u with | some d => d | none => .invalid) w := by
    intro w
    rcases hu with ⟨e', hu⟩ | hu <;> rw [run_underlying hu w, hu]
  by_cases hle : len + n ≤ cap
  · obtain ⟨w', hst, hk⟩ := run_StO (P := P) (hroom hle)
    refine ⟨_, w', ?_, hk⟩
    cases base with
    | none =>
      simp only [Sem.run_pure] at hst
      rcases hu with ⟨e', hu⟩ | hu <;> simp [Builtin.append_, run_underlying ht, run_underlying hu, sizeOf, typeInfo, hi, hn, hle, hnew] <;> simpa using hst
    | some a =>
      simp only at hst
      rcases hu with ⟨e', hu⟩ | hu <;> simp [Builtin.append_, run_underlying ht, run_underlying hu, sizeOf, typeInfo, hi, hn, hle, hnew, hst]
  · obtain ⟨g1, g2, g3⟩ := hgrow (by omega)
    obtain ⟨old, hold, holdD, hk⟩ := run_take (P := P) g3
    have hfit : Builtin.nextslicecap (len + n) cap * i.bytes ≤ 281474976710656 := growslice_fits (by omega) (by omega)
    have hm : len + n ≤ grownCap w (len + n) cap el := by unfold grownCap; simp [Question.cut]
    refine ⟨_, _, ?_, hk _ hm⟩
    have h63' : ¬ (9223372036854775807 < ((len : Int) + (n : Int))) := by omega
    have h48' : ¬ (281474976710656 < Builtin.nextslicecap (len + n) cap * i.bytes) := by omega
    rcases hu with ⟨e', hu⟩ | hu <;>
      (simp [Builtin.append_, run_underlying ht, run_underlying hu, sizeOf, typeInfo, zeroValue, hi, hiz, hn, hle, h63', h48', Question.forced, hnewD, holdD, newRow, grownCap, hzc]
       congr 2
       apply Array.ext'
       simp [List.append_assoc])

theorem run_copy {t u ty el : TypeId} (ht : P.underlying t = some (.slice el)) (hi : hasInfo P el = true) {w : World} {x y : Value} {K : Nat → World → Prop}
    (h : Slc1 x fun base dl _ => Len1 y fun sl => Take w (P.cellsOf el) (min sl dl) y fun cs => (∀ v ∈ cs, one v = true) ∧ StO w base 0 cs fun w' => K (min sl dl) w') :
    ∃ n w', (Builtin.copy_ #[t, u] ty #[x, y]).run P w = .ok (.int .i64 (n : Nat)) w' ∧ K n w' := by
  obtain ⟨base, dl, cap, hx, h2⟩ := Slc1_iff h
  subst hx
  obtain ⟨sl, hs, h3⟩ := run_lenOf (P := P) h2
  obtain ⟨cs, hcs, _, h1, h4⟩ := run_take (P := P) h3
  obtain ⟨w', hst, hk⟩ := run_StO (P := P) h4
  refine ⟨_, w', ?_, hk⟩
  have hmin : Nat.min sl dl = min sl dl := rfl
  have hadd : ∀ a : Addr, a.add 0 = a := fun a => by unfold Addr.add; simp
  cases base with
  | none =>
    simp only [Sem.run_pure] at hst
    simp [Builtin.copy_, run_underlying ht, run_sizeOf hi, goInt, hs, hmin, hcs]
    simpa using hst
  | some a =>
    simp only [hadd] at hst
    simp [Builtin.copy_, run_underlying ht, run_sizeOf hi, goInt, hs, hmin, hcs, hst]

theorem run_conSB {src dst el : TypeId} (hs : P.underlying src = some .string) (hd : P.underlying dst = some (.slice el)) (he : P.underlying el = some (.int .u8)) (s : ByteArray) {w : World} {K : Value → World → Prop}
    (h : ∀ m, s.size ≤ m → K (.slice (some ⟨w.heap.size, 0, none⟩) s.size m) (w.drew.alloc (.cells (bytesRow s m) el ((bytesRow s m).size, (bytesRow s m).size + 1)))) :
    ∃ r w', (convert src dst (.string s)).run P w = .ok r w' ∧ K r w' :=
  ⟨_, _, run_bytes_of_string w src dst el s hs hd he, h (grownCap w s.size 0 el) (by unfold grownCap; simp [Question.cut])⟩

theorem u8s_spec : ∀ (cs : List Value) (l : List UInt8), u8s cs = some l → ∃ ns : List Int, cs = ns.map (Value.int .u8) ∧ ∀ r : ByteArray, ns.foldl (fun r n => r.push (UInt8.ofNat n.toNat)) r = ⟨r.data ++ l.toArray⟩
  | [], l, h => by simp only [u8s, Option.some.injEq] at h; subst h; exact ⟨[], rfl, fun r => by simp⟩
  | c :: cs, l, h => by
    unfold u8s at h
    split at h
    · rename_i h0; cases h0
    · rename_i n r h0
      simp only [List.cons.injEq] at h0
      obtain ⟨rfl, rfl⟩ := h0
      simp only [Option.map_eq_some_iff] at h
      obtain ⟨l', hl', rfl⟩ := h
      obtain ⟨ns, h1, h2⟩ := u8s_spec cs l' hl'
      refine ⟨n :: ns, by rw [h1]; rfl, fun r => ?_⟩
      rw [List.foldl_cons, h2]
      simp [ByteArray.push]
    · cases h

theorem run_conBS {src dst el : TypeId} (hs : P.underlying src = some (.slice el)) (he : P.underlying el = some (.int .u8)) (hd : P.underlying dst = some .string) {u : Value} {w : World} {K : ByteArray → Prop}
    (h : Slc1 u fun _ n _ => Take w 1 n u fun cs => Bytes1 cs K) : ∃ s, (convert src dst u).run P w = .ok (.string s) w ∧ K s := by
  obtain ⟨a, n, c, hx, h2⟩ := Slc1_iff h
  subst hx
  unfold Take at h2
  split at h2
  · rename_i a' l' cap' hx
    simp only [Value.slice.injEq] at hx
    obtain ⟨rfl, rfl, rfl⟩ := hx
    obtain ⟨C, T, fz, hg, ha, hl, hk⟩ := LdN_row h2
    unfold Bytes1 at hk
    split at hk
    · rename_i l hu
      obtain ⟨ns, h1, h3⟩ := u8s_spec _ l hu
      refine ⟨_, ?_, hk⟩
      rw [run_convert_bytes_string w src dst el (some a') n c hs he hd]
      have hld := run_loadRow (P := P) hg hl
      rw [← ha, Nat.mul_one] at hld
      have e1 : (C.extract a'.off (a'.off + n)) = (ns.map (Value.int .u8)).toArray := by
        rw [← h1, Nat.mul_one, Array.toArray_toList]
      rw [e1] at hld
      rw [run_bytesToString w a' n c ns hld, h3]
      have he0 : ByteArray.empty.data = #[] := rfl
      rw [he0]; simp
    · exact hk.elim
  · rename_i hx
    simp only [Value.slice.injEq] at hx
    obtain ⟨rfl, rfl, rfl⟩ := hx
    obtain ⟨rfl, hk⟩ := h2
    refine ⟨⟨#[]⟩, ?_, hk⟩
    rw [run_convert_bytes_string w src dst el none 0 c hs he hd]
    rfl
  · rename_i hx; cases hx
  · exact h2.elim

theorem run_mkSl {t el : TypeId} (hu : P.underlying t = some (.slice el)) (hz : ((P.info? el).bind (·.zero)).isSome = true) (hc : P.cellsOf el ≠ 0) {x y : Value} {k1 k2 : IntKind} {n m : Int} (hx : x = .int k1 n) (hy : y = .int k2 m)
    (g1 : 0 ≤ n) (g2 : n ≤ m) (g3 : m ≤ 4611686018427387904) (g4 : m * P.bytesOf el ≤ 281474976710656) (w : World) :
    (Instr.makeSlice t x y).run P w = .ok (.slice (some ⟨w.heap.size, 0, none⟩) n.toNat m.toNat) (w.alloc (.cells (zrep (zcells P el) (m.toNat * P.cellsOf el)) el)) := by
  obtain ⟨z, hz'⟩ := Option.isSome_iff_exists.1 hz
  obtain ⟨i, hi, hiz⟩ := Option.bind_eq_some_iff.1 hz'
  have hcs : P.cellsOf el = i.size := by simp [Program.cellsOf, hi]
  have hbs : P.bytesOf el = i.bytes := by simp [Program.bytesOf, hi]
  have hzc : zcells P el = z.cells := by simp [zcells, hi, hiz]
  rw [hbs] at g4
  rw [hcs] at hc
  have w1 : IntKind.i64.wrap n = n := by simp only [IntKind.wrap, IntKind.bits, IntKind.signed]; simp; omega
  have w2 : IntKind.i64.wrap m = m := by simp only [IntKind.wrap, IntKind.bits, IntKind.signed]; simp; omega
  have t1 : (decide (m < 0) || decide ((i.bytes : Int) * m > 2 ^ 48)) = false := by
    rw [Int.mul_comm] at g4
    simp only [Bool.or_eq_false_iff, decide_eq_false_iff_not]; omega
  have t2 : decide (n < 0) = false := by simp; omega
  have t3 : decide (n > m) = false := by simp; omega
  subst hx; subst hy
  simp only [Instr.makeSlice, Sem.run_bind, run_underlying hu, Result.andThen_ok, asInt, asIntOf, Sem.run_pure, typeInfo, run_program, hi, w1, w2, t1, t2, t3, Bool.or_false, Bool.or_self, Bool.false_eq_true, ↓reduceIte, run_askRoom, sizeOf, hcs]
  by_cases hn : m.toNat * i.size = 0
  · simp only [hn, ↓reduceIte, Sem.run_pure, Result.andThen_ok, newRow, Sem.run_bind, run_newObj, zrep, show Array.range 0 = #[] from rfl, Array.map_empty]; rfl
  · simp [hn, newRow, zrep, zeroValue, typeInfo, hi, hiz, hzc]

theorem run_uStr {pt it ty : TypeId} {u : Value} {m : Int} {w : World} {K : ByteArray → World → Prop} (h : UStrVC P pt w u m K) :
    ∃ s w', (Builtin.unsafeString_ #[pt, it] ty #[u, .int .i64 m]).run P w = .ok (.string s) w' ∧ K s w' := by
  unfold UStrVC at h
  split at h
  · rename_i a
    rcases h with ⟨rfl, hk⟩ | ⟨g, C, el, l, h0, h63, rfl, hg, hp, hc, hl, hcs, hk⟩
    · exact ⟨_, w, Lib.run_unsafeString_none w pt it ty a, hk⟩
    · have hlen : l.length = m.toNat := by
        have := congrArg List.length hcs
        rw [List.length_take, List.length_map, Array.length_toList] at this
        omega
      refine ⟨_, _, ?_, hk⟩
      have hm : m = (l.length : Int) := by omega
      rw [hm]
      have e1 : ((l.length : Int)).toNat = l.length := Int.toNat_natCast _
      rw [e1]
      refine Lib.run_unsafeString_row w pt it ty el hp hc g C.size (by simp [World.shape?, hg]) l (by intro h; rw [h] at hm; simp at hm; omega) (by omega) (by omega) ?_
      intro j x hj
      rw [add_none, Nat.zero_add, cell_in hg]
      have hjl : j < l.length := by
        rcases Nat.lt_or_ge j l.length with h | h
        · exact h
        · rw [List.getElem?_eq_none h] at hj; cases hj
      have h2 := congrArg (fun z : List Value => z[j]?) hcs
      simp only [List.getElem?_take, List.getElem?_map, hj, Option.map_some] at h2
      rw [if_pos (by omega), Array.getElem?_toList] at h2
      exact h2
  · exact h.elim

end X
end Go.Proofs.YtgibicifflfpfaaDoor
