/-
  The engine: a region that draws its order, in which several operations that may change the world wait for nothing: each of them may come first. Conditions: none.
-/
import Derived.Test.YtgibicifflfpfaaDoorXE
set_option autoImplicit false
namespace Go.Proofs.YtgibicifflfpfaaDoor
namespace X
variable {ds : List Deferred}

/-- Rows; then either of two goes on. -/
inductive GT where
  | fin (l : List (Nat × G))
  | fork (l : List (Nat × G)) (a b : GT)
inductive Rep where
  | fin (l : List (Nat × Nat))
  | fork (l : List (Nat × Nat)) (a b : Rep)

def vcT (P : Program) (W : World → Prop) (t : GT) (K : Env → World → Prop) (pan : List PanicEntry → World → Prop) (e : Env) (w : World) : Prop :=
  match t with
  | .fin l => vcW P W l (fun _ => K) pan e w
  | .fork l a b => vcW P W l (fun W' e w => vcT P W' a K pan e w ∧ vcT P W' b K pan e w) pan e w

def GT.erase : GT → GT
  | .fin l => .fin (l.filter fun x => x.2.isOp)
  | .fork l a b => .fork (l.filter fun x => x.2.isOp) a.erase b.erase

def headL (l : List (Nat × Nat)) (h : List Nat) : List Nat := match l with | [] => h | (i, _) :: _ => [i]
def Rep.heads : Rep → List Nat
  | .fin l => headL l []
  | .fork l a b => headL l (a.heads ++ b.heads)
def Rep.len : Rep → Nat
  | .fin l => l.length
  | .fork l a _ => l.length + a.len
def Rep.has (i f : Nat) : Rep → Bool
  | .fin l => l.any fun p => p.1 == i && p.2 == f
  | .fork l a b => (l.any fun p => p.1 == i && p.2 == f) || a.has i f || b.has i f

def chkL (P : Program) (ops : Array Oper) (ck : Nat → Bool) (eh : List Nat) (ec : List Nat → Array Bool → Bool) : List (Nat × Nat) → List Nat → Array Bool → Bool
  | [], only, listed => ec only listed
  | (i, f) :: r, only, listed =>
    (Region.ready .any ops listed).contains i &&
    (if clsAt P ops i ≤ 1 then
      only == [i] && (List.range ops.size).all fun j => j == i || listed.getD j true || Ord ops i j ||
        (match ops[i]?, ops[j]? with
          | some oi, some oj => oi.apart ops oj && (quietAt P ops j || clsAt P ops i == 0 || (f == 1 && ck j))
          | _, _ => true)
     else (Region.ready .any ops listed).all (fun j => only.contains j) && (f == 2 || !ck i)) &&
    (f != 1 || clsAt P ops i == 1) &&
    chkL P ops ck eh ec r (headL r eh) (listed.setIfInBounds i true)
def chkR (P : Program) (ops : Array Oper) (ck : Nat → Bool) : Rep → List Nat → Array Bool → Bool
  | .fin l, only, listed => chkL P ops ck [] (fun _ listed => (Region.ready .any ops listed).isEmpty) l only listed
  | .fork l a b, only, listed => chkL P ops ck (a.heads ++ b.heads) (fun only listed => chkR P ops ck a only listed && chkR P ops ck b only listed && (a.len == b.len) && ((a.heads ++ b.heads).all fun i => !quietAt P ops i) &&
      ((Region.ready .any ops listed).all fun j => only.contains j) && !(Region.ready .any ops listed).isEmpty && a.len != 0) l only listed

section
variable {P : Program} {n : Nat} {ops : Array Oper} {ck : Nat → Bool} {pan : List PanicEntry → World → Prop} {Q : Exit → Act → World → Prop}
/-- What is shown of a rest of a region: its heads can be taken; and if nothing else may come up, it can go on. -/
def Goes (P : Program) (ops : Array Oper) (Q : Exit → Act → World → Prop) (S : World → Prop) (qt ck : Nat → Bool) (only hd : List Nat) (len : Nat) (listed : Array Bool) (a : Act) (w : World) : Prop :=
  (∀ i ∈ hd, qt i = false → wpOp P ops Q i (fun a' w' => (ck i = true → S w') ∧ wpAnyI P ops Q S qt ck (len - 1) (listed.setIfInBounds i true) a' w') a w) ∧ (only = hd → wpAnyI P ops Q S qt ck len listed a w)

theorem seg_sound (hp : ∀ ch e a w, Fits ds n e a → pan ch w → Q (.panic ch) a w) (hQ : ∀ c (a a' : Act) w, a.defers = a'.defers → Q (.panic c) a w → Q (.panic c) a' w) (hs : Region.noSelect ops = true)
    (eh : List Nat) (el : Nat) (ec : List Nat → Array Bool → Bool) (Kend : (World → Prop) → Env → World → Prop)
    (hend : ∀ W only listed e a w, ec only listed = true → Down ops listed → Fits ds n e a → Kend W e w → Goes P ops Q W (quietAt P ops) ck only eh el listed a w) :
    ∀ (gs : List (Nat × G)) (rep : List (Nat × Nat)) (W : World → Prop) (only : List Nat) (listed : Array Bool) (e : Env) (a : Act) (w : World), rep.mapM (fun p => (lowerG P n ops p.1).map fun g => (p.2, g)) = some (gs.filter fun x => x.2.isOp) →
      chkL P ops ck eh ec rep only listed = true → Down ops listed → Fits ds n e a → vcW P W gs Kend pan e w →
      Goes P ops Q W (quietAt P ops) ck only (headL rep eh) (rep.length + el) listed a w := by
  intro gs
  induction gs with
  | nil =>
    intro rep W only listed e a w hm hc hd hf h
    cases rep with
    | nil =>
      rw [List.length_nil, Nat.zero_add]
      exact hend W only listed e a w hc hd hf h
    | cons p rep =>
      simp only [List.mapM_cons, List.filter_nil, Option.bind_eq_bind, Option.pure_def, Option.bind_eq_some_iff] at hm
      obtain ⟨g, _, gs, _, hx⟩ := hm
      simp at hx
  | cons x gs ih =>
    intro rep W only listed e a w hm hc hd hf h
    obtain ⟨f, g⟩ := x
    cases g with
    | keep ks =>
      rw [List.filter_cons_of_neg (by simp [G.isOp])] at hm
      exact ih rep W only listed _ a w hm hc hd (hf.keep ks) (by simpa only [vcW] using h)
    | op s g =>
      rw [List.filter_cons_of_pos (by simp [G.isOp])] at hm
      cases rep with
      | nil => simp at hm
      | cons p rep =>
        obtain ⟨i, f'⟩ := p
        simp only [List.mapM_cons, Option.bind_eq_bind, Option.pure_def, Option.bind_eq_some_iff, Option.map_eq_some_iff] at hm
        obtain ⟨y, ⟨g', hg', hy⟩, gs', hgs', hx⟩ := hm
        simp only [Option.some.injEq, List.cons.injEq] at hx
        obtain ⟨hx, rfl⟩ := hx
        rw [← hy] at hx
        simp only [Prod.mk.injEq] at hx
        obtain ⟨rfl, rfl⟩ := hx
        simp only [vcW] at h
        obtain ⟨o, ho', hl, hdst, hcase⟩ := guard_cases hg' hf h
        simp only [chkL, Bool.and_eq_true] at hc
        obtain ⟨⟨⟨hc1, hc2⟩, hc3⟩, hc4⟩ := hc
        have hr : i ∈ Region.ready .any ops listed := by simpa using hc1
        have hcls : clsAt P ops i = s.cls := by simp [clsAt, ho', hl]
        have hsd := lower_dst hl
        have hlen : ((i, f') :: rep).length + el = rep.length + el + 1 := by simp only [List.length_cons]; omega
        have hlen2 : ((i, f') :: rep).length + el - 1 = rep.length + el := by simp only [List.length_cons]; omega
        rw [hcls] at hc2 hc3
        by_cases hq : s.cls ≤ 1
        · -- it leaves the world alone: taken first
          rw [if_pos hq] at hc2
          rw [Bool.and_eq_true] at hc2
          obtain ⟨_, hc2⟩ := hc2
          have hqi : quietAt P ops i = true := by simp [quietAt, hcls, hq]
          refine ⟨fun j hj hjq => ?_, fun _ => ?_⟩
          · simp only [headL, List.mem_singleton] at hj
            subst hj; rw [hqi] at hjq; cases hjq
          rw [hlen]
          have take : ∀ (T W' : World → Prop) (v : Value) (e' : Env), (∀ w', W' w' → W w') → YieldsT P ops T o v a → T w → Fits ds n e' (a.put o.dst v) → vcW P W' gs Kend pan e' w →
              (∀ j oj, ops[j]? = some oj → j ≠ i → listed.getD j true = false → Ord ops i j = false → quietAt P ops j = true ∨ (∀ w', (ck j = true → W' w') → T w')) →
              wpAnyI P ops Q W (quietAt P ops) ck (rep.length + el + 1) listed a w := by
            intro T W' v e' hW hy hT hf' hv hcl
            refine wpAnyI_mono hW _ _ _ _ (first_I ho' hqi (Region.noSelect_spec hs) (fun c a' w' h => hQ c _ _ w' (by cases o.dst <;> rfl) h) (rep.length + el) listed a w hd ?_ hr hy hT ((ih rep W' _ _ e' _ w hgs' hc4 (hd.set hr) hf' hv).2 rfl))
            intro j oj hj hji hun hno
            refine ⟨?_, hcl j oj hj hji hun hno⟩
            have := List.all_eq_true.1 hc2 j (List.mem_range.2 (Array.getElem?_eq_some_iff.1 hj).1)
            simp only [ho', hj, hno, hun, Bool.or_eq_true, beq_iff_eq, hji, Bool.false_eq_true, or_false, false_or, Bool.and_eq_true] at this
            exact this.1
          have cl : ∀ j oj, ops[j]? = some oj → j ≠ i → listed.getD j true = false → Ord ops i j = false → quietAt P ops j = true ∨ s.cls = 0 ∨ (f' = 1 ∧ ck j = true) := by
            intro j oj hj hji hun hno
            have := List.all_eq_true.1 hc2 j (List.mem_range.2 (Array.getElem?_eq_some_iff.1 hj).1)
            simp only [ho', hj, hno, hun, Bool.or_eq_true, beq_iff_eq, hji, Bool.false_eq_true, or_false, false_or, Bool.and_eq_true] at this
            rcases this.2 with (h | h) | h
            · exact .inl h
            · exact .inr (.inl (by omega))
            · exact .inr (.inr h)
          rcases hcase with ⟨hw, e', hf', hA⟩ | ⟨hw, e', hf', hB⟩
          · by_cases h0 : s.cls = 0
            · -- it hangs on the frame alone
              have hf1 : f' ≠ 1 := by
                intro hf1
                subst hf1
                simp [h0] at hc3
              have hA' : ∃ v, vcW P W gs Kend pan (putO s.dst v e') w ∧ ∀ w', Still P s e' v w' := by
                split at hA
                · exact pure_val h0 hA
                · exact absurd rfl hf1
                · obtain ⟨v, h1, h2⟩ := pure_val h0 hA; exact ⟨v, h1.2, h2⟩
              obtain ⟨v, hv, hst⟩ := hA'
              exact take (fun _ => True) W v _ (fun _ h => h) (.inl ⟨hw, fun w' _ => still_run hl hf' hq (hst w')⟩) trivial (putO_fits hsd hdst hf' v) hv (fun j oj hj hji hun hno => .inr fun _ _ => trivial)
            · have h1 : s.cls = 1 := by omega
              split at hA
              · obtain ⟨v, hv, hrf, hst⟩ := read_val h1 hA
                exact take (fun w' => w' = w) W v _ (fun _ h => h) (.inl ⟨hw, fun w' hw' => by subst hw'; exact still_run hl hf' hq (hst w' hrf)⟩) rfl (putO_fits hsd hdst hf' v) hv
                  (fun j oj hj hji hun hno => (cl j oj hj hji hun hno).imp id fun h => absurd (h.resolve_left (by omega)).1 (by omega))
              · obtain ⟨v, hv, hrf, hst⟩ := read_val h1 hA
                exact take (OldR s e' w) (fun w'' => W w'' ∧ OldR s e' w w'') v _ (fun _ h => h.1) (.inl ⟨hw, fun w' hw' => still_run hl hf' hq (hst w' hw')⟩) hrf (putO_fits hsd hdst hf' v) hv
                  (fun j oj hj hji hun hno => (cl j oj hj hji hun hno).imp id fun h w' hw' => (hw' (h.resolve_left (by omega)).2).2)
              · rename_i hn0 hn1
                obtain ⟨v, hv, hrf, hst⟩ := read_val h1 hA
                exact take (fun w' => w' = w) W v _ (fun _ h => h) (.inl ⟨hw, fun w' hw' => by subst hw'; exact still_run hl hf' hq (hst w' hrf)⟩) rfl (putO_fits hsd hdst hf' v) hv.2
                  (fun j oj hj hji hun hno => (cl j oj hj hji hun hno).imp id fun h => absurd (h.resolve_left (by omega)).1 (fun h => hn1 h))
          · -- passed over
            exact take (fun _ => True) W undef e' (fun _ h => h) (.inr ⟨hw, rfl⟩) trivial hf' hB.2 (fun j oj hj hji hun hno => .inr fun _ _ => trivial)
        · -- it may change the world
          rw [if_neg hq] at hc2
          simp only [Bool.and_eq_true, beq_iff_eq, Bool.or_eq_true, Bool.not_eq_true', List.all_eq_true, bne_iff_ne, ne_eq] at hc2
          obtain ⟨hc2, hfl⟩ := hc2
          have hqi : quietAt P ops i = false := by simp [quietAt, hcls]; omega
          have main : wpOp P ops Q i (fun a' w' => (ck i = true → W w') ∧ wpAnyI P ops Q W (quietAt P ops) ck (rep.length + el) (listed.setIfInBounds i true) a' w') a w := by
            unfold wpOp
            simp only [ho']
            have next : ∀ e' a' w', Fits ds n e' a' → (ck i = true → W w') → vcW P W gs Kend pan e' w' →
                (ck i = true → W w') ∧ wpAnyI P ops Q W (quietAt P ops) ck (rep.length + el) (listed.setIfInBounds i true) a' w' :=
              fun e' a' w' hf' h1 hv => ⟨h1, (ih rep W _ _ e' a' w' hgs' hc4 (hd.set hr) hf' hv).2 rfl⟩
            rcases hcase with ⟨hw, e', hf', hA⟩ | ⟨hw, e', hf', hB⟩
            · rw [hw, if_pos rfl]
              refine .inl ?_
              split at hA
              · have hck : ck i = false := hfl.resolve_left (by omega)
                exact op_sound hl hdst hf' hA (fun e2 a2 w2 hf2 hv => next e2 a2 w2 hf2 (fun h => by rw [hck] at h; cases h) hv) hp
              · simp at hc3; omega
              · exact op_sound hl hdst hf' hA (fun e2 a2 w2 hf2 hv => next e2 a2 w2 hf2 (fun _ => hv.1) hv.2) hp
            · rw [hw, if_neg (by simp)]
              refine next e' _ w hf' (fun hck => ?_) hB.2
              rcases hB.1 with h | h
              · rcases hfl with h' | h'
                · omega
                · rw [hck] at h'; cases h'
              · exact h
          refine ⟨fun j hj _ => ?_, fun hon => ?_⟩
          · simp only [headL, List.mem_singleton] at hj
            subst hj
            rw [hlen2]; exact main
          · rw [hlen]
            refine ⟨fun h0 => (by rw [h0] at hr; cases hr), fun j hj oj hoj => ?_⟩
            have hji : j ∈ only := by simpa using hc2 j hj
            rw [hon] at hji
            simp only [headL, List.mem_singleton] at hji
            subst hji
            exact ⟨fun h => (by rw [hqi] at h; cases h), fun _ => main⟩

def lowerR (P : Program) (n : Nat) (ops : Array Oper) : Rep → Option GT
  | .fin l => (l.mapM (fun p => (lowerG P n ops p.1).map fun g => (p.2, g))).map .fin
  | .fork l a b => match l.mapM (fun p => (lowerG P n ops p.1).map fun g => (p.2, g)), lowerR P n ops a, lowerR P n ops b with
    | some l, some a, some b => some (.fork l a b)
    | _, _, _ => none

theorem tree_sound {K : Env → World → Prop} (hK : ∀ e a w, Fits ds n e a → K e w → Q .normal a w) (hp : ∀ ch e a w, Fits ds n e a → pan ch w → Q (.panic ch) a w) (hQ : ∀ c (a a' : Act) w, a.defers = a'.defers → Q (.panic c) a w → Q (.panic c) a' w) (hs : Region.noSelect ops = true) :
    ∀ (t : GT) (rep : Rep) (W : World → Prop) (only : List Nat) (listed : Array Bool) (e : Env) (a : Act) (w : World), lowerR P n ops rep = some t.erase →
      chkR P ops ck rep only listed = true → Down ops listed → Fits ds n e a → vcT P W t K pan e w →
      Goes P ops Q W (quietAt P ops) ck only rep.heads rep.len listed a w := by
  intro t
  induction t with
  | fin gs =>
    intro rep W only listed e a w hm hc hd hf h
    cases rep with
    | fin l =>
      simp only [lowerR, GT.erase, Option.map_eq_some_iff, GT.fin.injEq] at hm
      obtain ⟨x, hm, rfl⟩ := hm
      have := seg_sound (ck := ck) hp hQ hs [] 0 (fun _ listed => (Region.ready .any ops listed).isEmpty) (fun _ => K) (fun W only listed e a w hc hd hf hk =>
        ⟨fun i hi => (by cases hi), fun _ => ⟨by simpa using hc, hK e a w hf hk⟩⟩) gs l W only listed e a w hm hc hd hf h
      simpa only [Rep.heads, Rep.len, Nat.add_zero] using this
    | fork l x y =>
      simp only [lowerR, GT.erase] at hm
      split at hm <;> simp at hm
  | fork gs ta tb iha ihb =>
    intro rep W only listed e a w hm hc hd hf h
    cases rep with
    | fin l =>
      simp only [lowerR, GT.erase, Option.map_eq_some_iff] at hm
      obtain ⟨x, _, hm⟩ := hm
      cases hm
    | fork l x y =>
      simp only [lowerR, GT.erase] at hm
      split at hm
      · rename_i l' a' b' hl ha hb
        simp only [Option.some.injEq, GT.fork.injEq] at hm
        obtain ⟨rfl, rfl, rfl⟩ := hm
        have := seg_sound (ck := ck) hp hQ hs (x.heads ++ y.heads) x.len _ (fun W e w => vcT P W ta K pan e w ∧ vcT P W tb K pan e w) ?_ gs l W only listed e a w hl hc hd hf h
        · exact this
        · intro W only listed e a w hc hd hf hk
          simp only [Bool.and_eq_true, beq_iff_eq, List.all_eq_true, Bool.not_eq_true', Bool.or_eq_true] at hc
          obtain ⟨⟨⟨⟨⟨⟨hca, hcb⟩, hlen⟩, hheads⟩, hrd⟩, hne⟩, hl0⟩ := hc
          have hl0 : x.len ≠ 0 := by simpa using hl0
          have ga := iha x W only listed e a w ha hca hd hf hk.1
          have gb := ihb y W only listed e a w hb hcb hd hf hk.2
          have hfst : ∀ i ∈ x.heads ++ y.heads, wpOp P ops Q i (fun a' w' => (ck i = true → W w') ∧ wpAnyI P ops Q W (quietAt P ops) ck (x.len - 1) (listed.setIfInBounds i true) a' w') a w := by
            intro i hi
            have hqi := hheads i hi
            rcases List.mem_append.1 hi with hi | hi
            · exact ga.1 i hi hqi
            · have := gb.1 i hi hqi
              rw [← hlen] at this; exact this
          refine ⟨fun i hi _ => hfst i hi, fun hon => ?_⟩
          have hpos : ∃ m, x.len = m + 1 := ⟨x.len - 1, by omega⟩
          obtain ⟨m, hm⟩ := hpos
          rw [hm] at hfst ⊢
          refine ⟨fun h0 => (by rw [h0] at hne; simp at hne), fun j hj oj hoj => ?_⟩
          have hji : j ∈ x.heads ++ y.heads := by rw [← hon]; simpa using hrd j hj
          refine ⟨fun h => (by rw [hheads j hji] at h; cases h), fun _ => ?_⟩
          have := hfst j hji
          rw [Nat.add_sub_cancel] at this
          exact this
      · simp at hm
end
end X
end Go.Proofs.YtgibicifflfpfaaDoor
