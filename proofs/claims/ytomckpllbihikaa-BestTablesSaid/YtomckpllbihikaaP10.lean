/-
  Table's table can be made (plain).
-/
import Derived.Test.YtomckpllbihikaaP6
import Derived.Test.YtomckpllbihikaaP8
set_option autoImplicit false
set_option linter.unusedSimpArgs false
set_option linter.unusedVariables false
namespace Go.Proofs.Ytomckpllbihikaa
open X

theorem upd_tot (n : List Int) (i : Nat) (d : Int) (h : i < 257) (hl : n.length = 257) : ws (fun _ => 1) (upd n i d) 257 = ws (fun _ => 1) n 257 + d := by
  rw [ws_upd _ _ _ _ (by omega), if_pos h]; omega
theorem shStep_tot {n : List Int} {l : Nat} (hl : n.length = 257) (h1 : 2 ≤ l) (h2 : l ≤ 256) : ws (fun _ => 1) (shStep n l) 257 = ws (fun _ => 1) n 257 := by
  have hd := down_le n (l - 2)
  unfold shStep
  rw [upd_tot _ _ _ (by omega) (by simp [upd_len, hl]), upd_tot _ _ _ (by omega) (by simp [upd_len, hl]), upd_tot _ _ _ (by omega) (by simp [upd_len, hl]), upd_tot _ _ _ (by omega) hl]; omega
theorem shW_tot : ∀ (k : Nat) (n : List Int) (l : Nat), n.length = 257 → 2 ≤ l → l ≤ 256 → ws (fun _ => 1) (shW k n l) 257 = ws (fun _ => 1) n 257
  | 0, n, l, _, _, _ => rfl
  | k + 1, n, l, hl, h1, h2 => by
    simp only [shW]; split
    · rw [shW_tot k _ l (by simp [shStep, upd_len, hl]) h1 h2, shStep_tot hl h1 h2]
    · rfl
theorem shT_tot : ∀ (k : Nat) (n : List Int), n.length = 257 → k ≤ 240 → ws (fun _ => 1) (shT k n) 257 = ws (fun _ => 1) n 257
  | 0, n, _, _ => rfl
  | k + 1, n, hl, hk => by
    simp only [shT]; rw [shT_tot k _ (by rw [shW_len]; exact hl) (by omega), shW_tot _ _ _ hl (by omega) (by omega)]

theorem shW_run : ∀ (k : Nat) (n : List Int) (l : Nat), SH n l → 17 ≤ l → l ≤ 256 → g n l ≤ 2 * k → SH (shW k n l) l ∧ g (shW k n l) l = 0
  | 0, n, l, h, _, _, hk => ⟨h, by have := h.nn l; simp only [shW]; omega⟩
  | k + 1, n, l, h, h1, h2, hk => by
    simp only [shW]; split
    · rename_i hp
      obtain ⟨s1, s2, _⟩ := sh_step h h1 h2 hp
      exact shW_run k _ l s1 h1 h2 (by omega)
    · exact ⟨h, by have := h.nn l; omega⟩
theorem SH.run' : ∀ (k : Nat) (n : List Int), k ≤ 240 → SH n (k + 16) → SH (shT k n) 16
  | 0, n, _, h => h
  | k + 1, n, hk, h => by
    obtain ⟨s1, s2⟩ := shW_run 300 n (k + 17) h (by omega) (by omega) (by have := h.one (k + 17); omega)
    exact SH.run' k _ (by omega) (s1.less (l := k + 16) s2)
theorem SH.run {n : List Int} (h : SH n 256) : SH (shT 240 n) 16 := SH.run' 240 n (Nat.le_refl _) h
theorem tabC_len (f : List Int) : (tabC f).length = 16 := by simp [tabC]
theorem tabC_g (f : List Int) {r : Nat} (h : 15 - r < 16) (hr : r ≤ 15) : g (tabC f) (15 - r) = g (tabN f) (16 - r) := by
  unfold tabC
  simp only [g, List.getD_eq_getElem?_getD, List.getElem?_map, List.getElem?_range h, Option.map_some, Option.getD_some]
  rw [show 15 - r + 1 = 16 - r by omega]

/-- Sums over the table's counts are sums over the 257 numbers. -/
theorem cntSum_ws (f : List Int) (hnn : ∀ i, 1 ≤ i → i ≤ 16 → 0 ≤ g (tabN f) i) (T : Int) (hT : ws (fun _ => 1) (tabN f) 17 = T) : ∀ r, r ≤ 16 → (cntSum (tabC f) r : Int) + ws (fun _ => 1) (tabN f) (17 - r) = T
  | 0, _ => by simp only [cntSum]; rw [Nat.sub_zero, hT]; omega
  | r + 1, h => by
    have ih := cntSum_ws f hnn T hT r (by omega)
    have e2 : g (tabC f) (15 - r) = g (tabN f) (16 - r) := tabC_g f (by omega) (by omega)
    have h0 := hnn (16 - r) (by omega) (by omega)
    obtain ⟨j, hj⟩ : ∃ j, 16 - r = j := ⟨_, rfl⟩
    rw [show 17 - r = j + 1 by omega] at ih
    rw [show 17 - (r + 1) = j by omega]
    rw [hj] at e2 h0
    simp only [ws] at ih
    simp only [cntSum]
    rw [e2]; omega
theorem krem_ws (f : List Int) (hnn : ∀ i, 1 ≤ i → i ≤ 16 → 0 ≤ g (tabN f) i) (T : Int) (hT : ws p2 (tabN f) 17 = T) (Q : Int) (hQ : (2 : Int) ^ 240 = Q) : ∀ r, r ≤ 16 → Q * (krem (tabC f) r : Int) + ws p2 (tabN f) (17 - r) = T
  | 0, _ => by simp only [krem]; rw [Nat.sub_zero, hT]; simp
  | r + 1, h => by
    have ih := krem_ws f hnn T hT Q hQ r (by omega)
    have e2 : g (tabC f) (15 - r) = g (tabN f) (16 - r) := tabC_g f (by omega) (by omega)
    have h0 := hnn (16 - r) (by omega) (by omega)
    have e4 : p2 (16 - r) = Q * 2 ^ r := by
      have h240 : 256 - (16 - r) = 240 + r := by omega
      rw [← hQ]; unfold p2; rw [h240, Int.pow_add]
    obtain ⟨j, hj⟩ : ∃ j, 16 - r = j := ⟨_, rfl⟩
    rw [show 17 - r = j + 1 by omega] at ih
    rw [show 17 - (r + 1) = j by omega]
    rw [hj] at e2 h0 e4
    obtain ⟨c, hc⟩ : ∃ c : Nat, g (tabN f) j = c := ⟨(g (tabN f) j).toNat, by omega⟩
    simp only [ws] at ih
    rw [hc] at ih e2
    simp only [krem]
    rw [e2, Int.toNat_natCast]
    rw [e4] at ih
    rw [← ih, Int.natCast_add, Int.natCast_mul, Int.natCast_pow, Int.mul_add]
    have e5 : Q * ((c : Int) * ((2 : Nat) : Int) ^ r) = Q * 2 ^ r * c := by
      rw [Int.mul_assoc, Int.mul_comm (c : Int)]; rfl
    rw [e5]; omega

theorem sb_bytes {Z : List Int} (h : ∀ x ∈ Z, 0 ≤ x ∧ x < 256) (i : Nat) (hi : i < Z.length) : (sb (bytesOf Z) i : Int) = g Z i := by
  have hm := h _ (g_mem hi)
  have e : (bytesOf Z).data.toList = Z.map fun x => UInt8.ofNat x.toNat := rfl
  unfold sb
  rw [e, List.getD_eq_getElem?_getD, List.getElem?_map]
  have e2 : Z[i]? = some (g Z i) := by simp [g, List.getD_eq_getElem?_getD, List.getElem?_eq_getElem hi]
  rw [e2]
  simp only [Option.map_some, Option.getD_some]
  rw [UInt8.toNat_ofNat']
  omega
theorem bytes_size (Z : List Int) : (bytesOf Z).size = Z.length := by
  show (Z.map fun x => UInt8.ofNat x.toNat).toArray.size = _
  simp
theorem ord_nodup (L : Nat → Int) (k : Nat) : (ordL L k).Nodup := by
  rw [ord_pl]
  exact List.Pairwise.map _ (fun a b h e => h (Int.ofNat.inj e)) (List.Pairwise.filter _ List.nodup_range)

/-- What Table answers, of numbers that may be and of which one is more than 0. -/
theorem table_made {f Z : List Int} (hf : f.length = 256) (hg : ∀ i, i < 256 → 0 ≤ g f i ∧ g f i ≤ 1099511627776) (hex : ∃ x, x < 256 ∧ 0 < g f x) (hp : Z.Perm (ordL (bits f) 256)) :
    (∀ i, 0 ≤ g (tabC f) i ∧ g (tabC f) i ≤ 255) ∧ ∃ M L, hNew (tabC f) (bytesOf Z) = some M ∧ CInv M L ∧ M.length = 546 ∧ L.map (fun t => (t.1 : Int)) = Z ∧ L.map (·.2.2) = lensC (tabC f) 16 := by
  obtain ⟨hb, hsh, _⟩ := shape hf hg
  obtain ⟨hSH, hcm⟩ := hsh hex
  obtain ⟨Y, hY, hSY⟩ : ∃ Y, shT 240 (nT (bits f) 257) = Y ∧ SH Y 16 := ⟨_, rfl, SH.run hSH⟩
  have hN : tabN f = shLast Y := by unfold tabN; rw [hY]
  have hfew : ∀ i, 1 ≤ i → i ≤ 16 → 0 ≤ g (tabN f) i ∧ g (tabN f) i ≤ 255 := fun i h1 h2 => by rw [hN]; exact hSY.few i h1 h2
  have hnn := fun i h1 h2 => (hfew i h1 h2).1
  obtain ⟨q, q1, q2⟩ := hSY.some
  obtain ⟨d1, d2⟩ := down_spec Y 16 ⟨q, q1, q2⟩
  have d3 := down_le Y 16
  have d4 : down Y 16 ≠ 0 := fun e => d1 (by rw [e]; exact hSY.z)
  have hYl := hSY.len
  have hup : ∀ k, 17 ≤ k → k < 17 + 240 → g (tabN f) k = 0 := fun k h1 h2 => by
    rw [hN, shLast, upd_g _ _ _ _ (by omega), if_neg (by omega)]; exact hSY.up k (by omega)
  have hz0 : g (tabN f) 0 = 0 := by
    rw [hN, shLast, upd_g _ _ _ _ (by omega), if_neg (by omega)]; exact hSY.z
  have t1 : ws (fun _ => 1) (tabN f) 257 = ws (fun _ => 1) (tabN f) 17 := ws_zero _ _ 17 240 hup
  have t2 : ws p2 (tabN f) 257 = ws p2 (tabN f) 17 := ws_zero _ _ 17 240 hup
  have t3 : ws (fun _ => 1) (tabN f) 257 = (ordL (bits f) 256).length := by
    have e : ws (fun _ => 1) (tabN f) 257 = ws (fun _ => 1) Y 257 - 1 := by
      rw [hN, shLast, upd_tot _ _ _ (by omega) hYl]; omega
    rw [e, ← hY, shT_tot 240 _ (nT_len _ _) (Nat.le_refl _), ws_ord (fun x => (hb x).2)]
    have e2 : ordL (bits f) 257 = ordL (bits f) 256 ++ [((256 : Nat) : Int)] := by
      show (if 0 < bits f 256 then _ else _) = _
      rw [if_pos ((hcm 256 (by omega)).2 (.inl rfl))]
    rw [e2]; simp
  have t4 : ws p2 (tabN f) 257 < p2 0 := by
    rw [hN, shLast, ws_upd _ _ _ _ (by omega), if_pos (by omega), hSY.kr]
    have := p2_pos (down Y 16)
    omega
  have c1 := cntSum_ws f hnn _ rfl 16 (Nat.le_refl _)
  have c2 := krem_ws f hnn _ rfl _ rfl 16 (Nat.le_refl _)
  have w1 : ∀ c : Nat → Int, ws c (tabN f) (17 - 16) = 0 := fun c => by
    show ws c (tabN f) 0 + c 0 * g (tabN f) 0 = 0
    rw [hz0]; simp [ws]
  rw [w1] at c1 c2
  rw [t1] at t3
  rw [t2] at t4
  have hlen : cntSum (tabC f) 16 = Z.length := by
    have := hp.length_eq
    omega
  have hkr : krem (tabC f) 16 < 65536 := by
    rw [p2_00] at t4
    omega
  have hZm : ∀ x ∈ Z, 0 ≤ x ∧ x < 256 := fun x hx => by
    obtain ⟨y, y1, y2, y3⟩ := ord_mem.1 (hp.mem_iff.1 hx)
    omega
  have hZn : Z.Nodup := hp.nodup_iff.2 (ord_nodup _ _)
  have hne : Z.length ≠ 0 := fun e => by
    obtain ⟨x, x1, x2⟩ := hex
    have : (x : Int) ∈ ordL (bits f) 256 := ord_mem.2 ⟨x, x1, (hcm x (by omega)).2 (.inr x2), rfl⟩
    rw [List.length_eq_zero_iff.1 e] at hp
    rw [List.nil_perm.1 hp] at this
    cases this
  have hd : ∀ i j, i < (bytesOf Z).size → j < (bytesOf Z).size → i ≠ j → sb (bytesOf Z) i ≠ sb (bytesOf Z) j := fun i j hi hj hij e => by
    rw [bytes_size] at hi hj
    have e1 := sb_bytes hZm i hi
    have e2 := sb_bytes hZm j hj
    rw [e] at e1
    have e3 : g Z i = g Z j := by omega
    simp only [g, List.getD_eq_getElem?_getD, List.getElem?_eq_getElem hi, List.getElem?_eq_getElem hj, Option.getD_some] at e3
    rcases Nat.lt_trichotomy i j with y | y | y
    · exact List.pairwise_iff_getElem.1 hZn i j hi hj y e3
    · exact hij y
    · exact List.pairwise_iff_getElem.1 hZn j i hj hi y e3.symm
  obtain ⟨M, L, m1, m2, m3, m4, m5⟩ := hNew_ok hd (by rw [bytes_size]; exact hlen) (by rw [bytes_size]; exact hne) hkr
  refine ⟨fun i => ?_, M, L, m1, m2, m3, ?_, m5⟩
  · rcases Nat.lt_or_ge i 16 with h | h
    · have e : g (tabC f) i = g (tabN f) (i + 1) := by
        have := tabC_g f (r := 15 - i) (by omega) (by omega)
        rwa [show 15 - (15 - i) = i by omega, show 16 - (15 - i) = i + 1 by omega] at this
      rw [e]; exact hfew (i + 1) (by omega) (by omega)
    · rw [g_far (by rw [tabC_len]; exact h)]; omega
  · have e1 : L.map (fun t => (t.1 : Int)) = (L.map (·.1)).map Int.ofNat := by rw [List.map_map]; rfl
    rw [e1, m4, bytes_size, List.map_map]
    apply List.ext_getElem?
    intro i
    rcases Nat.lt_or_ge i Z.length with h | h
    · rw [List.getElem?_map, List.getElem?_range h, List.getElem?_eq_getElem h]
      have := sb_bytes hZm i h
      have this2 : Int.ofNat (sb (bytesOf Z) i) = g Z i := this
      simp only [Option.map_some, Function.comp, this2, g, List.getD_eq_getElem?_getD, List.getElem?_eq_getElem h, Option.getD_some]
    · rw [List.getElem?_eq_none (by simp; exact h), List.getElem?_eq_none h]
end Go.Proofs.Ytomckpllbihikaa
