/-
  What is printed is read as it was: numbers, quoted texts, edits. Plain. Conditions: none.
-/
import Derived.Test.YtgibicifflfpfaaDoorEP1
set_option autoImplicit false
namespace Go.Proofs.YtgibicifflfpfaaDoor

/-! numbers -/
theorem decL_lt {n : Nat} (h : n < 10) : decL n = [UInt8.ofNat (48 + n)] := by rw [decL, if_pos h]
theorem decL_ge {n : Nat} (h : ¬ n < 10) : decL n = decL (n / 10) ++ [UInt8.ofNat (48 + n % 10)] := by rw [decL, if_neg h]
theorem decL_pos (n : Nat) : 0 < (decL n).length := by
  by_cases h : n < 10
  · rw [decL_lt h]; exact Nat.zero_lt_one
  · rw [decL_ge h]; simp
theorem ofNat_small {n : Nat} (h : n < 256) : (UInt8.ofNat n).toNat = n := by rw [UInt8.toNat_ofNat']; omega
theorem numL_digit {d k n : Nat} (l : List UInt8) (hd : d < 10) (hk : k = 0 ∨ 0 < n) : numL (UInt8.ofNat (48 + d) :: l) k n = numL l (k + 1) (min (10 * n + d) 2147483648) := by
  rw [numL, ofNat_small (by omega), if_pos ⟨by omega, hk⟩, Nat.add_sub_cancel_left]
theorem numL_dec (n : Nat) (rest : List UInt8) : numL (decL n ++ rest) 0 0 = numL rest (decL n).length (min n 2147483648) := by
  induction n using Nat.strongRecOn generalizing rest with
  | _ n ih =>
    by_cases h : n < 10
    · rw [decL_lt h, List.singleton_append, numL_digit _ h (.inl rfl)]; simp
    · rw [decL_ge h, List.append_assoc, ih _ (by omega), List.singleton_append, numL_digit _ (by omega) (.inr (by omega)), List.length_append]
      congr 1
      omega
theorem numL_stop {l : List UInt8} {k n : Nat} (h : l = [] ∨ ∃ m, l = 32 :: m) : numL l k n = (n, k) := by
  rcases h with rfl | ⟨m, rfl⟩
  · rfl
  · rw [numL, if_neg]; rintro ⟨⟨h1, h2⟩, -⟩; exact absurd h1 (by decide)
theorem numP_dec {s : List UInt8} {i n limit : Nat} {rest : List UInt8} (hs : s.drop i = decL n ++ rest) (hn : n ≤ limit) (hl : limit ≤ 2147483647) (hr : rest = [] ∨ ∃ m, rest = 32 :: m) : numP s i limit = .ok (n, i + (decL n).length) := by
  have h := decL_pos n
  rw [numP, hs, numL_dec, numL_stop hr, if_neg (by simp only; omega), if_neg (by simp only; omega)]
  simp only [Except.ok.injEq, Prod.mk.injEq, and_true]; omega

/-! hexadecimal digits -/
def hexDs (n : Nat) : List Nat := if n < 16 then [n] else hexDs (n / 16) ++ [n % 16]
theorem hexDs_lt {n : Nat} (h : n < 16) : hexDs n = [n] := by rw [hexDs, if_pos h]
theorem hexDs_ge {n : Nat} (h : ¬ n < 16) : hexDs n = hexDs (n / 16) ++ [n % 16] := by rw [hexDs, if_neg h]
theorem hexK_zero : hexK 0 0 = [] := by rw [hexK]; rfl
theorem hexK_pos {k n : Nat} (h : ¬ (n = 0 ∧ k = 0)) : hexK k n = hexK (k - 1) (n / 16) ++ [hd (n % 16)] := by rw [hexK, if_neg h]
theorem hexK_ds (n : Nat) (k : Nat) (hk : k ≤ 1) (h : 0 < n ∨ k = 1) : hexK k n = (hexDs n).map hd := by
  induction n using Nat.strongRecOn generalizing k with
  | _ n ih =>
    rw [hexK_pos (by omega)]
    by_cases h16 : n < 16
    · rw [hexDs_lt h16, show k - 1 = 0 by omega, show n / 16 = 0 by omega, hexK_zero, show n % 16 = n by omega]; rfl
    · rw [hexDs_ge h16, ih (n / 16) (by omega) (k - 1) (by omega) (.inl (by omega)), List.map_append]; rfl
theorem hexK_two {n : Nat} (h : n < 256) : hexK 2 n = [hd (n / 16), hd (n % 16)] := by
  rw [hexK_pos (by omega), hexK_pos (by omega), show n / 16 / 16 = 0 by omega, show 2 - 1 - 1 = 0 by rfl, hexK_zero, show n / 16 % 16 = n / 16 by omega]; rfl
theorem hexDs_small (n : Nat) : ∀ d ∈ hexDs n, d < 16 := by
  induction n using Nat.strongRecOn with
  | _ n ih =>
    by_cases h16 : n < 16
    · rw [hexDs_lt h16]; intro d hd; rw [List.mem_singleton] at hd; omega
    · rw [hexDs_ge h16]; intro d hd
      rcases List.mem_append.1 hd with h | h
      · exact ih _ (by omega) d h
      · rw [List.mem_singleton] at h; omega
theorem hexDs_fold (n : Nat) : (hexDs n).foldl (fun a d => a * 16 + d) 0 = n := by
  induction n using Nat.strongRecOn with
  | _ n ih =>
    by_cases h16 : n < 16
    · rw [hexDs_lt h16]; simp
    · rw [hexDs_ge h16, List.foldl_append, ih _ (by omega)]; simp only [List.foldl_cons, List.foldl_nil]; omega
theorem hexDs_head (n : Nat) (h : 0 < n) : ∃ d l, hexDs n = d :: l ∧ 0 < d := by
  induction n using Nat.strongRecOn with
  | _ n ih =>
    by_cases h16 : n < 16
    · exact ⟨n, [], hexDs_lt h16, h⟩
    · obtain ⟨d, l, e, hd⟩ := ih (n / 16) (by omega) (by omega)
      exact ⟨d, l ++ [n % 16], by rw [hexDs_ge h16, e]; rfl, hd⟩
theorem hexDs_len (k n : Nat) (hk : 0 < k) (h : n < 16 ^ k) : (hexDs n).length ≤ k := by
  induction k generalizing n with
  | zero => omega
  | succ k ih =>
    by_cases h16 : n < 16
    · rw [hexDs_lt h16]; simp
    · rw [hexDs_ge h16, List.length_append]
      have hk2 : 0 < k := by
        rcases Nat.eq_zero_or_pos k with h0 | h0
        · subst h0; simp at h; omega
        · exact h0
      have := ih (n / 16) hk2 (by rw [Nat.pow_succ] at h; exact Nat.div_lt_of_lt_mul (by omega))
      simp; omega
theorem dig_hd {d : Nat} (h : d < 16) : dig (hd d).toNat = d := by
  unfold hd
  rw [ofNat_small (by split <;> omega)]
  unfold dig
  repeat' split
  all_goals omega
theorem hexs_read (l : List UInt8) : ∀ (ds : List Nat) (k i n : Nat) (rest : List UInt8), l.drop i = ds.map hd ++ 125 :: rest → (∀ d ∈ ds, d < 16) → ds.length ≤ k → 0 < n →
    hexs l k i n = (i + ds.length, ((ds.foldl (fun a d => a * 16 + d) n : Nat) : Int))
  | [], k, i, n, rest, h, _, _, _ => by
    have hb : bt l i = 125 := by have := bt_drop l i 0; rw [h, Nat.add_zero] at this; rw [← this]; rfl
    cases k with
    | zero => rfl
    | succ k => rw [hexs, hb, if_neg (fun h => absurd h.2 (by decide))]; rfl
  | d :: ds, k, i, n, rest, h, hs, hk, hn => by
    have hb : bt l i = (hd d).toNat := by have := bt_drop l i 0; rw [h, Nat.add_zero] at this; rw [← this]; rfl
    have hd1 := hs d (List.mem_cons_self ..)
    have h2 : l.drop (i + 1) = ds.map hd ++ 125 :: rest := by rw [← List.drop_drop, h]; rfl
    cases k with
    | zero => simp at hk
    | succ k =>
      rw [hexs, hb, dig_hd hd1, if_pos ⟨by omega, by omega⟩]
      have := hexs_read l ds k (i + 1) (n * 16 + d) rest h2 (fun x hx => hs x (List.mem_cons_of_mem _ hx)) (by simpa using hk) (by omega)
      rw [show (n : Int) * 16 + (d : Int) = ((n * 16 + d : Nat) : Int) by omega, this]
      simp only [List.length_cons, List.foldl_cons, Prod.mk.injEq, and_true]; omega

/-! runes -/
theorem take_bt {l : List UInt8} {k : Nat} (h : k < l.length) : l.take (k + 1) = l.take k ++ [UInt8.ofNat (bt l k)] := by
  rw [bt_byte, List.take_add_one, List.getD_eq_getElem?_getD, List.getElem?_eq_getElem h]; rfl
theorem lt_of_bt {l : List UInt8} {k : Nat} (h : k < l.length) : bt l k < 256 := bt_lt l k
/-- A rune's bytes are what it was read of. -/
theorem dn_bytes {l : List UInt8} (hl : l ≠ []) (h : ¬ brk l) : rb (dn l).1 = l.take (dn l).2 ∧ isR ((dn l).1 : Int) ∧ (dn l).2 ≤ l.length := by
  have h0 : 0 < l.length := Nat.pos_of_ne_zero fun h2 => hl (List.eq_nil_of_length_eq_zero h2)
  have b0 := bt_lt l 0; have b1 := bt_lt l 1; have b2 := bt_lt l 2; have b3 := bt_lt l 3
  have t1 : l.take 1 = [UInt8.ofNat (bt l 0)] := by rw [take_bt h0]; rfl
  have t2 : 1 < l.length → l.take 2 = [UInt8.ofNat (bt l 0), UInt8.ofNat (bt l 1)] := fun h => by rw [take_bt h, t1]; rfl
  have t3 : 2 < l.length → l.take 3 = [UInt8.ofNat (bt l 0), UInt8.ofNat (bt l 1), UInt8.ofNat (bt l 2)] := fun h => by rw [take_bt h, t2 (by omega)]; rfl
  have t4 : 3 < l.length → l.take 4 = [UInt8.ofNat (bt l 0), UInt8.ofNat (bt l 1), UInt8.ofNat (bt l 2), UInt8.ofNat (bt l 3)] := fun h => by rw [take_bt h, t3 (by omega)]; rfl
  unfold brk at h
  revert h
  generalize hd : dn l = D
  unfold dn Lib.decodeN at hd
  generalize bt l 0 = x0 at *; generalize bt l 1 = x1 at *; generalize bt l 2 = x2 at *; generalize bt l 3 = x3 at *
  intro h
  split at hd
  · subst hd; exact ⟨by rw [rb, if_pos (by assumption), t1], .inl (by simp only; omega), h0⟩
  · split at hd
    · rename_i h1 h2
      split at hd
      · subst hd
        refine ⟨?_, .inl (by simp only; omega), h2.2.1⟩
        rw [t2 h2.2.1, rb, if_neg (by simp only; omega), if_pos (by simp only; omega)]
        simp only
        rw [show 192 + (x0 % 32 * 64 + x1 % 64) / 64 = x0 by omega, show 128 + (x0 % 32 * 64 + x1 % 64) % 64 = x1 by omega]
      · subst hd; exact absurd ⟨rfl, rfl⟩ h
    · split at hd
      · rename_i h1 h2 h3
        split at hd
        · rename_i h4
          subst hd
          refine ⟨?_, ?_, h3.2.2.1⟩
          · rw [t3 h3.2.2.1, rb, if_neg (by simp only; omega), if_neg (by simp only; omega), if_pos (by simp only; omega)]
            simp only
            rw [show 224 + (x0 % 16 * 4096 + x1 % 64 * 64 + x2 % 64) / 4096 = x0 by omega, show 128 + (x0 % 16 * 4096 + x1 % 64 * 64 + x2 % 64) / 64 % 64 = x1 by omega, show 128 + (x0 % 16 * 4096 + x1 % 64 * 64 + x2 % 64) % 64 = x2 by omega]
          · unfold isR; simp only; omega
        · subst hd; exact absurd ⟨rfl, rfl⟩ h
      · split at hd
        · rename_i h1 h2 h3 h5
          split at hd
          · rename_i h4
            subst hd
            refine ⟨?_, ?_, h5.2.2.2.1⟩
            · rw [t4 h5.2.2.2.1, rb, if_neg (by simp only; omega), if_neg (by simp only; omega), if_neg (by simp only; omega)]
              simp only
              rw [show 240 + (x0 % 8 * 262144 + x1 % 64 * 4096 + x2 % 64 * 64 + x3 % 64) / 262144 = x0 by omega, show 128 + (x0 % 8 * 262144 + x1 % 64 * 4096 + x2 % 64 * 64 + x3 % 64) / 4096 % 64 = x1 by omega, show 128 + (x0 % 8 * 262144 + x1 % 64 * 4096 + x2 % 64 * 64 + x3 % 64) / 64 % 64 = x2 by omega,
                show 128 + (x0 % 8 * 262144 + x1 % 64 * 4096 + x2 % 64 * 64 + x3 % 64) % 64 = x3 by omega]
            · unfold isR; simp only; omega
          · subst hd; exact absurd ⟨rfl, rfl⟩ h
        · subst hd; exact absurd ⟨rfl, rfl⟩ h
/-- A small rune is one byte. -/
theorem dn_small {l : List UInt8} (h : (dn l).1 < 128) : (dn l).1 = bt l 0 ∧ (dn l).2 = 1 := by
  revert h
  generalize hd : dn l = D
  unfold dn Lib.decodeN at hd
  intro h
  repeat' split at hd
  all_goals (subst hd; first | exact ⟨rfl, rfl⟩ | (exfalso; simp only at h; omega))

/-! quoted texts -/
theorem unqL_out {l : List UInt8} {f i : Nat} {out : List UInt8} (h : l.length < f + i) (hi : i < l.length) (h1 : bt l i ≠ 34) (h2 : 32 ≤ bt l i ∧ bt l i ≤ 126) (h3 : bt l i ≠ 92) : ∃ g, l.length < g + (i + 1) ∧ unqL l f i out = unqL l g (i + 1) (out ++ [l.getD i 0]) := by
  cases f with
  | zero => omega
  | succ g => exact ⟨g, by omega, by rw [unqL, if_neg (by omega), if_neg h1, if_neg (by omega), if_pos h3]⟩
theorem unqL_esc {l : List UInt8} {f i j : Nat} {out x : List UInt8} (h : l.length < f + i) (hi : i < l.length) (h1 : bt l i = 92) (h2 : unqE l (i + 1) = (j, some x)) : ∃ g, l.length < g + j ∧ unqL l f i out = unqL l g j (out ++ x) := by
  cases f with
  | zero => omega
  | succ g =>
    have := unqE_ge l (i + 1)
    rw [h2] at this
    exact ⟨g, by simp only at this; omega, by rw [unqL, if_neg (by omega), if_neg (by omega), if_neg (by omega), if_neg (by omega), h2]⟩
theorem drop_bt {l m : List UInt8} {i : Nat} (h : l.drop i = m) (k : Nat) : bt l (i + k) = bt m k := by rw [← h, bt_drop]
theorem getD_bt {l : List UInt8} {i : Nat} : l.getD i 0 = UInt8.ofNat (bt l i) := (bt_byte l i).symm
theorem piece_len (l : List UInt8) : 0 < (piece l).length := by
  unfold piece quoR
  repeat' split
  all_goals simp
theorem unqL_piece {L t m : List UInt8} {f i : Nat} {out : List UInt8} (ht : t ≠ []) (hL : L.drop i = piece t ++ m) (h : L.length < f + i) :
    ∃ g, L.length < g + (i + (piece t).length) ∧ unqL L f i out = unqL L g (i + (piece t).length) (out ++ t.take (dn t).2) := by
  have h0 : 0 < t.length := Nat.pos_of_ne_zero fun h2 => ht (List.eq_nil_of_length_eq_zero h2)
  have hi : i < L.length := by
    have h1 := congrArg List.length hL
    have := piece_len t
    rw [List.length_drop, List.length_append] at h1; omega
  have hb := drop_bt hL
  have hb0 : bt L i = bt (piece t ++ m) 0 := hb 0
  have t1 : t.take 1 = [UInt8.ofNat (bt t 0)] := by rw [take_bt h0]; rfl
  have x0 := bt_lt t 0
  by_cases hbr : brk t
  · have e : piece t = [92, 120, hd (bt t 0 / 16), hd (bt t 0 % 16)] := by rw [piece, if_pos hbr, hexK_two x0]; rfl
    rw [e] at hb hb0 ⊢
    have e2 : unqE L (i + 1) = (i + 1 + 3, some [UInt8.ofNat (bt t 0)]) := by
      rw [unqE, show bt L (i + 1) = 120 from hb 1, if_neg (by omega), if_neg (by omega), if_neg (by omega), if_pos rfl]
      rw [show bt L (i + 1 + 1) = (hd (bt t 0 / 16)).toNat from hb 2, show bt L (i + 1 + 2) = (hd (bt t 0 % 16)).toNat from hb 3, dig_hd (by omega), dig_hd (by omega), if_neg (by omega), if_neg (by omega)]
      congr 4
      omega
    obtain ⟨g, h1, h2⟩ := unqL_esc (out := out) h hi (by rw [hb0]; rfl) e2
    refine ⟨g, h1, ?_⟩
    rw [hbr.2, t1, h2]; rfl
  · have hdn := dn_bytes ht hbr
    rw [piece, if_neg hbr] at hb hb0 ⊢
    rw [← hdn.1]
    unfold quoR at hb hb0 ⊢
    by_cases c1 : (dn t).1 = 34
    · simp only [if_pos c1] at hb hb0 ⊢
      have e2 : unqE L (i + 1) = (i + 1 + 1, some [34]) := by
        rw [unqE, show bt L (i + 1) = 34 from hb 1, if_pos (.inl rfl), getD_bt, show bt L (i + 1) = 34 from hb 1]; rfl
      obtain ⟨g, h1, h2⟩ := unqL_esc (out := out) h hi (by rw [hb0]; rfl) e2
      exact ⟨g, h1, by rw [h2, c1]; rfl⟩
    · simp only [if_neg c1] at hb hb0 ⊢
      by_cases c2 : (dn t).1 = 92
      · simp only [if_pos c2] at hb hb0 ⊢
        have e2 : unqE L (i + 1) = (i + 1 + 1, some [92]) := by
          rw [unqE, show bt L (i + 1) = 92 from hb 1, if_pos (.inr rfl), getD_bt, show bt L (i + 1) = 92 from hb 1]; rfl
        obtain ⟨g, h1, h2⟩ := unqL_esc (out := out) h hi (by rw [hb0]; rfl) e2
        exact ⟨g, h1, by rw [h2, c2]; rfl⟩
      · simp only [if_neg c2] at hb hb0 ⊢
        by_cases c3 : (dn t).1 = 10
        · simp only [if_pos c3] at hb hb0 ⊢
          have e2 : unqE L (i + 1) = (i + 1 + 1, some [10]) := by
            rw [unqE, show bt L (i + 1) = 110 from hb 1, if_neg (by omega), if_pos rfl]
          obtain ⟨g, h1, h2⟩ := unqL_esc (out := out) h hi (by rw [hb0]; rfl) e2
          exact ⟨g, h1, by rw [h2, c3]; rfl⟩
        · simp only [if_neg c3] at hb hb0 ⊢
          by_cases c4 : 32 ≤ (dn t).1 ∧ (dn t).1 ≤ 126
          · simp only [if_pos c4] at hb hb0 ⊢
            have e1 : bt L i = (dn t).1 := by rw [hb0]; exact ofNat_small (by omega)
            obtain ⟨g, h1, h2⟩ := unqL_out (out := out) h hi (by omega) (by omega) (by omega)
            refine ⟨g, h1, ?_⟩
            rw [h2, getD_bt, e1, rb, if_pos (by omega)]; rfl
          · simp only [if_neg c4] at hb hb0 ⊢
            generalize hgen : (dn t).1 = r at *
            have hr := hdn.2.1
            have hr2 : r ≤ 1114111 := by unfold isR at hr; omega
            have e1 : hexK 1 r = (hexDs r).map hd := hexK_ds r 1 (Nat.le_refl _) (.inr rfl)
            rw [e1] at hb hb0 ⊢
            have hL2 : L.drop i = [92, 117, 123] ++ (hexDs r).map hd ++ [125] ++ m := by
              rw [hL, piece, if_neg hbr]; unfold quoR
              simp only [hgen] at *
              rw [if_neg c1, if_neg c2, if_neg c3, if_neg c4, e1]
            have key : ∃ d ds, hexDs r = d :: ds ∧ hexs L 5 (i + 2 + 2) (d : Int) = (i + 2 + 2 + ds.length, (r : Int)) := by
              rcases Nat.eq_zero_or_pos r with h0 | h0
              · subst h0
                refine ⟨0, [], hexDs_lt (by omega), ?_⟩
                rw [hexs, if_neg (fun h => absurd h.1 (by decide))]; rfl
              · obtain ⟨d, ds, e, hd0⟩ := hexDs_head r h0
                have hs := hexDs_small r
                have hl := hexDs_len 6 r (by omega) (by omega)
                have hf := hexDs_fold r
                rw [e] at hs hl hf
                refine ⟨d, ds, e, ?_⟩
                rw [hexs_read L ds 5 (i + 2 + 2) d m ?_ (fun x hx => hs x (List.mem_cons_of_mem _ hx)) (by simpa using hl) hd0]
                · simp only [List.foldl_cons, Nat.zero_mul, Nat.zero_add] at hf
                  rw [hf]
                · rw [show i + 2 + 2 = i + 4 by omega, ← List.drop_drop, hL2, e]; simp
            obtain ⟨d, ds, e, key⟩ := key
            have hd1 : d < 16 := hexDs_small r d (by rw [e]; exact List.mem_cons_self ..)
            rw [e] at hb hb0 hL2 ⊢
            have b3 : bt L (i + 2 + 1) = (hd d).toNat := hb 3
            have b4 : bt L (i + 2 + 2 + ds.length) = 125 := by
              have h4 := drop_bt hL2 (4 + ds.length)
              rw [show i + (4 + ds.length) = i + 2 + 2 + ds.length by omega] at h4
              rw [h4]
              have h5 := bt_app ([92, 117, 123] ++ (d :: ds).map hd) ([125] ++ m) 0
              simp only [List.length_append, List.length_cons, List.length_nil, List.length_map, Nat.add_zero, Nat.zero_add] at h5
              rw [show 3 + (ds.length + 1) = 4 + ds.length by omega, ← List.append_assoc] at h5
              exact h5
            have e2 : unqE L (i + 1) = (i + 2 + 2 + ds.length + 1, some (rb r)) := by
              rw [unqE, show bt L (i + 1) = 117 from hb 1, if_neg (by omega), if_neg (by omega), if_pos rfl]
              rw [unqU, show bt L (i + 1 + 1) = 123 from hb 2, if_neg (by omega), show i + 1 + 1 = i + 2 by omega, b3, dig_hd hd1, if_neg (by omega), key]
              simp only
              rw [b4, if_pos ⟨rfl, hr⟩]
              rfl
            obtain ⟨g, h1, h2⟩ := unqL_esc (out := out) h hi (by rw [hb0]; rfl) e2
            have e3 : i + ([92, 117, 123] ++ (d :: ds).map hd ++ [125]).length = i + 2 + 2 + ds.length + 1 := by simp; omega
            rw [e3]
            exact ⟨g, h1, h2⟩
theorem unqL_quo (t : List UInt8) : ∀ (L : List UInt8) (f i : Nat) (out : List UInt8), L.drop i = quoB t ++ [34] → L.length < f + i → unqL L f i out = (out ++ t, L.length, 0) := by
  induction hn : t.length using Nat.strongRecOn generalizing t with
  | _ n ih =>
    subst hn
    intro L f i out hL hf
    by_cases ht : t = []
    · subst ht
      rw [quoB_nil, List.nil_append] at hL
      have h1 := congrArg List.length hL
      rw [List.length_drop, List.length_singleton] at h1
      cases f with
      | zero => omega
      | succ f =>
        rw [unqL, if_neg (by omega), if_pos (by have := drop_bt hL 0; rw [Nat.add_zero] at this; rw [this]; rfl), List.append_nil]
        congr 2; omega
    · rw [quoB_cons ht, List.append_assoc] at hL
      obtain ⟨g, h1, h2⟩ := unqL_piece (out := out) ht hL hf
      have hp := dn_pos t
      have h0 : t.length ≠ 0 := fun h2 => ht (List.eq_nil_of_length_eq_zero h2)
      rw [h2, ih _ (by simp only [List.length_drop]; omega) (t.drop (dn t).2) rfl L g _ _ ?_ h1, List.append_assoc, List.take_append_drop]
      rw [← List.drop_drop, hL, List.drop_left]
/-- What is printed, is read. -/
theorem unq_quo (t : List UInt8) : unq (quo t) = (t, (quo t).length, 0) := by
  have h : bt (quo t) 0 = 34 := rfl
  rw [unq, h, if_neg (by simp), unqL_quo t _ _ _ _ ?_ (by omega), List.nil_append]
  rfl


theorem drop_cons {s m : List UInt8} {x : UInt8} {i : Nat} (h : s.drop i = x :: m) : i < s.length ∧ bt s i = x.toNat ∧ s.drop (i + 1) = m := by
  refine ⟨?_, ?_, ?_⟩
  · have := congrArg List.length h; simp at this; omega
  · have := bt_drop s i 0; rw [h, Nat.add_zero] at this; rw [← this]; rfl
  · rw [← List.drop_drop, h]; rfl
theorem spP_at {s m : List UInt8} {i : Nat} (h : s.drop i = 32 :: m) : spP s i = .ok (i + 1) := by
  have h2 : bt s i = 32 := (drop_cons h).2.1
  rw [spP, h2, if_pos rfl]
theorem bnP_at {s rest : List UInt8} {i n limit : Nat} (h : s.drop i = 32 :: (decL n ++ rest)) (hn : n ≤ limit) (hl : limit ≤ 2147483647) (hr : rest = [] ∨ ∃ m, rest = 32 :: m) : bnP s i limit = .ok (n, i + 1 + (decL n).length) := by
  rw [bnP, spP_at h]
  exact numP_dec (drop_cons h).2.2 hn hl hr
theorem digL_cons (n : Nat) (ls : List Nat) : digL (n :: ls) = 32 :: (decL n ++ digL ls) := rfl
theorem digL_start (ls : List Nat) (rest : List UInt8) (hr : rest = [] ∨ ∃ m, rest = 32 :: m) : digL ls ++ rest = [] ∨ ∃ m, digL ls ++ rest = 32 :: m := by
  cases ls with
  | nil => exact hr
  | cons n ls => exact .inr ⟨_, rfl⟩
theorem drop_app {s a b : List UInt8} {i : Nat} (h : s.drop i = a ++ b) : s.drop (i + a.length) = b := by
  rw [← List.drop_drop, h, List.drop_left]
theorem numsP_dig {s : List UInt8} : ∀ (ls : List Nat) (i : Nat) (rest : List UInt8), s.drop i = digL ls ++ rest → (∀ n ∈ ls, n ≤ 2147483647) → (rest = [] ∨ ∃ m, rest = 32 :: m) → numsP s ls.length i = .ok (ls, i + (digL ls).length)
  | [], i, rest, h, _, _ => rfl
  | n :: ls, i, rest, h, hn, hr => by
    rw [digL_cons, List.cons_append, List.append_assoc] at h
    have hb := bnP_at h (hn n (List.mem_cons_self ..)) (Nat.le_refl _) (digL_start ls rest hr)
    have h2 := drop_app (drop_cons h).2.2
    have ih := numsP_dig ls (i + 1 + (decL n).length) rest h2 (fun m hm => hn m (List.mem_cons_of_mem _ hm)) hr
    rw [List.length_cons, numsP, hb]
    simp only
    rw [ih]
    simp only [digL_cons, List.length_cons, List.length_append, Except.ok.injEq, Prod.mk.injEq, true_and]; omega
theorem bqP_at {s t : List UInt8} {i : Nat} (h : s.drop i = 32 :: quo t) : bqP s i = .ok (t, i + 1 + (quo t).length) := by
  rw [bqP, spP_at h]
  simp only
  rw [quoP, (drop_cons h).2.2, unq_quo, if_pos rfl]
theorem wordP_kind (k : Nat) (hk : k < 6) (rest : List UInt8) : wordP (kindW.getD k [] ++ rest) 0 kindW = .ok (k, (kindW.getD k []).length) := by
  match k, hk with
  | 0, _ | 1, _ | 2, _ | 3, _ | 4, _ | 5, _ => cases rest <;> rfl
theorem wordL_turn (k : Nat) (hk : k < 8) : wordL (turnW.getD k []) turnW 0 0 = (some k, (turnW.getD k []).length) := by
  match k, hk with
  | 0, _ | 1, _ | 2, _ | 3, _ | 4, _ | 5, _ | 6, _ | 7, _ => rfl
theorem len_drop {s : List UInt8} {i : Nat} {m : List UInt8} (h : s.drop i = m) (hm : m ≠ [] ∨ i ≤ s.length) : s.length = i + m.length := by
  have := congrArg List.length h
  rw [List.length_drop] at this
  rcases hm with hm | hm
  · have : m.length ≠ 0 := fun h2 => hm (List.eq_nil_of_length_eq_zero h2)
    omega
  · omega
/-- What is printed is read as that edit. -/
theorem parse_text {e : Ed} (hc : cleanP e) : parseP (texL e) = .ok e := by
  obtain ⟨⟨hk, hs⟩, ⟨ra, rb', rc, rd⟩, h8, h255⟩ := hc
  unfold rng at ra rb' rc rd
  obtain ⟨k, a, b, c, d, t⟩ := e
  simp only at hk ra rb' rc rd h8 h255
  obtain ⟨na, rfl⟩ : ∃ n : Nat, a = n := ⟨a.toNat, by omega⟩
  obtain ⟨nb, rfl⟩ : ∃ n : Nat, b = n := ⟨b.toNat, by omega⟩
  obtain ⟨nc, rfl⟩ : ∃ n : Nat, c = n := ⟨c.toNat, by omega⟩
  obtain ⟨nd, rfl⟩ : ∃ n : Nat, d = n := ⟨d.toNat, by omega⟩
  rcases hk with rfl | rfl | rfl | rfl | rfl | rfl
  · have hb : (0 : Int) = nb := hs.2.2.1
    have hc : (0 : Int) = nc := hs.2.2.2.1
    have hd : (0 : Int) = nd := hs.2.2.2.2.1
    have ht : [] = t := hs.2.2.2.2.2
    obtain rfl : nb = 0 := by omega
    obtain rfl : nc = 0 := by omega
    obtain rfl : nd = 0 := by omega
    subst ht
    have h8' : na < 8 := by have := h8 rfl; omega
    have e1 : texL ⟨0, na, (0 : Nat), (0 : Nat), (0 : Nat), []⟩ = kindW.getD 0 [] ++ 32 :: turnW.getD na [] := by simp only [texL, if_true, Int.toNat_natCast]; rfl
    have hd : (kindW.getD 0 [] ++ 32 :: turnW.getD na []).drop 4 = 32 :: turnW.getD na [] := rfl
    have hd5 : (kindW.getD 0 [] ++ 32 :: turnW.getD na []).drop 5 = turnW.getD na [] := rfl
    have hl : (kindW.getD 0 [] ++ 32 :: turnW.getD na []).length = 5 + (turnW.getD na []).length := by simp [kindW]; omega
    rw [e1]
    generalize hS : kindW.getD 0 [] ++ 32 :: turnW.getD na [] = S at *
    rw [parseP, ← hS, wordP_kind 0 (by omega), hS]
    simp only [restP]
    rw [show (kindW.getD 0 []).length = 4 from rfl, spP_at hd]
    simp only
    rw [wordP, hd5, wordL_turn na h8']
    simp only
    rw [if_neg (by omega)]
    rfl
  · have ht : [] = t := hs.2.2.2.2.2
    subst ht
    have e1 : texL ⟨1, na, nb, nc, nd, []⟩ = kindW.getD 1 [] ++ digL [na, nb, nc, nd] := by simp only [texL, Int.reduceEq, ↓reduceIte, Int.toNat_natCast]; rfl
    have hd : (kindW.getD 1 [] ++ digL [na, nb, nc, nd]).drop 4 = digL [na, nb, nc, nd] ++ [] := by rw [List.append_nil]; rfl
    have hl : (kindW.getD 1 [] ++ digL [na, nb, nc, nd]).length = 4 + (digL [na, nb, nc, nd]).length := by simp [kindW]; omega
    rw [e1]
    generalize hS : kindW.getD 1 [] ++ digL [na, nb, nc, nd] = S at *
    rw [parseP, ← hS, wordP_kind 1 (by omega), hS]
    simp only [restP]
    have := numsP_dig [na, nb, nc, nd] 4 [] hd (by simp; omega) (.inl rfl)
    rw [show (kindW.getD 1 []).length = 4 from rfl, show numsP S 4 4 = _ from this]
    simp only
    rw [if_neg (by omega)]
    rfl
  · have ht : [] = t := hs.2.2.2.2.2
    subst ht
    have e1 : texL ⟨2, na, nb, nc, nd, []⟩ = kindW.getD 2 [] ++ digL [na, nb, nc, nd] := by simp only [texL, Int.reduceEq, ↓reduceIte, Int.toNat_natCast]; rfl
    have hd : (kindW.getD 2 [] ++ digL [na, nb, nc, nd]).drop 6 = digL [na, nb, nc, nd] ++ [] := by rw [List.append_nil]; rfl
    have hl : (kindW.getD 2 [] ++ digL [na, nb, nc, nd]).length = 6 + (digL [na, nb, nc, nd]).length := by simp [kindW]; omega
    rw [e1]
    generalize hS : kindW.getD 2 [] ++ digL [na, nb, nc, nd] = S at *
    rw [parseP, ← hS, wordP_kind 2 (by omega), hS]
    simp only [restP]
    have := numsP_dig [na, nb, nc, nd] 6 [] hd (by simp; omega) (.inl rfl)
    rw [show (kindW.getD 2 []).length = 6 from rfl, show numsP S 4 6 = _ from this]
    simp only
    rw [if_neg (by omega)]
    rfl
  · have hc : (0 : Int) = nc := hs.2.2.2.1
    have hd : (0 : Int) = nd := hs.2.2.2.2.1
    obtain rfl : nc = 0 := by omega
    obtain rfl : nd = 0 := by omega
    have h255' : nb ≤ 255 := by have := h255 rfl; omega
    have e1 : texL ⟨3, na, nb, (0 : Nat), (0 : Nat), t⟩ = kindW.getD 3 [] ++ 32 :: (decL na ++ 32 :: (decL nb ++ 32 :: quo t)) := by
      simp only [texL, Int.reduceEq, ↓reduceIte, Int.toNat_natCast, digL_cons, show digL [] = [] from rfl, List.append_nil, kindW, List.getD_cons_zero, List.getD_cons_succ]
      simp
    have hd1 : (kindW.getD 3 [] ++ 32 :: (decL na ++ 32 :: (decL nb ++ 32 :: quo t))).drop 3 = 32 :: (decL na ++ 32 :: (decL nb ++ 32 :: quo t)) := rfl
    have hl : (kindW.getD 3 [] ++ 32 :: (decL na ++ 32 :: (decL nb ++ 32 :: quo t))).length = 3 + 1 + (decL na).length + 1 + (decL nb).length + 1 + (quo t).length := by simp [kindW]; omega
    rw [e1]
    generalize hS : kindW.getD 3 [] ++ 32 :: (decL na ++ 32 :: (decL nb ++ 32 :: quo t)) = S at *
    rw [parseP, ← hS, wordP_kind 3 (by omega), hS]
    simp only [restP]
    have b1 := bnP_at hd1 (show na ≤ 2147483647 by omega) (Nat.le_refl _) (.inr ⟨_, rfl⟩)
    have hd2 := drop_app (drop_cons hd1).2.2
    have b2 := bnP_at hd2 h255' (by omega) (.inr ⟨_, rfl⟩)
    have hd3 := drop_app (drop_cons hd2).2.2
    have b3 := bqP_at hd3
    rw [show (kindW.getD 3 []).length = 3 from rfl, b1]
    simp only
    rw [b2]
    simp only
    rw [b3]
    simp only
    rw [if_neg (by omega)]
    rfl
  · have hb : (0 : Int) = nb := hs.2.2.1
    have hc : (0 : Int) = nc := hs.2.2.2.1
    have hd : (0 : Int) = nd := hs.2.2.2.2.1
    have ht : [] = t := hs.2.2.2.2.2
    obtain rfl : nb = 0 := by omega
    obtain rfl : nc = 0 := by omega
    obtain rfl : nd = 0 := by omega
    subst ht
    have e1 : texL ⟨4, na, (0 : Nat), (0 : Nat), (0 : Nat), []⟩ = kindW.getD 4 [] ++ 32 :: (decL na ++ []) := by simp only [texL, Int.reduceEq, ↓reduceIte, Int.toNat_natCast]; rfl
    have hd1 : (kindW.getD 4 [] ++ 32 :: (decL na ++ [])).drop 4 = 32 :: (decL na ++ []) := rfl
    have hl : (kindW.getD 4 [] ++ 32 :: (decL na ++ [])).length = 4 + 1 + (decL na).length := by simp [kindW]; omega
    rw [e1]
    generalize hS : kindW.getD 4 [] ++ 32 :: (decL na ++ []) = S at *
    rw [parseP, ← hS, wordP_kind 4 (by omega), hS]
    simp only [restP]
    have b1 := bnP_at hd1 (show na ≤ 2147483647 by omega) (Nat.le_refl _) (.inl rfl)
    rw [show (kindW.getD 4 []).length = 4 from rfl, b1]
    simp only
    rw [if_neg (by omega)]
    rfl
  · have ha : (0 : Int) = na := hs.2.1
    have hb : (0 : Int) = nb := hs.2.2.1
    have hc : (0 : Int) = nc := hs.2.2.2.1
    have hd : (0 : Int) = nd := hs.2.2.2.2.1
    obtain rfl : na = 0 := by omega
    obtain rfl : nb = 0 := by omega
    obtain rfl : nc = 0 := by omega
    obtain rfl : nd = 0 := by omega
    have e1 : texL ⟨5, (0 : Nat), (0 : Nat), (0 : Nat), (0 : Nat), t⟩ = kindW.getD 5 [] ++ 32 :: quo t := by simp only [texL, Int.reduceEq, ↓reduceIte]; rfl
    have hd1 : (kindW.getD 5 [] ++ 32 :: quo t).drop 4 = 32 :: quo t := rfl
    have hl : (kindW.getD 5 [] ++ 32 :: quo t).length = 4 + 1 + (quo t).length := by simp [kindW]; omega
    rw [e1]
    generalize hS : kindW.getD 5 [] ++ 32 :: quo t = S at *
    rw [parseP, ← hS, wordP_kind 5 (by omega), hS]
    simp only [restP]
    rw [show (kindW.getD 5 []).length = 4 from rfl, bqP_at hd1]
    simp only
    rw [if_neg (by omega)]
    rfl

/-! what is read is clean -/
theorem numP_lim {s : List UInt8} {i limit n j : Nat} (h : numP s i limit = .ok (n, j)) : n ≤ limit := by
  unfold numP at h
  split at h
  · cases h
  · split at h
    · cases h
    · simp only [Except.ok.injEq, Prod.mk.injEq] at h; omega
theorem bnP_lim {s : List UInt8} {i limit n j : Nat} (h : bnP s i limit = .ok (n, j)) : n ≤ limit := by
  unfold bnP at h
  split at h
  · cases h
  · exact numP_lim h
theorem numsP_lim {s : List UInt8} : ∀ {k i j : Nat} {l : List Nat}, numsP s k i = .ok (l, j) → l.length = k ∧ ∀ n ∈ l, n ≤ 2147483647
  | 0, i, j, l, h => by simp only [numsP, Except.ok.injEq, Prod.mk.injEq] at h; obtain ⟨rfl, _⟩ := h; simp
  | k + 1, i, j, l, h => by
    unfold numsP at h
    split at h
    · cases h
    · rename_i n j2 h1
      split at h
      · cases h
      · rename_i m j3 h3
        simp only [Except.ok.injEq, Prod.mk.injEq] at h
        obtain ⟨rfl, rfl⟩ := h
        have := numsP_lim h3
        refine ⟨by simp [this.1], fun x hx => ?_⟩
        rcases List.mem_cons.1 hx with rfl | hx
        · exact bnP_lim h1
        · exact this.2 x hx
theorem wordL_lt' (r : List UInt8) : ∀ (ws : List (List UInt8)) (k m j n : Nat), wordL r ws k m = (some j, n) → j < k + ws.length
  | [], k, m, j, n, h => by simp [wordL] at h
  | w :: ws, k, m, j, n, h => by
    rw [wordL] at h
    split at h
    · simp only [Prod.mk.injEq, Option.some.injEq] at h
      obtain ⟨rfl, rfl⟩ := h; simp
    · have := wordL_lt' r ws (k + 1) _ j n h
      simp only [List.length_cons]; omega
theorem wordP_lt' {s : List UInt8} {i k j : Nat} {ws : List (List UInt8)} (h : wordP s i ws = .ok (k, j)) : k < ws.length := by
  unfold wordP at h
  split at h
  · rename_i k' n hw
    simp only [Except.ok.injEq, Prod.mk.injEq] at h
    have := wordL_lt' _ _ _ _ _ _ hw
    omega
  · cases h
theorem unqE_len' {l : List UInt8} {i j : Nat} {x : List UInt8} (h : unqE l i = (j, some x)) : x.length ≤ 4 := by
  unfold unqE at h
  split at h
  · simp only [Prod.mk.injEq, Option.some.injEq] at h; obtain ⟨rfl, rfl⟩ := h; simp
  split at h
  · simp only [Prod.mk.injEq, Option.some.injEq] at h; obtain ⟨rfl, rfl⟩ := h; simp
  split at h
  · unfold unqU at h
    split at h
    · simp at h
    split at h
    · simp at h
    split at h
    · simp only [Prod.mk.injEq, Option.some.injEq] at h; obtain ⟨rfl, rfl⟩ := h
      unfold rb
      repeat' split
      all_goals simp
    · simp at h
  split at h
  · split at h
    · simp at h
    split at h
    · simp at h
    simp only [Prod.mk.injEq, Option.some.injEq] at h; obtain ⟨rfl, rfl⟩ := h; simp
  · simp at h
theorem unqL_len (l : List UInt8) : ∀ (f i : Nat) (out : List UInt8), (unqL l f i out).1.length ≤ out.length + 4 * f
  | 0, i, out => by simp [unqL, fault]
  | f + 1, i, out => by
    unfold unqL
    split
    · simp [fault]
    split
    · simp only; omega
    split
    · simp [fault]
    split
    · have := unqL_len l f (i + 1) (out ++ [l.getD i 0])
      simp only [List.length_append, List.length_singleton] at this; omega
    rcases hE : unqE l (i + 1) with ⟨j, _ | y⟩
    · simp [fault]
    · have := unqL_len l f j (out ++ y)
      have h4 := unqE_len' hE
      simp only [List.length_append] at this ⊢; omega
theorem unq_len (l : List UInt8) : (unq l).1.length ≤ 4 * l.length := by
  unfold unq
  split
  · simp [fault]
  · have := unqL_len l l.length 1 []; simpa using this
theorem bqP_len {s t : List UInt8} {i j : Nat} (h : bqP s i = .ok (t, j)) : t.length ≤ 4 * s.length := by
  unfold bqP at h
  split at h
  · cases h
  · rename_i j2 _
    unfold quoP at h
    split at h
    · simp only [Except.ok.injEq, Prod.mk.injEq] at h
      have := unq_len (s.drop j2)
      rw [List.length_drop] at this
      rw [← h.1]; omega
    · cases h
theorem parse_clean {s : List UInt8} {e : Ed} (h : parseP s = .ok e) : cleanP e ∧ e.body.length ≤ 4 * s.length := by
  unfold parseP at h
  split at h
  · cases h
  rename_i k i hw
  have hk := wordP_lt' hw
  split at h
  · cases h
  rename_i e' j hr
  split at h
  · cases h
  simp only [Except.ok.injEq] at h
  subst h
  match k, hk with
  | 0, _ =>
    simp only [restP] at hr
    split at hr
    · cases hr
    split at hr
    · cases hr
    rename_i t j3 ht
    have h8 := wordP_lt' ht
    simp only [Except.ok.injEq, Prod.mk.injEq] at hr
    obtain ⟨rfl, _⟩ := hr
    have : t < 8 := h8
    refine ⟨?_, by simp⟩
    simp [cleanP, kindOk, sameEd, edOf, rng]; omega
  | 1, _ =>
    simp only [restP] at hr
    split at hr
    · cases hr
    rename_i l j3 hl
    obtain ⟨h4, hm⟩ := numsP_lim hl
    match l, h4 with
    | [a, b, c, d], _ =>
      simp only [Except.ok.injEq, Prod.mk.injEq] at hr
      obtain ⟨rfl, _⟩ := hr
      have ha := hm a (by simp); have hb := hm b (by simp); have hc := hm c (by simp); have hd := hm d (by simp)
      refine ⟨?_, by simp⟩
      simp only [cleanP, kindOk, sameEd, edOf, rng, List.getD_cons_zero, List.getD_cons_succ]
      simp
      omega
  | 2, _ =>
    simp only [restP] at hr
    split at hr
    · cases hr
    rename_i l j3 hl
    obtain ⟨h4, hm⟩ := numsP_lim hl
    match l, h4 with
    | [a, b, c, d], _ =>
      simp only [Except.ok.injEq, Prod.mk.injEq] at hr
      obtain ⟨rfl, _⟩ := hr
      have ha := hm a (by simp); have hb := hm b (by simp); have hc := hm c (by simp); have hd := hm d (by simp)
      refine ⟨?_, by simp⟩
      simp only [cleanP, kindOk, sameEd, edOf, rng, List.getD_cons_zero, List.getD_cons_succ]
      simp
      omega
  | 3, _ =>
    simp only [restP] at hr
    split at hr
    · cases hr
    rename_i a j1 ha
    split at hr
    · cases hr
    rename_i b j2 hb
    split at hr
    · cases hr
    rename_i t j3 ht
    simp only [Except.ok.injEq, Prod.mk.injEq] at hr
    obtain ⟨rfl, _⟩ := hr
    have ha := bnP_lim ha; have hb := bnP_lim hb
    refine ⟨?_, bqP_len ht⟩
    simp only [cleanP, kindOk, sameEd, edOf, rng]
    simp
    omega
  | 4, _ =>
    simp only [restP] at hr
    split at hr
    · cases hr
    rename_i a j1 ha
    simp only [Except.ok.injEq, Prod.mk.injEq] at hr
    obtain ⟨rfl, _⟩ := hr
    have ha := bnP_lim ha
    refine ⟨?_, by simp⟩
    simp only [cleanP, kindOk, sameEd, edOf, rng]
    simp
    omega
  | 5, _ =>
    simp only [restP] at hr
    split at hr
    · cases hr
    rename_i t j1 ht
    simp only [Except.ok.injEq, Prod.mk.injEq] at hr
    obtain ⟨rfl, _⟩ := hr
    refine ⟨?_, bqP_len ht⟩
    simp [cleanP, kindOk, sameEd, edOf, rng]
end Go.Proofs.YtgibicifflfpfaaDoor
