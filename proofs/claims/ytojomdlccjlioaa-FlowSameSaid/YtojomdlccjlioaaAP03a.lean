/- What a bit of bytes and a key's window are, in plain words; the hash. -/
import Derived.Test.YtojomdlccjlioaaAS0
import Derived.Test.YtojomdlccjlioaaV14
namespace Go.Proofs.Ytojomdlccjlioaa
open Go.Aq Go.IntWalk
set_option linter.unusedVariables false

/-- A bit of bytes: nought beyond. -/
def bitv (s : ByteArray) (n : Int) : Int := if n < 0 ∨ n ≥ 8 * s.size then 0 else bt s (n / 8) / 2 ^ (7 - n % 8).toNat % 2
theorem bitv_01 (s : ByteArray) (n : Int) : bitv s n = 0 ∨ bitv s n = 1 := by unfold bitv; split <;> omega
theorem bit_S (k : Nat) (s : ByteArray) (n : Int) (hs : s.size ≤ 140737488351232) : F_toeplitz_bit.S k s n = .ok (bitv s n) := by
  unfold F_toeplitz_bit.S bitv
  rw [i64_in (8 * _) (by omega)]
  by_cases h0 : n < 0
  · rw [O.cond_pos h0, if_pos (.inl h0)]
  · rw [O.cond_neg h0]
    by_cases h1 : n ≥ 8 * s.size
    · rw [O.cond_pos h1, if_pos (.inr h1)]
    · have b0 := bt_lo s (n / 8); have b1 := bt_hi s (n / 8)
      rw [O.cond_neg h1, if_neg (by omega), quo_in n 8 (by omega), rem_in n 8 (by omega), i64_in (n / 8) (by omega), i64_in (7 - n % 8) (by omega), O.chk_dec (by omega), O.chk_dec (by omega)]
      have e : shR .u8 (bt s (n / 8)) (7 - n % 8) = bt s (n / 8) / 2 ^ (7 - n % 8).toNat := by
        unfold shR
        rw [show min (7 - n % 8).toNat IntKind.u8.bits = (7 - n % 8).toNat from Nat.min_eq_left (by show _ ≤ 8; omega), Int.fdiv_eq_ediv_of_nonneg _ (Int.pow_nonneg (by omega))]
      rw [e]
      have d0 : 0 ≤ bt s (n / 8) / 2 ^ (7 - n % 8).toNat := Int.ediv_nonneg b0 (Int.pow_nonneg (by omega))
      have d1 : bt s (n / 8) / 2 ^ (7 - n % 8).toNat ≤ 255 := Int.le_trans (Int.ediv_le_self _ b0) b1
      generalize bt s (n / 8) / 2 ^ (7 - n % 8).toNat = d at *
      rw [u32_in d (by omega)]
      have := bAnd_mask .u32 d 1 d0 (by rw [bits32]; omega) (by decide)
      rw [show ((2 : Int) ^ 1 - 1) = 1 from rfl, show ((2 : Int) ^ 1) = 2 from rfl] at this
      rw [this, u32_in _ (by omega)]
/-- So many bits from one on. -/
def wacc (key : ByteArray) (at' : Int) : Nat → Int
  | 0 => 0
  | i + 1 => 2 * wacc key at' i + bitv key (at' + i)
theorem wacc_lo (key : ByteArray) (at' : Int) : ∀ i, 0 ≤ wacc key at' i ∧ wacc key at' i < 2 ^ i
  | 0 => by simp [wacc]
  | i + 1 => by
    have := wacc_lo key at' i
    have := bitv_01 key (at' + i)
    rw [Int.pow_succ, wacc]
    omega
/-- A window: 32 bits from one on. -/
def winv (key : ByteArray) (at' : Int) : Int := if at' < -32 ∨ at' > 8 * key.size then 0 else wacc key at' 32
theorem winv_lo (key : ByteArray) (at' : Int) : 0 ≤ winv key at' ∧ winv key at' ≤ 4294967295 := by
  have := wacc_lo key at' 32
  unfold winv; split <;> omega
theorem shl1_u32 (v : Int) (b : Int) (h : 0 ≤ v ∧ v < 2147483648) (hb : b = 0 ∨ b = 1) : bOr .u32 (shL .u32 v 1) b = 2 * v + b := by
  have s1 : shL .u32 v 1 = IntKind.u32.wrap (v * 2 ^ 1) := shL_eq .u32 v 1 (by decide)
  rw [s1, show ((2 : Int) ^ 1) = 2 from rfl, u32_in _ (by omega)]
  have := bOr_join .u32 v b 1 h.1 (by omega) (by omega) (by rw [bits32]; omega) (by decide)
  rw [show ((2 : Int) ^ 1) = 2 from rfl] at this
  rw [this, u32_in _ (by omega)]; omega
theorem Window_S (k : Nat) (hk : 33 ≤ k) (key : ByteArray) (n : Int) (hs : key.size ≤ 140737488351232) : F_toeplitz_Window.S k key n = .ok (winv key n) := by
  have lp : ∀ (m i : Nat), i + m = 32 → -32 ≤ n → n ≤ 8 * key.size → F_toeplitz_Window.l0 k key n (m + 1) (wacc key n i) (i : Int) = .ok (wacc key n 32) := by
    intro m
    induction m with
    | zero =>
      intro i hi h0 h1
      obtain rfl : i = 32 := by omega
      show F_toeplitz_Window.l0_b k key n _ _ _ = _
      unfold F_toeplitz_Window.l0_b
      rw [O.cond_neg (by decide)]
    | succ m ih =>
      intro i hi h0 h1
      show F_toeplitz_Window.l0_b k key n _ _ _ = _
      unfold F_toeplitz_Window.l0_b
      have w := wacc_lo key n i
      have : (2 : Int) ^ i ≤ 2 ^ 31 := by
        have : (2 : Nat) ^ i ≤ 2 ^ 31 := Nat.pow_le_pow_right (by omega) (by omega)
        have e : ((2 ^ i : Nat) : Int) = (2 : Int) ^ i := by push_cast; rfl
        omega
      rw [O.cond_pos (by omega), i64_in (n + i) (by omega), bit_S k _ _ hs, O.bind_ok, shl1_u32 _ _ ⟨w.1, by omega⟩ (bitv_01 _ _), i64_in ((i : Int) + 1) (by omega)]
      exact ih (i + 1) (by omega) h0 h1
  obtain ⟨j, rfl⟩ : ∃ j, k = j + 33 := ⟨k - 33, by omega⟩
  have more : ∀ (j' : Nat) (m : Nat) (v i : Int) (r : Int), F_toeplitz_Window.l0 (j + 33) key n m v i = .ok r → F_toeplitz_Window.l0 (j + 33) key n (m + j') v i = .ok r := by
    intro j' m
    induction m with
    | zero => intro v i r h; cases h
    | succ m ih =>
      intro v i r h
      rw [show m + 1 + j' = (m + j') + 1 from by omega]
      change F_toeplitz_Window.l0_b (j + 33) key n _ _ _ = _ at h
      show F_toeplitz_Window.l0_b (j + 33) key n _ _ _ = _
      unfold F_toeplitz_Window.l0_b at h ⊢
      by_cases c : i < 32
      · rw [O.cond_pos c, bit_S _ _ _ hs, O.bind_ok] at h ⊢
        exact ih _ _ _ h
      · rw [O.cond_neg c] at h ⊢; exact h
  unfold F_toeplitz_Window.S F_toeplitz_Window.top winv
  rw [i64_in (8 * _) (by omega)]
  by_cases h0 : n < -32
  · rw [O.cond_pos h0, if_pos (.inl h0)]
  · rw [O.cond_neg h0]
    by_cases h1 : n > 8 * key.size
    · rw [O.cond_pos h1, if_pos (.inr h1)]
    · rw [O.cond_neg h1, if_neg (by omega)]
      have := lp 32 0 (by omega) (by omega) (by omega)
      have := more j 33 _ _ _ this
      rw [show 33 + j = j + 33 by omega] at this
      exact this
/-- The places of the bits that are 1, of the first so many. -/
def onesTo (s : ByteArray) : Nat → List Int
  | 0 => []
  | k + 1 => if bitv s k = 1 then onesTo s k ++ [(k : Int)] else onesTo s k
theorem onesTo_len (s : ByteArray) : ∀ k, (onesTo s k).length ≤ k
  | 0 => Nat.le_refl _
  | k + 1 => by have := onesTo_len s k; unfold onesTo; split <;> simp <;> omega
def hstep (key : ByteArray) (h n : Int) : Int := bXor .u32 h (winv key n)
/-- The hash. -/
def hsh (key s : ByteArray) : Int := (onesTo s (8 * s.size)).foldl (hstep key) 0
noncomputable def F_toeplitz_Hash.as : As := .some (.cons (.leaf .str) (.one (.leaf .str)))
noncomputable def F_toeplitz_Hash.rt : Rt := .tup (.cons (.leaf (.int .u32)) (.one (.leaf (.int .i64))))
noncomputable def F_toeplitz_Hash.S (k : Nat) (a0 a1 : ByteArray) : O (Int × Int) :=
  if a0.size < 4 ∨ 52 < a0.size then .ok (0, 30) else if a1.size ≤ 140737488351232 then .ok (hsh a0 a1, 0) else .no
end Go.Proofs.Ytojomdlccjlioaa
