/- The hash in plain words, for the later layers: as P03b, without what V18 has, and without the calls that layer 03 fixes. -/
import Derived.Test.YtojomdlccjlioaaAPW
namespace Go.Proofs.Ytojomdlccjlioaa
open Go.Aq Go.IntWalk
set_option linter.unusedVariables false

/-- The hash, as an exclusive or. -/
def hN (key s : ByteArray) : Nat → Nat
  | 0 => 0
  | k + 1 => hN key s k ^^^ (if bitv s k = 1 then (winv key k).toNat else 0)
theorem win_nat (key : ByteArray) (n : Int) : (winv key n).toNat < 2 ^ 32 := by have := winv_lo key n; omega
theorem hN_lt (key s : ByteArray) : ∀ k, hN key s k < 2 ^ 32
  | 0 => by simp [hN]
  | k + 1 => by
    have h1 := hN_lt key s k
    have h2 := win_nat key k
    unfold hN
    split
    · exact Nat.xor_lt_two_pow h1 h2
    · simpa using h1
theorem xor_u32 (a b : Nat) (ha : a < 2 ^ 32) (hb : b < 2 ^ 32) : bXor .u32 (a : Int) (b : Int) = ((a ^^^ b : Nat) : Int) := by
  have := Nat.xor_lt_two_pow ha hb
  rw [bXor_nat .u32 a b ha hb, u32_in _ (by omega)]
theorem hstep_nat (key : ByteArray) (h : Nat) (hh : h < 2 ^ 32) (n : Int) : hstep key (h : Int) n = ((h ^^^ (winv key n).toNat : Nat) : Int) := by
  have w := winv_lo key n
  have wn := win_nat key n
  unfold hstep
  generalize winv key n = v at *
  obtain ⟨m, rfl⟩ := Int.eq_ofNat_of_zero_le w.1
  rw [Int.toNat_natCast] at wn ⊢
  exact xor_u32 h m hh wn
theorem fold_hN (key s : ByteArray) : ∀ k, (onesTo s k).foldl (hstep key) 0 = (hN key s k : Int)
  | 0 => rfl
  | k + 1 => by
    have ih := fold_hN key s k
    unfold onesTo hN
    split
    · rw [List.foldl_append, ih]; exact hstep_nat key _ (hN_lt key s k) _
    · rw [ih]; simp
theorem hsh_eq (key s : ByteArray) : hsh key s = (hN key s (8 * s.size) : Int) := fold_hN key s _
theorem Hash_S (k : Nat) (key s : ByteArray) (hk : 4 ≤ key.size ∧ key.size ≤ 52) (hs : s.size ≤ 140737488351232) : F_toeplitz_Hash.S k key s = .ok ((hN key s (8 * s.size) : Int), 0) := by
  unfold F_toeplitz_Hash.S; rw [if_neg (by omega), if_pos hs, hsh_eq]
theorem Hash_bad (k : Nat) (key s : ByteArray) (hk : key.size < 4 ∨ 52 < key.size) : F_toeplitz_Hash.S k key s = .ok (0, 30) := by
  unfold F_toeplitz_Hash.S; rw [if_pos hk]

/-- Texts that have the same bits have the same hash. -/
theorem hN_congr (key s t : ByteArray) : ∀ k, (∀ i : Nat, i < k → bitv s i = bitv t i) → hN key s k = hN key t k
  | 0, _ => rfl
  | k + 1, h => by rw [hN, hN, hN_congr key s t k fun i hi => h i (by omega), h k (by omega)]
/-- Noughts behind a text make no difference. -/
theorem hN_more (key s : ByteArray) (k : Nat) : ∀ j, (∀ i : Nat, k ≤ i → i < k + j → bitv s i = 0) → hN key s (k + j) = hN key s k
  | 0, _ => rfl
  | j + 1, h => by
    rw [← Nat.add_assoc, hN, hN_more key s k j fun i h1 h2 => h i h1 (by omega), if_neg (by rw [h (k + j) (by omega) (by omega)]; decide), Nat.xor_zero]
theorem bitv_out (s : ByteArray) (i : Nat) (h : 8 * s.size ≤ i) : bitv s i = 0 := by unfold bitv; rw [if_pos (by omega)]
theorem hN_end (key s : ByteArray) (k : Nat) (h : 8 * s.size ≤ k) : hN key s k = hN key s (8 * s.size) := by
  obtain ⟨j, rfl⟩ : ∃ j, k = 8 * s.size + j := ⟨k - 8 * s.size, by omega⟩
  exact hN_more key s _ j fun i h1 _ => bitv_out s i h1
theorem xor_mid (a b c d : Nat) : (a ^^^ b) ^^^ (c ^^^ d) = (a ^^^ c) ^^^ (b ^^^ d) := by
  apply Nat.eq_of_testBit_eq; intro i
  simp only [Nat.testBit_xor]
  cases a.testBit i <;> cases b.testBit i <;> cases c.testBit i <;> cases d.testBit i <;> rfl
/-- The hash of an exclusive or is that of the hashes. -/
theorem hN_lin (key a b c : ByteArray) : ∀ k, (∀ i : Nat, i < k → bitv c i = (bitv a i + bitv b i) % 2) → hN key c k = hN key a k ^^^ hN key b k
  | 0, _ => by simp [hN]
  | k + 1, h => by
    rw [hN, hN, hN, hN_lin key a b c k fun i hi => h i (by omega), xor_mid]
    congr 1
    have h0 := h k (by omega)
    rcases bitv_01 a k with ha | ha <;> rcases bitv_01 b k with hb | hb <;> rw [ha, hb] at h0 <;> simp [ha, hb, h0]

/-! ### The document's functions -/
theorem rBit_S (k : Nat) (hk : 8 ≤ k) (s : ByteArray) (n : Int) (hs : s.size ≤ 140737488351232) : F_aqueductref03_Bit.S k s n = .ok (bitv s n) := by
  have lp : ∀ (m : Nat) (j : Nat) (c : Int), 0 ≤ c → c ≤ 255 → m ≤ 7 → m < j → F_aqueductref03_Bit.l0 k j c ((7 - m : Nat) : Int) = .ok (c / 2 ^ m % 2) := by
    intro m
    induction m with
    | zero =>
      intro j c h0 h1 _ hj
      obtain ⟨j, rfl⟩ : ∃ i, j = i + 1 := ⟨j - 1, by omega⟩
      show F_aqueductref03_Bit.l0_b k _ _ _ = _
      unfold F_aqueductref03_Bit.l0_b
      rw [O.cond_neg (by omega), rem_in c 2 h0, Int.pow_zero, Int.ediv_one]
    | succ m ih =>
      intro j c h0 h1 hm hj
      obtain ⟨j, rfl⟩ : ∃ i, j = i + 1 := ⟨j - 1, by omega⟩
      show F_aqueductref03_Bit.l0_b k _ _ _ = _
      unfold F_aqueductref03_Bit.l0_b
      rw [O.cond_pos (by omega), quo_in c 2 h0, i64_in (c / 2) (by omega), i64_in _ (by omega), show ((7 - (m + 1) : Nat) : Int) + 1 = ((7 - m : Nat) : Int) by omega, ih j (c / 2) (by omega) (by omega) (by omega) (by omega), Int.ediv_ediv_of_nonneg (by decide), Int.pow_succ, Int.mul_comm]
  unfold F_aqueductref03_Bit.S F_aqueductref03_Bit.top bitv
  rw [i64_in (8 * _) (by omega)]
  by_cases h0 : n < 0
  · rw [O.cond_pos h0, if_pos (.inl h0)]
  · rw [O.cond_neg h0]
    by_cases h1 : n ≥ 8 * s.size
    · rw [O.cond_pos h1, if_pos (.inr h1)]
    · have b0 := bt_lo s (n / 8); have b1 := bt_hi s (n / 8)
      rw [O.cond_neg h1, if_neg (by omega), quo_in n 8 (by omega), rem_in n 8 (by omega), i64_in (n / 8) (by omega), O.chk_dec (by omega), i64_in (bt s _) (by omega)]
      have := lp (7 - n % 8).toNat k (bt s (n / 8)) b0 b1 (by omega) (by omega)
      rwa [show ((7 - (7 - n % 8).toNat : Nat) : Int) = n % 8 by omega] at this
theorem rWindow_S (k : Nat) (hk : 40 ≤ k) (key : ByteArray) (n : Int) (hs : key.size ≤ 140737488351232) : F_aqueductref03_Window.S k key n = .ok (winv key n) := by
  have lp : ∀ (m i j : Nat), i + m = 32 → m < j → -40 ≤ n → n ≤ 8 * key.size → F_aqueductref03_Window.l0 k key n j (wacc key n i) (i : Int) = .ok (wacc key n 32) := by
    intro m
    induction m with
    | zero =>
      intro i j hi hj h0 h1
      obtain rfl : i = 32 := by omega
      obtain ⟨j, rfl⟩ : ∃ i, j = i + 1 := ⟨j - 1, by omega⟩
      have w := wacc_lo key n 32
      show F_aqueductref03_Window.l0_b k key n _ _ _ = _
      unfold F_aqueductref03_Window.l0_b
      rw [O.cond_neg (by decide), u32_in _ (by omega)]
    | succ m ih =>
      intro i j hi hj h0 h1
      obtain ⟨j, rfl⟩ : ∃ i, j = i + 1 := ⟨j - 1, by omega⟩
      show F_aqueductref03_Window.l0_b k key n _ _ _ = _
      unfold F_aqueductref03_Window.l0_b
      have w := wacc_lo key n i
      have : (2 : Int) ^ i ≤ 2 ^ 31 := by
        have : (2 : Nat) ^ i ≤ 2 ^ 31 := Nat.pow_le_pow_right (by omega) (by omega)
        have e : ((2 ^ i : Nat) : Int) = (2 : Int) ^ i := by push_cast; rfl
        omega
      have hb := bitv_01 key (n + i)
      rw [O.cond_pos (by omega), i64_in (n + i) (by omega), rBit_S k (by omega) _ _ hs, O.bind_ok, i64_in (2 * _) (by omega), i64_in (_ + bitv _ _) (by omega), i64_in ((i : Int) + 1) (by omega)]
      exact ih (i + 1) j (by omega) (by omega) h0 h1
  have zero : ∀ i : Nat, i ≤ 32 → n < -32 → wacc key n i = 0 := by
    intro i
    induction i with
    | zero => intro _ _; rfl
    | succ i ih => intro hi hn; rw [wacc, ih (by omega) hn]; unfold bitv; rw [if_pos (by omega)]; rfl
  unfold F_aqueductref03_Window.S F_aqueductref03_Window.top winv
  rw [i64_in (8 * _) (by omega)]
  by_cases h0 : n < -40
  · rw [O.cond_pos h0, if_pos (by omega)]
  · rw [O.cond_neg h0]
    by_cases h1 : n > 8 * key.size
    · rw [O.cond_pos h1, if_pos (.inr h1)]
    · rw [O.cond_neg h1, show (0 : Int) = wacc key n 0 from rfl]
      have := lp 32 0 k (by omega) (by omega) (by omega) (by omega)
      rw [show ((0 : Nat) : Int) = 0 from rfl] at this
      show F_aqueductref03_Window.l0 k key n k (wacc key n 0) 0 = _
      rw [this]
      by_cases h2 : n < -32
      · rw [if_pos (.inl h2), zero 32 (by omega) h2]; rfl
      · rw [if_neg (by omega)]
theorem rHash_S (k : Nat) (key s : ByteArray) (hk : 4 ≤ key.size ∧ key.size ≤ 52) (hs : s.size ≤ 1000000) (hj : 8 * s.size + 40 ≤ k) : F_aqueductref03_Hash.S k key s = .ok ((hN key s (8 * s.size) : Int), 0) := by
  have lp : ∀ (m i j : Nat), i + m = 8 * s.size → m < j → F_aqueductref03_Hash.l0 k key s j (hN key s i : Int) (i : Int) = .ok ((hN key s (8 * s.size) : Int), 0) := by
    intro m
    induction m with
    | zero =>
      intro i j hi hj
      obtain ⟨j, rfl⟩ : ∃ i, j = i + 1 := ⟨j - 1, by omega⟩
      show F_aqueductref03_Hash.l0_b k key s _ _ _ = _
      unfold F_aqueductref03_Hash.l0_b
      rw [i64_in (8 * _) (by omega), O.cond_neg (by omega), show i = 8 * s.size by omega]
    | succ m ih =>
      intro i j hi hj
      obtain ⟨j, rfl⟩ : ∃ i, j = i + 1 := ⟨j - 1, by omega⟩
      show F_aqueductref03_Hash.l0_b k key s _ _ _ = _
      unfold F_aqueductref03_Hash.l0_b
      have := ih (i + 1) j (by omega) (by omega)
      rw [hN] at this
      rw [i64_in (8 * _) (by omega), O.cond_pos (by omega), rBit_S k (by omega) _ _ (by omega), O.bind_ok, i64_in ((i : Int) + 1) (by omega)]
      by_cases hb : bitv s i = 1
      · rw [O.cond_pos hb, rWindow_S k (by omega) _ _ (by omega), O.bind_ok, show bXor .u32 (hN key s i : Int) (winv key i) = hstep key (hN key s i : Int) i from rfl, hstep_nat key _ (hN_lt key s i)]
        rw [if_pos hb] at this
        exact this
      · rw [O.cond_neg hb]
        rw [if_neg hb, Nat.xor_zero] at this
        exact this
  unfold F_aqueductref03_Hash.S F_aqueductref03_Hash.top
  rw [O.cond_neg (by omega), O.cond_neg (by omega)]
  exact lp (8 * s.size) 0 k (by omega) (by omega)
theorem rHash_bad (k : Nat) (key s : ByteArray) (hk : key.size < 4 ∨ 52 < key.size) : F_aqueductref03_Hash.S k key s = .ok (0, 30) := by
  unfold F_aqueductref03_Hash.S F_aqueductref03_Hash.top
  by_cases h : key.size < 4
  · rw [O.cond_pos (by omega)]
  · rw [O.cond_neg (by omega), O.cond_pos (by omega)]
end Go.Proofs.Ytojomdlccjlioaa
