/- The plain law of HashParts: the hash of a text is that of its beginning, and of what follows with noughts in the beginning's place; a window one bit on is the one ahead, shifted. -/
import Derived.Test.YtmpmdfgjejkaiaaCP03c
namespace Go.Proofs.Ytmpmdfgjejkaiaa.Pure
open Go.Aq Go.IntWalk
theorem wacc_head (key : ByteArray) : ∀ (i : Nat) (n : Int), wacc key n (i + 1) = bitv key n * 2 ^ i + wacc key (n + 1) i
  | 0, n => by simp [wacc]
  | i + 1, n => by
    rw [wacc, wacc_head key i n, wacc, Int.pow_succ]
    rw [show n + ((i + 1 : Nat) : Int) = n + 1 + (i : Int) by push_cast; omega]
    generalize (2 : Int) ^ i = p
    have : ∀ b : Int, 2 * (b * p) = b * (p * 2) := by intro b; rw [Int.mul_comm p 2, ← Int.mul_assoc, ← Int.mul_assoc, Int.mul_comm 2 b]
    have := this (bitv key n)
    omega
theorem win_next (key : ByteArray) (n : Nat) : winv key ((n + 1 : Nat) : Int) / 2 = winv key (n : Int) % 2147483648 := by
  by_cases h : 8 * key.size ≤ n
  · have h1 : winv key ((n + 1 : Nat) : Int) = 0 := by unfold winv; rw [if_pos (by omega)]
    have h2 : winv key (n : Int) = 0 := by
      unfold winv
      by_cases h3 : (n : Int) > 8 * key.size
      · rw [if_pos (.inr h3)]
      · rw [if_neg (by omega)]
        have : ∀ i : Nat, wacc key (n : Int) i = 0 := by
          intro i
          induction i with
          | zero => rfl
          | succ i ih => rw [wacc, ih, show (n : Int) + (i : Int) = ((n + i : Nat) : Int) by push_cast; rfl, bitv_out _ _ (by omega)]; rfl
        exact this 32
    rw [h1, h2]; rfl
  · unfold winv
    rw [if_neg (by omega), if_neg (by omega), wacc_head key 31 n]
    have w := wacc_lo key ((n : Int) + 1) 31
    rw [show ((n + 1 : Nat) : Int) = (n : Int) + 1 by push_cast; rfl, wacc]
    have b1 := bitv_01 key (n : Int); have b2 := bitv_01 key ((n : Int) + 1 + (31 : Nat))
    rw [show ((2 : Int) ^ 31) = 2147483648 from rfl] at *
    rcases b1 with b1 | b1 <;> rw [b1] <;> omega
theorem bAnd_511 (a : Int) : 0 ≤ bAnd .i64 a 511 ∧ bAnd .i64 a 511 ≤ 511 := by
  have h : (BitVec.ofInt 64 a &&& BitVec.ofInt 64 511).toNat ≤ 511 := by
    rw [BitVec.toNat_and]; exact Nat.and_le_right
  unfold bAnd
  rw [show IntKind.i64.bits = 64 from rfl, i64_in _ (by omega)]
  omega
theorem bAnd_16 (a : Int) : 0 ≤ bAnd .i64 a 65535 ∧ bAnd .i64 a 65535 ≤ 65535 := by
  have h : (BitVec.ofInt 64 a &&& BitVec.ofInt 64 65535).toNat ≤ 65535 := by
    rw [BitVec.toNat_and]; exact Nat.and_le_right
  unfold bAnd
  rw [show IntKind.i64.bits = 64 from rfl, i64_in _ (by omega)]
  omega
theorem HashParts : ∀ (a0 : ByteArray) (a1 : ByteArray) (a2 : Int), a0.size ≤ 140737488351232 → a1.size ≤ 140737488351232 → (Lit.int .i64 a2).wf = true → ∃ k, F_aqueductlaw03_HashParts.S k a0 a1 a2 = .ok true := by
  intro a0 a1 a2 h0 h1 h2
  refine ⟨2000, ?_⟩
  unfold F_aqueductlaw03_HashParts.S
  rw [O.chk_dec (by omega)]
  have hs : (a1.extract 0 (min (a1.size : Int) 100).toNat).size ≤ 100 := by rw [ext_size]; omega
  generalize a1.extract 0 (min (a1.size : Int) 100).toNat = s at *
  have x := bAnd_16 a2
  have y := bAnd_511 a2
  generalize bAnd .i64 a2 65535 = X at *
  obtain ⟨Y, hY⟩ : ∃ Y : Nat, bAnd .i64 a2 511 = (Y : Int) := ⟨(bAnd .i64 a2 511).toNat, by omega⟩
  have hY5 : Y ≤ 511 := by omega
  rw [hY]
  have c0 := Int.emod_nonneg X (b := (s.size : Int) + 1) (by omega)
  have c1 := Int.emod_lt_of_pos X (b := (s.size : Int) + 1) (by omega)
  rw [i64_in ((s.size : Int) + 1) (by omega), rem_in X _ x.1, O.chk_dec (by omega)]
  obtain ⟨c, hc⟩ : ∃ c : Nat, X % ((s.size : Int) + 1) = (c : Int) := ⟨(X % ((s.size : Int) + 1)).toNat, by omega⟩
  have hcs : c ≤ s.size := by omega
  rw [hc]
  rw [Int.toNat_natCast]
  have zz : (⟨#[0, 0]⟩ : ByteArray).size = 2 := rfl
  have s1 : (s.extract 0 c).size = c := by rw [ext_size]; omega
  have s2 : (strOf (List.replicate c 0) ++ s.extract c s.size).size = s.size := by rw [app_size, size_strOf, List.length_replicate, ext_size]; omega
  have s3 : (s ++ ⟨#[0, 0]⟩).size = s.size + 2 := by rw [app_size, zz]
  have e1 : hN a0 s (8 * s.size) = hN a0 (s.extract 0 c) (8 * c) ^^^ hN a0 (strOf (List.replicate c 0) ++ s.extract c s.size) (8 * s.size) := by
    have := hN_end a0 (s.extract 0 c) (8 * s.size) (by omega)
    rw [s1] at this
    rw [← this]
    refine hN_lin a0 _ _ _ _ fun i hi => ?_
    rw [bitv_take s c i hcs, bitv_rest s c i hcs]
    have := bitv_01 s i
    split <;> omega
  have e2 : hN a0 (s ++ ⟨#[0, 0]⟩) (8 * (s.size + 2)) = hN a0 s (8 * s.size) := by
    rw [show 8 * (s.size + 2) = 8 * s.size + 16 by omega, hN_more _ _ _ 16 fun i h1 h2 => ?_]
    · exact hN_congr _ _ _ _ fun i hi => bitv_app s _ i hi
    · refine bitv_byte0 _ i ?_
      rw [bt_app, if_neg (by omega)]
      have : i / 8 - s.size = 0 ∨ i / 8 - s.size = 1 := by omega
      rcases this with e | e <;> rw [e] <;> rfl
  have w1 := winv_lo a0 ((Y + 1 : Nat) : Int)
  have w0 := winv_lo a0 (Y : Int)
  have nx := win_next a0 Y
  have sh : shR .u32 (winv a0 ((Y + 1 : Nat) : Int)) 1 = winv a0 ((Y + 1 : Nat) : Int) / 2 ^ 1 := shR_eq .u32 _ 1 (by decide)
  have mk := bAnd_mask .u32 (winv a0 (Y : Int)) 31 w0.1 (by rw [bits32]; omega) (by decide)
  rw [show ((2 : Int) ^ 31 - 1) = 2147483647 from rfl, show ((2 : Int) ^ 31) = 2147483648 from rfl, u32_in _ (by omega)] at mk
  have last : (decide (shR .u32 (winv a0 ((Y + 1 : Nat) : Int)) 1 = bAnd .u32 (winv a0 (Y : Int)) 2147483647)) = true := by
    rw [sh, mk, show ((2 : Int) ^ 1) = 2 from rfl]; exact decide_eq_true nx
  have q1 : (strOf (List.replicate c 0)).size + (s.extract c s.size).size = s.size := by rw [← app_size, s2]
  by_cases hk : a0.size < 4 ∨ 52 < a0.size
  · rw [Hash_bad _ _ _ hk, O.bind_ok, O.chk_dec (by omega), Hash_bad _ _ _ hk, O.bind_ok, O.chk_dec (by omega), O.chk_dec (by omega), O.chk_dec (by omega), Hash_bad _ _ _ hk, O.bind_ok, O.chk_dec (by omega), Hash_bad _ _ _ hk, O.bind_ok, i64_in ((Y : Int) + 1) (by omega), show (Y : Int) + 1 = ((Y + 1 : Nat) : Int) by push_cast; rfl, Window_S _ (by omega) _ _ h0, O.bind_ok, Window_S _ (by omega) _ _ h0, O.bind_ok, fixed_S _ (by omega), O.bind_ok, O.cond_true, last]
    simp
  · rw [Hash_S _ _ s (by omega) (by omega), O.bind_ok, O.chk_dec (by omega), Hash_S _ _ (s.extract 0 c) (by omega) (by omega), O.bind_ok, O.chk_dec (by omega), O.chk_dec (by omega), O.chk_dec (by omega),
      Hash_S _ _ (strOf (List.replicate c 0) ++ s.extract c s.size) (by omega) (by omega), O.bind_ok, O.chk_dec (by omega), Hash_S _ _ (s ++ ⟨#[0, 0]⟩) (by omega) (by omega), O.bind_ok, s1, s2, s3, e2,
      i64_in ((Y : Int) + 1) (by omega), show (Y : Int) + 1 = ((Y + 1 : Nat) : Int) by push_cast; rfl, Window_S _ (by omega) _ _ h0, O.bind_ok, Window_S _ (by omega) _ _ h0, O.bind_ok, fixed_S _ (by omega), O.bind_ok, O.cond_true, last, xor_u32 _ _ (hN_lt _ _ _) (hN_lt _ _ _), ← e1]
    simp
end Go.Proofs.Ytmpmdfgjejkaiaa.Pure
