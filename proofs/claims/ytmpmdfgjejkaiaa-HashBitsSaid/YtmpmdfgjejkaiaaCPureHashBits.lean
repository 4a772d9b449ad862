/- The plain law of HashBits: the hash of one bit is the key's window there; a longer key makes no difference to a short text. -/
import Derived.Test.YtmpmdfgjejkaiaaCP03c
namespace Go.Proofs.Ytmpmdfgjejkaiaa.Pure
open Go.Aq Go.IntWalk
theorem bAnd_127 (a : Int) : 0 ≤ bAnd .i64 a 127 ∧ bAnd .i64 a 127 ≤ 127 := by
  have h : (BitVec.ofInt 64 a &&& BitVec.ofInt 64 127).toNat ≤ 127 := by
    rw [BitVec.toNat_and]; exact Nat.and_le_right
  unfold bAnd
  rw [show IntKind.i64.bits = 64 from rfl, i64_in _ (by omega)]
  omega
/-- Sixteen bytes with one bit. -/
def oneBit (n : Nat) : List Int := su (List.replicate 16 0) ((n / 8 : Nat) : Int) (shR .u8 128 ((n % 8 : Nat) : Int))
theorem oneBit_all : ∀ n : Nat, n < 128 → (∀ x ∈ oneBit n, 0 ≤ x ∧ x ≤ 255) ∧ ∀ i : Nat, i < 128 → bb ((oneBit n).getD (i / 8) 0) (i % 8) = if i = n then 1 else 0 := by
  decide +kernel
theorem oneBit_len (n : Nat) : (oneBit n).length = 16 := by simp [oneBit, su]
theorem hN_one (key s : ByteArray) (n : Nat) : ∀ k, (∀ i : Nat, i < k → bitv s i = if i = n then 1 else 0) → hN key s k = if n < k then (winv key n).toNat else 0
  | 0, _ => by simp [hN]
  | k + 1, h => by
    rw [hN, hN_one key s n k fun i hi => h i (by omega), h k (by omega)]
    by_cases e : k = n
    · subst e; simp
    · by_cases hl : n < k
      · rw [if_pos hl, if_neg e, if_neg (by decide), if_pos (by omega), Nat.xor_zero]
      · rw [if_neg hl, if_neg e, if_neg (by decide), if_neg (by omega), Nat.xor_zero]
theorem one_hash (key : ByteArray) (n : Nat) (hn : n < 128) : hN key (strOf (oneBit n)) 128 = (winv key n).toNat := by
  obtain ⟨h1, h2⟩ := oneBit_all n hn
  rw [hN_one key _ n 128 fun i hi => ?_, if_pos hn]
  rw [bitv_bb _ i (by rw [size_strOf, oneBit_len]; omega), bt_strOf _ h1, h2 i hi]
theorem wacc_app (a b : ByteArray) (n : Nat) : ∀ i : Nat, n + i ≤ 8 * a.size → wacc (a ++ b) n i = wacc a n i
  | 0, _ => rfl
  | i + 1, h => by
    rw [wacc, wacc, wacc_app a b n i (by omega), show (n : Int) + (i : Int) = ((n + i : Nat) : Int) by push_cast; rfl, bitv_app a b _ (by omega)]
theorem HashBits : ∀ (a0 : ByteArray) (a1 : Int) (a2 : ByteArray), a0.size ≤ 140737488351232 → (Lit.int .i64 a1).wf = true → a2.size ≤ 140737488351232 → ∃ k, F_aqueductlaw03_HashBits.S k a0 a1 a2 = .ok true := by
  intro a0 a1 a2 h0 h1 h2
  refine ⟨2000, ?_⟩
  unfold F_aqueductlaw03_HashBits.S
  have x := bAnd_127 a1
  obtain ⟨n, hn⟩ : ∃ n : Nat, bAnd .i64 a1 127 = (n : Int) := ⟨(bAnd .i64 a1 127).toNat, by omega⟩
  have hn1 : n < 128 := by omega
  rw [hn]
  have e1 : IntKind.i64.wrap (Int.tdiv (n : Int) 8) = ((n / 8 : Nat) : Int) := by rw [quo_in _ 8 (by omega), i64_in _ (by omega)]; omega
  have e2 : Int.tmod (n : Int) 8 = ((n % 8 : Nat) : Int) := by rw [rem_in _ 8 (by omega)]; omega
  have e3 : su (List.replicate (16 : Int).toNat (0 : Int)) ((n / 8 : Nat) : Int) (shR .u8 128 ((n % 8 : Nat) : Int)) = oneBit n := rfl
  have e4 : (List.replicate (16 : Int).toNat (0 : Int)).length = 16 := by simp
  rw [e1, e2, e3, e4, O.chk_dec (by omega), O.chk_dec (by omega), O.chk_dec (by omega), O.chk_dec (by omega)]
  have sz : (strOf (oneBit n)).size = 16 := by rw [size_strOf, oneBit_len]
  have w := winv_lo a0 (n : Int)
  have ww : (((winv a0 (n : Int)).toNat : Nat) : Int) = winv a0 n := by omega
  have fx := fixed_S 2000 (by omega)
  by_cases hk : a0.size < 4 ∨ 52 < a0.size
  · rw [Hash_bad _ _ _ hk, O.bind_ok, O.cond_pos (by decide), O.cond_pos (by decide), fx, O.bind_ok]
  · have hH := Hash_S 2000 a0 (strOf (oneBit n)) (by omega) (by omega)
    rw [sz, show 8 * 16 = 128 from rfl, one_hash a0 n hn1, ww] at hH
    have hW := Window_S 2000 (by omega) a0 (n : Int) h0
    rw [hH, O.bind_ok, O.cond_neg (by simp)]
    by_cases h20 : 20 ≤ a0.size
    · rw [O.cond_pos (by omega), i64_in (_ + _) (by omega)]
      by_cases h52 : a0.size + a2.size ≤ 52
      · have sa := app_size a0 a2
        have hG := Hash_S 2000 (a0 ++ a2) (strOf (oneBit n)) (by omega) (by omega)
        have hwin : winv (a0 ++ a2) (n : Int) = winv a0 n := by
          unfold winv
          rw [if_neg (by omega), if_neg (by omega), wacc_app a0 a2 n 32 (by omega)]
        rw [sz, show 8 * 16 = 128 from rfl, one_hash _ n hn1, hwin, ww] at hG
        rw [O.cond_pos (by omega), O.chk_dec (by omega), hG, O.bind_ok, O.cond_neg (by simp), O.cond_neg (by simp), hW, O.bind_ok, O.cond_pos rfl, fx, O.bind_ok]
      · rw [O.cond_neg (by omega), hW, O.bind_ok, O.cond_pos rfl, fx, O.bind_ok]
    · rw [O.cond_neg (by omega), hW, O.bind_ok, O.cond_pos rfl, fx, O.bind_ok]
end Go.Proofs.Ytmpmdfgjejkaiaa.Pure
