/- The plain law of HashLinear: the hash of the exclusive or of two texts of one length is that of their hashes; noughts have none. -/
import Derived.Test.YtmpmdfgjejkaiaaCP03c
namespace Go.Proofs.Ytmpmdfgjejkaiaa.Pure
open Go.Aq Go.IntWalk
/-- The bytes of a text, those ahead of one changed by another text's. -/
def xorTo (A B : ByteArray) (n i : Nat) : List Int := (List.range n).map fun j => if j < i then bXor .u8 (bt A (j : Int)) (bt B (j : Int)) else bt A (j : Int)
theorem xorTo_len (A B : ByteArray) (n i : Nat) : (xorTo A B n i).length = n := by simp [xorTo]
theorem xorTo_get (A B : ByteArray) (n i j : Nat) (h : j < n) : (xorTo A B n i).getD j 0 = if j < i then bXor .u8 (bt A (j : Int)) (bt B (j : Int)) else bt A (j : Int) := by
  simp [xorTo, List.getD_eq_getElem?_getD, h]
theorem xorTo_zero (A B : ByteArray) : xorTo A B A.size 0 = bytesOf A := by
  apply List.ext_getElem
  · rw [xorTo_len]; unfold bytesOf; rw [List.length_map, ← size_list]
  · intro j h1 h2
    have hj : j < A.data.toList.length := by simpa [bytesOf] using h2
    simp only [xorTo, bytesOf, List.getElem_map, List.getElem_range, Nat.not_lt_zero, if_false]
    rw [bt_getD, List.getD_eq_getElem?_getD, List.getElem?_eq_getElem hj]
    rfl
theorem xorTo_succ (A B : ByteArray) (n i : Nat) : su (xorTo A B n i) (i : Int) (bXor .u8 (bt A (i : Int)) (bt B (i : Int))) = xorTo A B n (i + 1) := by
  unfold su
  rw [Int.toNat_natCast]
  apply List.ext_getElem
  · simp [xorTo]
  · intro j h1 h2
    simp only [xorTo, List.getElem_set, List.getElem_map, List.getElem_range]
    by_cases e : i = j
    · subst e; simp
    · rw [if_neg e]
      by_cases hj : j < i
      · rw [if_pos hj, if_pos (by omega)]
      · rw [if_neg hj, if_neg (by omega)]
theorem bXor_byte (x y : Int) (hx : 0 ≤ x ∧ x ≤ 255) (hy : 0 ≤ y ∧ y ≤ 255) : 0 ≤ bXor .u8 x y ∧ bXor .u8 x y ≤ 255 := by
  obtain ⟨a, rfl⟩ := Int.eq_ofNat_of_zero_le hx.1
  obtain ⟨b, rfl⟩ := Int.eq_ofNat_of_zero_le hy.1
  have ha : a < 2 ^ 8 := by omega
  have hb : b < 2 ^ 8 := by omega
  have hab := Nat.xor_lt_two_pow ha hb
  rw [bXor_nat .u8 a b ha hb, u8_in _ (by omega)]
  omega
theorem HashLinear : ∀ (a0 : ByteArray) (a1 : ByteArray) (a2 : ByteArray), a0.size ≤ 140737488351232 → a1.size ≤ 140737488351232 → a2.size ≤ 140737488351232 → ∃ k, F_aqueductlaw03_HashLinear.S k a0 a1 a2 = .ok true := by
  intro a0 a1 a2 h0 h1 h2
  refine ⟨2000, ?_⟩
  obtain ⟨n, hn, hn1, hn2, hn3⟩ : ∃ n : Nat, min (min (a1.size : Int) (a2.size : Int)) 100 = (n : Int) ∧ n ≤ a1.size ∧ n ≤ a2.size ∧ n ≤ 100 := ⟨min (min a1.size a2.size) 100, by omega, by omega, by omega, by omega⟩
  have sA : (a1.extract 0 n).size = n := by rw [ext_size]; omega
  have sB : (a2.extract 0 n).size = n := by rw [ext_size]; omega
  have fin : ∀ (R : Int → List Int → O Bool), F_aqueductlaw03_HashLinear.l0_b 2000 a0 a1 a2 R (n : Int) (xorTo (a1.extract 0 n) (a2.extract 0 n) n n) = .ok true := by
    intro R
    unfold F_aqueductlaw03_HashLinear.l0_b
    rw [hn, Int.toNat_natCast]
    generalize a1.extract 0 n = A at *
    generalize a2.extract 0 n = B at *
    have hL : ∀ x ∈ xorTo A B n n, 0 ≤ x ∧ x ≤ 255 := by
      intro x hx
      simp only [xorTo, List.mem_map, List.mem_range] at hx
      obtain ⟨j, hj, rfl⟩ := hx
      rw [if_pos hj]
      exact bXor_byte _ _ ⟨bt_lo A _, bt_hi A _⟩ ⟨bt_lo B _, bt_hi B _⟩
    have sC : (strOf (xorTo A B n n)).size = n := by rw [size_strOf, xorTo_len]
    have sO : (strOf (List.replicate n (0 : Int))).size = n := by rw [size_strOf, List.length_replicate]
    have hlin : hN a0 (strOf (xorTo A B n n)) (8 * n) = hN a0 A (8 * n) ^^^ hN a0 B (8 * n) := by
      refine hN_lin a0 A B _ _ fun i hi => ?_
      rw [bitv_bb _ i (by omega), bitv_bb A i (by omega), bitv_bb B i (by omega), bt_strOf _ hL, xorTo_get _ _ _ _ _ (by omega), if_pos (by omega)]
      exact bb_xor _ _ ⟨bt_lo A _, bt_hi A _⟩ ⟨bt_lo B _, bt_hi B _⟩ _
    have hzero : hN a0 (strOf (List.replicate n (0 : Int))) (8 * n) = 0 := hN_zero _ _ _ fun i _ => bitv_byte0 _ i (bt_zeros n _)
    rw [O.cond_neg (by omega), O.chk_dec (by omega), fixed_S _ (by omega)]
    by_cases hk : a0.size < 4 ∨ 52 < a0.size
    · rw [Hash_bad _ _ _ hk, O.bind_ok, O.chk_dec (by omega), Hash_bad _ _ _ hk, O.bind_ok, Hash_bad _ _ _ hk, O.bind_ok, O.chk_dec (by omega), Hash_bad _ _ _ hk, O.bind_ok, O.bind_ok, O.cond_true, O.cond_pos rfl, O.cond_pos rfl, O.cond_pos rfl, O.cond_pos (by decide), O.cond_pos rfl]
      by_cases h4 : a0.size < 4
      · rw [O.cond_neg (by omega)]; rfl
      · rw [O.cond_pos (by omega)]
        have : ¬ (a0.size : Int) ≤ 52 := by omega
        simp [this]
    · rw [Hash_S _ _ A (by omega) (by omega), O.bind_ok, O.chk_dec (by omega), Hash_S _ _ B (by omega) (by omega), O.bind_ok, Hash_S _ _ (strOf (xorTo A B n n)) (by omega) (by omega), O.bind_ok, O.chk_dec (by omega), Hash_S _ _ (strOf (List.replicate n 0)) (by omega) (by omega), O.bind_ok, O.bind_ok, O.cond_true, O.cond_pos rfl, O.cond_pos rfl, O.cond_pos rfl,
        sA, sB, sC, sO, hlin, hzero, xor_u32 _ _ (hN_lt _ _ _) (hN_lt _ _ _), O.cond_pos rfl, O.cond_pos (by simp), O.cond_pos (by omega)]
      have : (a0.size : Int) ≤ 52 := by omega
      simp [this]
  have lp : ∀ (m i j : Nat), i + m = n → m < j → F_aqueductlaw03_HashLinear.l0 2000 a0 a1 a2 j (i : Int) (xorTo (a1.extract 0 n) (a2.extract 0 n) n i) = .ok true := by
    intro m
    induction m with
    | zero =>
      intro i j hi hj
      obtain ⟨j, rfl⟩ : ∃ i, j = i + 1 := ⟨j - 1, by omega⟩
      obtain rfl : i = n := by omega
      exact fin _
    | succ m ih =>
      intro i j hi hj
      obtain ⟨j, rfl⟩ : ∃ i, j = i + 1 := ⟨j - 1, by omega⟩
      show F_aqueductlaw03_HashLinear.l0_b 2000 a0 a1 a2 _ _ _ = _
      unfold F_aqueductlaw03_HashLinear.l0_b
      have hb : bt a2 (i : Int) = bt (a2.extract 0 n) (i : Int) := by rw [bt_ext a2 0 n i (by omega), Nat.zero_add]
      have hg : gt (0 : Int) (xorTo (a1.extract 0 n) (a2.extract 0 n) n i) (i : Int) = bt (a1.extract 0 n) (i : Int) := by
        unfold gt; rw [Int.toNat_natCast, xorTo_get _ _ _ _ _ (by omega), if_neg (by omega)]
      rw [hn, hb, hg, xorTo_succ, xorTo_len, O.cond_pos (by omega), O.chk_dec (by omega), O.chk_dec (by omega), O.chk_dec (by omega), O.chk_dec (by omega), O.chk_dec (by omega), i64_in (_ + 1) (by omega)]
      exact ih (i + 1) j (by omega) (by omega)
  unfold F_aqueductlaw03_HashLinear.S F_aqueductlaw03_HashLinear.top
  rw [hn, Int.toNat_natCast, O.chk_dec (by omega), O.chk_dec (by omega)]
  have := lp n 0 2000 (by omega) (by omega)
  have z := xorTo_zero (a1.extract 0 n) (a2.extract 0 n)
  rw [sA] at z
  rw [z] at this
  exact this
end Go.Proofs.Ytmpmdfgjejkaiaa.Pure
