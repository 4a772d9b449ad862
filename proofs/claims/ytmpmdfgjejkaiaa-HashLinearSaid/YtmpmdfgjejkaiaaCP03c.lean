/- Bits of texts: of an exclusive or, of parts, of texts one behind the other. -/
import Derived.Test.YtmpmdfgjejkaiaaCP03b
namespace Go.Proofs.Ytmpmdfgjejkaiaa
open Go.Aq Go.IntWalk
set_option linter.unusedVariables false
theorem bt_getD (s : ByteArray) (i : Nat) : bt s (i : Int) = ((s.data.toList.getD i 0).toNat : Int) := by unfold bt; rw [Int.toNat_natCast]
theorem bt_strOf (L : List Int) (h : ∀ x ∈ L, 0 ≤ x ∧ x ≤ 255) (i : Nat) : bt (strOf L) (i : Int) = L.getD i 0 := by
  rw [bt_getD]
  show (((L.map fun n => UInt8.ofNat n.toNat).getD i 0).toNat : Int) = _
  simp only [List.getD_eq_getElem?_getD, List.getElem?_map]
  cases hx : L[i]? with
  | none => rfl
  | some x =>
    have := h x (List.mem_of_getElem? hx)
    simp only [Option.map_some, Option.getD_some, UInt8.toNat_ofNat']
    omega
theorem size_strOf (L : List Int) : (strOf L).size = L.length := by
  rw [size_list]; show (L.map _).length = _; rw [List.length_map]
/-- A bit of a byte. -/
def bb (x : Int) (j : Nat) : Int := x / 2 ^ (7 - j) % 2
theorem bitv_bb (s : ByteArray) (i : Nat) (h : i < 8 * s.size) : bitv s i = bb (bt s ((i / 8 : Nat) : Int)) (i % 8) := by
  unfold bitv bb
  rw [if_neg (by omega)]
  congr 3
  omega
theorem bb_xor (x y : Int) (hx : 0 ≤ x ∧ x ≤ 255) (hy : 0 ≤ y ∧ y ≤ 255) (j : Nat) : bb (bXor .u8 x y) j = (bb x j + bb y j) % 2 := by
  obtain ⟨a, rfl⟩ := Int.eq_ofNat_of_zero_le hx.1
  obtain ⟨b, rfl⟩ := Int.eq_ofNat_of_zero_le hy.1
  have ha : a < 2 ^ 8 := by omega
  have hb : b < 2 ^ 8 := by omega
  have hab := Nat.xor_lt_two_pow ha hb
  rw [bXor_nat .u8 a b ha hb, u8_in _ (by omega)]
  unfold bb
  have e : ∀ n : Nat, ((n : Int) / 2 ^ (7 - j) % 2) = ((n / 2 ^ (7 - j) % 2 : Nat) : Int) := by intro n; push_cast; rfl
  rw [e, e, e]
  have t := Nat.testBit_xor a b (7 - j)
  simp only [Nat.testBit_eq_decide_div_mod_eq] at t
  have h1 := Nat.mod_two_eq_zero_or_one (a / 2 ^ (7 - j)); have h2 := Nat.mod_two_eq_zero_or_one (b / 2 ^ (7 - j)); have h3 := Nat.mod_two_eq_zero_or_one ((a ^^^ b) / 2 ^ (7 - j))
  rcases h1 with h1 | h1 <;> rcases h2 with h2 | h2 <;> rcases h3 with h3 | h3 <;> rw [h1, h2, h3] at t ⊢ <;> simp at t ⊢
theorem bt_app (a b : ByteArray) (i : Nat) : bt (a ++ b) (i : Int) = if i < a.size then bt a (i : Int) else bt b ((i - a.size : Nat) : Int) := by
  rw [bt_getD, bt_getD, bt_getD, app_list, size_list, List.getD_eq_getElem?_getD, List.getD_eq_getElem?_getD, List.getD_eq_getElem?_getD]
  split
  · rw [List.getElem?_append_left (by assumption)]
  · rw [List.getElem?_append_right (by omega)]
theorem bt_ext (a : ByteArray) (i j n : Nat) (h : n < j - i) : bt (a.extract i j) (n : Int) = bt a ((i + n : Nat) : Int) := by
  rw [bt_getD, bt_getD, ext_list, List.getD_eq_getElem?_getD, List.getD_eq_getElem?_getD, List.getElem?_take_of_lt h, List.getElem?_drop]
theorem bitv_eq (s t : ByteArray) (i j : Nat) (hi : i < 8 * s.size) (hj : j < 8 * t.size) (hm : i % 8 = j % 8) (hb : bt s ((i / 8 : Nat) : Int) = bt t ((j / 8 : Nat) : Int)) : bitv s i = bitv t j := by
  rw [bitv_bb s i hi, bitv_bb t j hj, hb, hm]
/-- The bits of a beginning. -/
theorem bitv_take (s : ByteArray) (n i : Nat) (hn : n ≤ s.size) : bitv (s.extract 0 n) i = if i < 8 * n then bitv s i else 0 := by
  have hz : (s.extract 0 n).size = n := by rw [ext_size]; omega
  split
  · refine bitv_eq _ _ i i (by omega) (by omega) rfl ?_
    rw [bt_ext s 0 n _ (by omega), Nat.zero_add]
  · exact bitv_out _ i (by omega)
/-- The bits of noughts. -/
theorem bt_zeros (n i : Nat) : bt (strOf (List.replicate n 0)) (i : Int) = 0 := by
  rw [bt_strOf _ (by intro x hx; rw [(List.mem_replicate.1 hx).2]; omega), List.getD_eq_getElem?_getD, List.getElem?_replicate]
  split <;> rfl
theorem bitv_byte0 (s : ByteArray) (i : Nat) (h : bt s ((i / 8 : Nat) : Int) = 0) : bitv s i = 0 := by
  by_cases hi : i < 8 * s.size
  · rw [bitv_bb s i hi, h]; simp [bb]
  · exact bitv_out s i (by omega)
/-- The bits of noughts with the rest of a text behind them. -/
theorem bitv_rest (s : ByteArray) (n i : Nat) (hn : n ≤ s.size) : bitv (strOf (List.replicate n 0) ++ s.extract n s.size) i = if i < 8 * n then 0 else bitv s i := by
  have hz : (strOf (List.replicate n 0)).size = n := by rw [size_strOf, List.length_replicate]
  have hx : (s.extract n s.size).size = s.size - n := by rw [ext_size]; omega
  have ha := app_size (strOf (List.replicate n 0)) (s.extract n s.size)
  split
  · refine bitv_byte0 _ i ?_
    rw [bt_app, if_pos (by omega), bt_zeros]
  · by_cases hi : i < 8 * s.size
    · refine bitv_eq _ _ i i (by omega) hi rfl ?_
      rw [bt_app, if_neg (by omega), bt_ext s n s.size _ (by omega), hz]
      congr 2; omega
    · rw [bitv_out _ i (by omega), bitv_out s i (by omega)]
/-- The bits of a text with another one behind it. -/
theorem bitv_app (s t : ByteArray) (i : Nat) (h : i < 8 * s.size) : bitv (s ++ t) i = bitv s i := by
  have ha := app_size s t
  refine bitv_eq _ _ i i (by omega) h rfl ?_
  rw [bt_app, if_pos (by omega)]
theorem hN_zero (key s : ByteArray) (k : Nat) (h : ∀ i : Nat, i < k → bitv s i = 0) : hN key s k = 0 := by
  have := hN_more key s 0 k fun i _ h2 => h i (by omega)
  rw [Nat.zero_add] at this
  rw [this]; rfl
end Go.Proofs.Ytmpmdfgjejkaiaa
