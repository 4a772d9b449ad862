/- Words for the plain laws: outcomes that are told, bytes of texts, numbers in bytes. -/
import Derived.Test.YtpfddjdkafjjfaaGreatV18
namespace Go.Aq
open Go.IntWalk
set_option linter.unusedVariables false

/-! ### Outcomes -/
def O.sat {α : Type} (x : O α) (P : α → Prop) : Prop := ∃ a, x = .ok a ∧ P a
section
variable {α β : Type} {P : α → Prop} {x y : O α}
theorem O.sat_ok {a : α} (h : P a) : O.sat (.ok a) P := ⟨a, rfl, h⟩
theorem O.sat_val {a : α} (h : O.sat x fun r => r = a) : x = .ok a := by obtain ⟨_, h, rfl⟩ := h; exact h
theorem O.sat_mono {Q : α → Prop} (h : O.sat x Q) (hq : ∀ a, Q a → P a) : O.sat x P := by obtain ⟨a, h, hp⟩ := h; exact ⟨a, h, hq a hp⟩
theorem O.sat_bind {Q : β → Prop} {m : O β} {f : β → O α} (h : O.sat m Q) (hf : ∀ b, Q b → O.sat (f b) P) : O.sat (O.bind m f) P := by
  obtain ⟨b, rfl, hb⟩ := h
  rw [O.bind_ok]; exact hf b hb
theorem O.sat_eq {m : O β} {f : β → O α} {b : β} (h : m = .ok b) (hf : O.sat (f b) P) : O.sat (O.bind m f) P := by
  rw [h, O.bind_ok]; exact hf
theorem O.sat_cond {p : Prop} [Decidable p] (h1 : p → O.sat x P) (h2 : ¬ p → O.sat y P) : O.sat (O.cond (decide p) x y) P := by
  by_cases h : p
  · rw [O.cond_pos h]; exact h1 h
  · rw [O.cond_neg h]; exact h2 h
theorem O.sat_condn {p : Prop} [Decidable p] (h1 : ¬ p → O.sat x P) (h2 : p → O.sat y P) : O.sat (O.cond (!decide p) x y) P := by
  by_cases h : p
  · simp only [h, decide_true, Bool.not_true, O.cond_false]; exact h2 h
  · simp only [h, decide_false, Bool.not_false, O.cond_true]; exact h1 h
theorem O.sat_condb {b : Bool} (h1 : b = true → O.sat x P) (h2 : b = false → O.sat y P) : O.sat (O.cond b x y) P := by
  cases b
  · rw [O.cond_false]; exact h2 rfl
  · rw [O.cond_true]; exact h1 rfl
theorem O.sat_yes (h : O.sat x P) : O.sat (O.cond true x y) P := by rw [O.cond_true]; exact h
theorem O.sat_not (h : O.sat y P) : O.sat (O.cond false x y) P := by rw [O.cond_false]; exact h
theorem O.sat_chk {p : Prop} [Decidable p] (h : p) (hx : O.sat x P) : O.sat (O.chk (decide p) x) P := by rw [O.chk_dec h]; exact hx
theorem O.sat_sum {ε : Type} {m : O (ε ⊕ β)} {g : ε → O α} {f : β → O α} {x : ε ⊕ β} (h : m = .ok x) (hl : ∀ e, x = .inl e → O.sat (g e) P) (hr : ∀ b, x = .inr b → O.sat (f b) P) : O.sat (O.sum m g f) P := by
  subst h
  cases x with
  | inl e => rw [O.sum_inl]; exact hl e rfl
  | inr b => rw [O.sum_inr]; exact hr b rfl
theorem O.sat_same (h1 : ∃ r, x = .ok r ∧ y = .ok r ∧ P r) : O.sat (O.same x y) P := by
  obtain ⟨r, rfl, rfl, hp⟩ := h1
  rw [O.same_eq, if_pos rfl]; exact ⟨r, rfl, hp⟩
theorem O.sat_twice (h : O.sat x P) : O.sat (O.twice x) P := by rw [O.twice_eq]; exact h
end

/-! ### Bytes -/
theorem size_list (s : ByteArray) : s.size = s.data.toList.length := Array.length_toList.symm
theorem app_list (a b : ByteArray) : (a ++ b).data.toList = a.data.toList ++ b.data.toList := by simp
theorem app_size (a b : ByteArray) : (a ++ b).size = a.size + b.size := by rw [size_list, app_list, List.length_append, ← size_list, ← size_list]
theorem ext_list (s : ByteArray) (i j : Nat) : (s.extract i j).data.toList = (s.data.toList.drop i).take (j - i) := by
  simp [ByteArray.data_extract, Array.toList_extract, List.extract_eq_take_drop]
theorem ext_size (s : ByteArray) (i j : Nat) : (s.extract i j).size = min j s.size - i := ByteArray.size_extract
theorem list_eq {a b : ByteArray} (h : a.data.toList = b.data.toList) : a = b := by
  cases a; cases b; simp at h; rw [h]
theorem bt_getD (s : ByteArray) (i : Nat) : bt s (i : Int) = ((s.data.toList.getD i 0).toNat : Int) := by unfold bt; rw [Int.toNat_natCast]
theorem bt_at (s : ByteArray) (i : Nat) (h : i < s.data.toList.length) : bt s (i : Int) = ((s.data.toList[i]'h).toNat : Int) := by
  unfold bt; rw [Int.toNat_natCast, List.getD_eq_getElem?_getD, List.getElem?_eq_getElem h]; rfl
theorem bt_strOf (L : List Int) (h : ∀ x ∈ L, 0 ≤ x ∧ x ≤ 255) (i : Nat) : bt (strOf L) (i : Int) = L.getD i 0 := by
  rw [bt_getD]
  show (((L.map fun n => UInt8.ofNat n.toNat).getD i 0).toNat : Int) = _
  simp only [List.getD_eq_getElem?_getD, List.getElem?_map]
  cases hx : L[i]? with
  | none => rfl
  | some x =>
    have hm := h x (List.mem_of_getElem? hx)
    show ((UInt8.ofNat x.toNat).toNat : Int) = x
    rw [UInt8.toNat_ofNat']
    omega
theorem size_strOf (L : List Int) : (strOf L).size = L.length := by
  rw [size_list]; show (L.map fun n => UInt8.ofNat n.toNat).length = _; simp
theorem bt_app (a b : ByteArray) (i : Nat) : bt (a ++ b) (i : Int) = if i < a.size then bt a (i : Int) else bt b ((i - a.size : Nat) : Int) := by
  rw [bt_getD, bt_getD, bt_getD, app_list, size_list, List.getD_eq_getElem?_getD, List.getD_eq_getElem?_getD, List.getD_eq_getElem?_getD]
  split
  · rw [List.getElem?_append_left (by assumption)]
  · rw [List.getElem?_append_right (by omega)]
theorem bt_ext (a : ByteArray) (i j n : Nat) (h : n < j - i) : bt (a.extract i j) (n : Int) = bt a ((i + n : Nat) : Int) := by
  rw [bt_getD, bt_getD, ext_list, List.getD_eq_getElem?_getD, List.getD_eq_getElem?_getD, List.getElem?_take_of_lt h, List.getElem?_drop]
/-- Texts are the same if their bytes are. -/
theorem bt_eq {a b : ByteArray} (hs : a.size = b.size) (h : ∀ i : Nat, i < a.size → bt a (i : Int) = bt b (i : Int)) : a = b := by
  apply list_eq
  apply List.ext_getElem
  · rw [← size_list, ← size_list, hs]
  · intro i h1 h2
    have := h i (by rw [size_list]; exact h1)
    rw [bt_at a i h1, bt_at b i h2] at this
    exact UInt8.toNat_inj.1 (Int.ofNat.inj this)
theorem ext_ext (s : ByteArray) (i j k l : Nat) : (s.extract i j).extract k l = s.extract (i + k) (min (i + l) j) := ByteArray.extract_extract
theorem ext_rest (s : ByteArray) (i j : Nat) (h : i ≤ s.size) : (s.extract i s.size).extract j (s.extract i s.size).size = s.extract (i + j) s.size := by
  rw [ext_ext, ext_size]; congr 1; omega
theorem ext_all (s : ByteArray) : s.extract 0 s.size = s := by apply list_eq; rw [ext_list, size_list, List.drop_zero, Nat.sub_zero, List.take_of_length_le (Nat.le_refl _)]

/-! ### Numbers in bytes, the highest first -/
def be (s : ByteArray) (i : Nat) : Nat → Int
  | 0 => 0
  | n + 1 => be s i n * 256 + bt s ((i + n : Nat) : Int)
theorem be_lo (s : ByteArray) (i : Nat) : ∀ n, 0 ≤ be s i n ∧ be s i n < 256 ^ n
  | 0 => by simp [be]
  | n + 1 => by
    have := be_lo s i n; have h1 := bt_lo s ((i + n : Nat) : Int); have h2 := bt_hi s ((i + n : Nat) : Int)
    unfold be
    rw [Int.pow_succ]
    omega
theorem be2 (s : ByteArray) (i : Nat) : be s i 2 = bt s (i : Int) * 256 + bt s ((i + 1 : Nat) : Int) := by simp [be]
theorem be2_lo (s : ByteArray) (i : Nat) : 0 ≤ be s i 2 ∧ be s i 2 ≤ 65535 := by
  have := be_lo s i 2; rw [show (256 : Int) ^ 2 = 65536 from rfl] at this; omega
theorem be4_lo (s : ByteArray) (i : Nat) : 0 ≤ be s i 4 ∧ be s i 4 ≤ 4294967295 := by
  have := be_lo s i 4; rw [show (256 : Int) ^ 4 = 4294967296 from rfl] at this; omega
theorem be_ext (s : ByteArray) (i j o : Nat) : ∀ n, o + n ≤ j - i → be (s.extract i j) o n = be s (i + o) n
  | 0, _ => rfl
  | n + 1, h => by
    unfold be
    rw [be_ext s i j o n (by omega), bt_ext s i j (o + n) (by omega), Nat.add_assoc]
theorem be_app (a b : ByteArray) (o : Nat) : ∀ n, o + n ≤ a.size → be (a ++ b) o n = be a o n
  | 0, _ => rfl
  | n + 1, h => by
    unfold be
    rw [be_app a b o n (by omega), bt_app, if_pos (by omega)]
theorem be_app2 (a b : ByteArray) (o : Nat) : ∀ n, be (a ++ b) (a.size + o) n = be b o n
  | 0 => rfl
  | n + 1 => by
    unfold be
    rw [be_app2 a b o n, bt_app, if_neg (by omega)]
    congr 3
    omega
theorem bits64 : IntKind.u64.bits = 64 := rfl
theorem step_u64 (v b : Int) (hv : 0 ≤ v ∧ v < 2 ^ 56) (hb : 0 ≤ b ∧ b ≤ 255) : bOr .u64 (shL .u64 v 8) (IntKind.u64.wrap b) = v * 256 + b := by
  have s8 : shL .u64 v 8 = IntKind.u64.wrap (v * 2 ^ 8) := shL_eq .u64 v 8 (by decide)
  rw [u64_in b (by omega), s8, show ((2 : Int) ^ 8) = 256 from rfl, u64_in _ (by omega)]
  have := bOr_join .u64 v b 8 hv.1 hb.1 (by omega) (by rw [bits64]; omega) (by decide)
  rw [show ((2 : Int) ^ 8) = 256 from rfl] at this
  rw [this, u64_in _ (by omega)]

/-! ### Bits of numbers -/
theorem bAnd_low (v : Int) (j : Nat) (h0 : 0 ≤ v) (h : v < 2 ^ 63) (hj : j ≤ 62) : bAnd .i64 v (2 ^ j - 1) = v % 2 ^ j := by
  rw [bAnd_mask .i64 v j h0 (by rw [show IntKind.i64.bits = 64 from rfl]; omega) (by rw [show IntKind.i64.bits = 64 from rfl]; omega)]
  have h1 : 0 ≤ v % 2 ^ j := Int.emod_nonneg _ (by have := Int.pow_pos (n := 2) (m := j) (by decide); omega)
  have h2 : v % 2 ^ j ≤ v := by
    obtain ⟨n, rfl⟩ := Int.eq_ofNat_of_zero_le h0
    exact_mod_cast Nat.mod_le n (2 ^ j)
  exact i64_in _ (by omega)
/-- One bit of a number. -/
theorem and_bit (n j : Nat) : n &&& 2 ^ j = n / 2 ^ j % 2 * 2 ^ j := by
  have e : n.testBit j = decide (n / 2 ^ j % 2 = 1) := Nat.testBit_eq_decide_div_mod_eq
  apply Nat.eq_of_testBit_eq
  intro i
  rw [Nat.testBit_and, Nat.testBit_two_pow]
  by_cases c : n / 2 ^ j % 2 = 1
  · rw [c, Nat.one_mul, Nat.testBit_two_pow]
    by_cases hi : j = i
    · subst hi; simp [e, c]
    · simp [hi]
  · have c0 : n / 2 ^ j % 2 = 0 := by omega
    rw [c0, Nat.zero_mul, Nat.zero_testBit]
    by_cases hi : j = i
    · subst hi; simp [e, c]
    · simp [hi]
theorem bAnd_bit (v : Int) (j : Nat) (h0 : 0 ≤ v) (h : v < 2 ^ 63) (hj : j ≤ 62) : bAnd .i64 v (2 ^ j) = v / 2 ^ j % 2 * 2 ^ j := by
  obtain ⟨n, rfl⟩ := Int.eq_ofNat_of_zero_le h0
  have hn : n < 2 ^ 63 := by exact_mod_cast h
  have hp : (2 : Nat) ^ j < 2 ^ 64 := Nat.pow_lt_pow_right (by decide) (by omega)
  have hp2 : (2 : Nat) ^ j ≤ 2 ^ 62 := Nat.pow_le_pow_right (by decide) hj
  have := bAnd_nat .i64 n (2 ^ j) (by rw [show IntKind.i64.bits = 64 from rfl]; omega) hp
  push_cast at this
  rw [this, and_bit]
  have hb : n / 2 ^ j % 2 * 2 ^ j ≤ 2 ^ 62 := by
    have : n / 2 ^ j % 2 ≤ 1 := by omega
    calc n / 2 ^ j % 2 * 2 ^ j ≤ 1 * 2 ^ j := Nat.mul_le_mul_right _ this
      _ ≤ 2 ^ 62 := by omega
  rw [i64_in _ (by omega)]
  push_cast; rfl
end Go.Aq
