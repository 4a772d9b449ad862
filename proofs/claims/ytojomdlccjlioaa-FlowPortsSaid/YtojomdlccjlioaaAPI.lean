/- What ip.Parse, and the document's, come to. -/
import Derived.Test.YtojomdlccjlioaaAPE
import Derived.Test.YtojomdlccjlioaaAPC
namespace Go.Proofs.Ytojomdlccjlioaa
open Go.Aq Go.IntWalk
set_option linter.unusedVariables false
theorem i64_bt (s : ByteArray) (i : Int) : IntKind.i64.wrap (bt s i) = bt s i := by
  have := bt_lo s i; have := bt_hi s i; exact i64_in _ (by omega)
theorem i64_be2 (s : ByteArray) (i : Nat) : IntKind.i64.wrap (be s i 2) = be s i 2 := by
  have := be2_lo s i; exact i64_in _ (by omega)
theorem i64_be4 (s : ByteArray) (i : Nat) : IntKind.i64.wrap (be s i 4) = be s i 4 := by
  have := be4_lo s i; exact i64_in _ (by omega)
theorem u16_be2 (s : ByteArray) (i : Nat) : IntKind.u16.wrap (be s i 2) = be s i 2 := by
  have := be2_lo s i; exact u16_in _ (by omega)
theorem shr4_bt (s : ByteArray) (i : Int) : shR .u8 (bt s i) 4 = bt s i / 16 := shR_eq .u8 _ 4 (by decide)
theorem and15_bt (s : ByteArray) (i : Int) : bAnd .u8 (bt s i) 15 = bt s i % 16 := by
  have := bt_lo s i; have := bt_hi s i
  have h := bAnd_mask .u8 (bt s i) 4 (by omega) (by rw [show IntKind.u8.bits = 8 from rfl]; omega) (by decide)
  rw [show ((2 : Int) ^ 4) = 16 from rfl, u8_in _ (by omega)] at h
  exact h
theorem and8191 (v : Int) (h : 0 ≤ v ∧ v ≤ 65535) : bAnd .i64 v 8191 = v % 8192 := bAnd_low v 13 h.1 (by omega) (by decide)
theorem and255 (v : Int) (h : 0 ≤ v ∧ v ≤ 4294967295) : bAnd .i64 v 255 = v % 256 := bAnd_low v 8 h.1 (by omega) (by decide)
theorem and20 (v : Int) (h : 0 ≤ v ∧ v ≤ 4294967295) : bAnd .i64 v 1048575 = v % 1048576 := bAnd_low v 20 h.1 (by omega) (by decide)
theorem shr15 (v : Int) : shR .i64 v 15 = v / 32768 := shR_eq .i64 v 15 (by decide)
theorem shr13' (v : Int) : shR .i64 v 13 = v / 8192 := shR_eq .i64 v 13 (by decide)
theorem shr20 (v : Int) : shR .i64 v 20 = v / 1048576 := shR_eq .i64 v 20 (by decide)
theorem empty_iff (s : ByteArray) : s = (⟨#[]⟩ : ByteArray) ↔ s.size = 0 := by
  constructor
  · rintro rfl; rfl
  · intro h; apply list_eq
    have : s.data.toList.length = 0 := by rw [← size_list, h]
    rw [List.eq_nil_of_length_eq_zero this]
abbrev IpT := Int × ByteArray × ByteArray × Int × Int × Int × Int × Int × Int × Int × ByteArray × ByteArray
abbrev ip0 : IpT := (0, ByteArray.empty, ByteArray.empty, 0, 0, 0, 0, 0, 0, 0, ByteArray.empty, ByteArray.empty)
/-- How many bytes a header of version 4 has. -/
def ihl (s : ByteArray) : Nat := (bt s 0 % 16 * 4).toNat
theorem ihl_eq (s : ByteArray) : (ihl s : Int) = bt s 0 % 16 * 4 ∧ ihl s ≤ 60 := by
  have := bt_lo s 0; have := bt_hi s 0; unfold ihl; omega
abbrev nn : ByteArray := ⟨#[0, 0]⟩
/-- The sum that a header of version 4 should have. -/
def ipsum (s : ByteArray) : Int := 65535 - nrm (tot (s.extract 0 10 ++ nn ++ s.extract 12 (ihl s)).data.toList)
theorem ipsum_lo (s : ByteArray) : 0 ≤ ipsum s ∧ ipsum s ≤ 65535 := by
  have := nrm_lo (tot_nonneg (s.extract 0 10 ++ nn ++ s.extract 12 (ihl s)).data.toList)
  unfold ipsum; omega
/-- A packet, taken apart; or what is wrong with it. -/
def fourP (s : ByteArray) : Int ⊕ IpT :=
  if s.size < 20 then .inl 70
  else if s.size < ihl s then .inl 70
  else if ihl s < 20 then .inl 71
  else if be s 6 2 ≥ 32768 then .inl 71
  else if be s 2 2 ≠ s.size then .inl 71
  else if ipsum s ≠ be s 10 2 then .inl 72
  else .inr (4, s.extract 12 16, s.extract 16 20, bt s 9, bt s 8, bt s 1, be s 4 2, be s 6 2 / 8192, be s 6 2 % 8192, 0, s.extract 20 (ihl s), s.extract (ihl s) s.size)
def sixP (s : ByteArray) : Int ⊕ IpT :=
  if s.size < 40 then .inl 70
  else if be s 4 2 + 40 ≠ s.size then .inl 71
  else .inr (6, s.extract 8 24, s.extract 24 40, bt s 6, bt s 7, be s 0 4 / 1048576 % 256, 0, 0, 0, be s 0 4 % 1048576, ByteArray.empty, s.extract 40 s.size)
def sumP : Int ⊕ IpT → IpT × Int
  | .inl e => (ip0, e)
  | .inr p => (p, 0)
def ipP (s : ByteArray) : IpT × Int :=
  if s.size = 0 then (ip0, 70)
  else if bt s 0 / 16 = 4 then sumP (fourP s)
  else if bt s 0 / 16 = 6 then sumP (sixP s)
  else (ip0, 71)
section
variable (k : Nat) (s : ByteArray) (hs : s.size ≤ 1000000) (hk : s.size + 100 ≤ k)
include hs hk
theorem get2 (i : Nat) (hi : i + 2 ≤ s.size) : F_words_Get.S k s (i : Int) (2 : Int) true = .ok (be s i 2, 0) := by
  have := Get_S k (by omega) s (by omega) i 2 (by omega) (by omega)
  rw [if_pos hi] at this; exact this
theorem get4 (hi : 4 ≤ s.size) : F_words_Get.S k s (0 : Int) (4 : Int) true = .ok (be s 0 4, 0) := by
  have := Get_S k (by omega) s (by omega) 0 4 (by omega) (by omega)
  rw [if_pos (by omega)] at this; exact this
theorem four_S : F_ip_four.S k s = .ok (fourP s) := by
  obtain ⟨hi1, hi2⟩ := ihl_eq s
  have c1 := bt_lo s 0; have c2 := bt_hi s 0
  have en : IntKind.i64.wrap (4 * IntKind.i64.wrap (bAnd .u8 (bt s 0) 15)) = (ihl s : Int) := by
    rw [and15_bt, i64_in (bt s 0 % 16) (by omega), i64_in _ (by omega), hi1]; omega
  have hz : nn.size = 2 := rfl
  have hsum : F_csum_Sum.S k (s.extract 0 10 ++ nn ++ s.extract 12 (ihl s)) = .ok (ipsum s) :=
    Sum_S k _ (by rw [app_size, app_size, ext_size, ext_size, hz]; omega) (by rw [app_size, app_size, ext_size, ext_size, hz]; omega)
  have b6 := be2_lo s 6; have b2 := be2_lo s 2; have b4 := be2_lo s 4; have b10 := be2_lo s 10; have hsl := ipsum_lo s
  apply O.sat_val
  unfold F_ip_four.S
  simp only [en, Int.toNat_natCast, app_size, ext_size, hz, hsum, O.bind_ok]
  refine O.sat_condn (fun h => O.sat_ok (by unfold fourP; rw [if_pos (by omega)])) fun h1 => ?_
  refine O.sat_chk (by omega) ?_
  refine O.sat_condn (fun h => O.sat_ok (by unfold fourP; rw [if_neg (by omega), if_pos (by omega)])) fun h2 => ?_
  refine O.sat_eq (get2 k s hs hk 6 (by omega)) ?_
  simp only [decide_true, Bool.not_true, O.cond_false, i64_be2, shr15]
  refine O.sat_cond (fun h3 => ?_) fun h => O.sat_ok (by unfold fourP; rw [if_neg (by omega), if_neg (by omega), if_pos (by omega)])
  refine O.sat_cond (fun h4 => ?_) fun h => O.sat_ok (by unfold fourP; rw [if_neg (by omega), if_neg (by omega), if_neg (by omega), if_pos (by omega)])
  refine O.sat_eq (get2 k s hs hk 2 (by omega)) ?_
  simp only [decide_true, Bool.not_true, O.cond_false, i64_be2]
  refine O.sat_condn (fun h => O.sat_ok (by unfold fourP; rw [if_neg (by omega), if_neg (by omega), if_neg (by omega), if_neg (by omega), if_pos (by omega)])) fun h5 => ?_
  refine O.sat_chk (by omega) (O.sat_chk (by omega) (O.sat_chk (by omega) (O.sat_chk (by omega) ?_)))
  refine O.sat_eq (get2 k s hs hk 10 (by omega)) ?_
  simp only [decide_true, Bool.not_true, O.cond_false, i64_be2, u16_be2]
  refine O.sat_condn (fun h => O.sat_ok (by unfold fourP; rw [if_neg (by omega), if_neg (by omega), if_neg (by omega), if_neg (by omega), if_neg (by omega), if_pos (by omega)])) fun h6 => ?_
  repeat refine O.sat_chk (by omega) ?_
  refine O.sat_eq (get2 k s hs hk 4 (by omega)) ?_
  simp only [decide_true, Bool.not_true, O.cond_false, i64_be2, i64_bt, shr13', and8191 _ b6]
  exact O.sat_ok (by unfold fourP; rw [if_neg (by omega), if_neg (by omega), if_neg (by omega), if_neg (by omega), if_neg (by omega), if_neg (by omega)])
theorem six_S : F_ip_six.S k s = .ok (sixP s) := by
  have b4 := be2_lo s 4; have b0 := be4_lo s 0
  apply O.sat_val
  unfold F_ip_six.S
  refine O.sat_condn (fun h => O.sat_ok (by unfold sixP; rw [if_pos (by omega)])) fun h1 => ?_
  refine O.sat_eq (get2 k s hs hk 4 (by omega)) ?_
  simp only [decide_true, Bool.not_true, O.cond_false, i64_be2]
  rw [i64_in ((s.size : Int) - 40) (by omega)]
  refine O.sat_condn (fun h => O.sat_ok (by unfold sixP; rw [if_neg (by omega), if_pos (by omega)])) fun h2 => ?_
  refine O.sat_eq (get4 k s hs hk (by omega)) ?_
  simp only [decide_true, Bool.not_true, O.cond_false, i64_be4, i64_bt, shr20, and20 _ b0]
  repeat refine O.sat_chk (by omega) ?_
  rw [and255 _ (by omega)]
  exact O.sat_ok (by unfold sixP; rw [if_neg (by omega), if_neg (by omega)])
theorem ipParse_S : F_ip_Parse.S k s = .ok (ipP s) := by
  have he := empty_iff s
  apply O.sat_val
  unfold F_ip_Parse.S
  simp only [shr4_bt]
  refine O.sat_condn (fun h => O.sat_ok (by unfold ipP; rw [if_pos (by rw [← he]; exact Decidable.not_not.1 h)])) fun h1 => ?_
  have h0 : ¬ s.size = 0 := fun e => h1 (he.2 e)
  refine O.sat_chk (by omega) ?_
  refine O.sat_cond (fun h4 => ?_) fun h4 => ?_
  · refine O.sat_sum (four_S k s hs hk) (fun e he => O.sat_ok ?_) fun b hb => O.sat_ok ?_
    · unfold ipP; rw [if_neg h0, if_pos h4, he]; rfl
    · unfold ipP; rw [if_neg h0, if_pos h4, hb]; rfl
  · refine O.sat_cond (fun h6 => ?_) fun h6 => O.sat_ok (by unfold ipP; rw [if_neg h0, if_neg h4, if_neg h6])
    refine O.sat_sum (six_S k s hs hk) (fun e he => O.sat_ok ?_) fun b hb => O.sat_ok ?_
    · unfold ipP; rw [if_neg h0, if_neg h4, if_pos h6, he]; rfl
    · unfold ipP; rw [if_neg h0, if_neg h4, if_pos h6, hb]; rfl
end
end Go.Proofs.Ytojomdlccjlioaa
