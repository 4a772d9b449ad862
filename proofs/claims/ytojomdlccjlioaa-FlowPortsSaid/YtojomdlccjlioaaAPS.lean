/- What segment.sum, and what it is made of, come to. -/
import Derived.Test.YtojomdlccjlioaaAPI
import Derived.Test.YtojomdlccjlioaaAPP
namespace Go.Proofs.Ytojomdlccjlioaa
open Go.Aq Go.IntWalk
set_option linter.unusedVariables false
abbrev SegT := Int × Int × Int × Int × Int × Int × Int × ByteArray × ByteArray × Bool
abbrev seg0 : SegT := (0, 0, 0, 0, 0, 0, 0, ByteArray.empty, ByteArray.empty, false)

theorem bAnd_one (a : Int) : bAnd .i64 a 1 = a % 2 := by
  unfold bAnd
  rw [BitVec.toNat_and, BitVec.toNat_ofInt, BitVec.toNat_ofInt]
  show IntKind.i64.wrap (((a % 18446744073709551616).toNat &&& 2 ^ 1 - 1 : Nat) : Int) = a % 2
  rw [Nat.and_two_pow_sub_one_eq_mod]
  have h : (((a % 18446744073709551616).toNat % 2 ^ 1 : Nat) : Int) = a % 2 := by omega
  rw [h, i64_in _ (by omega)]
/-- May a packet carry a segment? -/
def carP (p : IpT) : Prop := (p.2.2.2.1 = 6 ∨ p.2.2.2.1 = 17) ∧ p.2.2.2.2.2.2.2.2.1 = 0 ∧ p.2.2.2.2.2.2.2.1 % 2 = 0 ∧ ((p.1 = 4 ∧ p.2.1.size = 4 ∧ p.2.2.1.size = 4) ∨ (p.1 = 6 ∧ p.2.1.size = 16 ∧ p.2.2.1.size = 16))
instance (p : IpT) : Decidable (carP p) := inferInstanceAs (Decidable (_ ∧ _ ∧ _ ∧ _))
theorem smay_S (k : Nat) (p : IpT) : F_segment_may.S k p = .ok (if carP p then .inr () else .inl 81) := by
  unfold F_segment_may.S F_segment_may.top F_segment_may.j3 F_segment_may.j3_b
  simp only [bAnd_one, O.cond_dec]
  have cn : ∀ (q : Prop) [Decidable q] (x y : O (Int ⊕ Unit)), O.cond (!decide q) x y = if q then y else x := fun q _ x y => by by_cases h : q <;> simp [h]
  simp only [cn]
  have yes : carP p → (if carP p then (.inr () : Int ⊕ Unit) else .inl 81) = .inr () := fun h => if_pos h
  have no : ¬ carP p → (if carP p then (.inr () : Int ⊕ Unit) else .inl 81) = .inl 81 := fun h => if_neg h
  revert yes no
  generalize (if carP p then (.inr () : Int ⊕ Unit) else .inl 81) = r
  intro yes no
  repeat' split
  all_goals first | exact congrArg O.ok (yes (by unfold carP; omega)).symm | exact congrArg O.ok (no (by unfold carP; omega)).symm

/-- Two bytes of a text, other ones. -/
def set2 (s : ByteArray) (i : Nat) (n : Int) : ByteArray := s.extract 0 i ++ putT n 2 ++ s.extract (i + 2) s.size
theorem set2_size (s : ByteArray) (i : Nat) (n : Int) (h : i + 2 ≤ s.size) : (set2 s i n).size = s.size := by
  unfold set2; rw [app_size, app_size, ext_size, ext_size, putT_size]; omega
theorem two_putT (n : Int) (h : 0 ≤ n ∧ n ≤ 65535) : strOf [IntKind.u8.wrap (shR .u16 n 8), IntKind.u8.wrap n] = putT n 2 := by
  have e1 : shR .u16 n 8 = n / 256 := shR_eq .u16 n 8 (by decide)
  have e2 : IntKind.u8.wrap (n / 256) = n / 256 ^ 1 % 256 := by simp [IntKind.wrap, IntKind.bits, IntKind.signed]
  have e3 : IntKind.u8.wrap n = n / 256 ^ 0 % 256 := by simp [IntKind.wrap, IntKind.bits, IntKind.signed]
  rw [e1, e2, e3]; rfl
theorem set_S (k : Nat) (s : ByteArray) (i : Nat) (n : Int) (hs : s.size ≤ 140737488351232) (hi : i + 2 ≤ s.size) (hn : 0 ≤ n ∧ n ≤ 65535) : F_segment_set.S k s (i : Int) n = .ok (set2 s i n) := by
  unfold F_segment_set.S
  have e : (i : Int) + 2 = ((i + 2 : Nat) : Int) := by push_cast; rfl
  rw [two_putT n hn, i64_in _ (by omega), e, Int.toNat_natCast, Int.toNat_natCast]
  have h1 : (s.extract 0 i).size = i := by rw [ext_size]; omega
  have h2 : (s.extract (i + 2) s.size).size = s.size - (i + 2) := by rw [ext_size]; omega
  rw [O.chk_dec (by omega), O.chk_dec (by omega), O.chk_dec (by rw [h1, putT_size]; omega), O.chk_dec (by rw [app_size, h1, h2, putT_size]; omega)]
  rfl
/-- What a segment of so many bytes is summed with. -/
def pseu (p : IpT) (n : Int) : ByteArray :=
  if p.1 = 4 then p.2.1 ++ p.2.2.1 ++ putT 0 1 ++ putT p.2.2.2.1 1 ++ putT n 2
  else if p.1 = 6 then p.2.1 ++ p.2.2.1 ++ putT n 4 ++ putT 0 3 ++ putT p.2.2.2.1 1
  else ⟨#[]⟩
theorem one_putT (n : Int) : strOf [IntKind.u8.wrap n] = putT n 1 := by
  have e3 : IntKind.u8.wrap n = n / 256 ^ 0 % 256 := by simp [IntKind.wrap, IntKind.bits, IntKind.signed]
  rw [e3]; rfl
theorem low_putT (n : Int) : strOf [IntKind.u8.wrap (shR .i64 n 8), IntKind.u8.wrap n] = putT n 2 := by
  have e1 : shR .i64 n 8 = n / 256 := shR_eq .i64 n 8 (by decide)
  have e2 : IntKind.u8.wrap (n / 256) = n / 256 ^ 1 % 256 := by simp [IntKind.wrap, IntKind.bits, IntKind.signed]
  have e3 : IntKind.u8.wrap n = n / 256 ^ 0 % 256 := by simp [IntKind.wrap, IntKind.bits, IntKind.signed]
  rw [e1, e2, e3]; rfl
theorem high_putT (n : Int) : strOf [IntKind.u8.wrap (shR .i64 n 24), IntKind.u8.wrap (shR .i64 n 16)] ++ putT n 2 = putT n 4 := by
  have e1 : shR .i64 n 24 = n / 2 ^ 24 := shR_eq .i64 n 24 (by decide)
  have e1' : shR .i64 n 16 = n / 2 ^ 16 := shR_eq .i64 n 16 (by decide)
  have e2 : IntKind.u8.wrap (n / 2 ^ 24) = n / 256 ^ 3 % 256 := by simp [IntKind.wrap, IntKind.bits, IntKind.signed]
  have e3 : IntKind.u8.wrap (n / 2 ^ 16) = n / 256 ^ 2 % 256 := by simp [IntKind.wrap, IntKind.bits, IntKind.signed]
  rw [e1, e1', e2, e3]
  unfold putT
  rw [← strOf_app]; rfl
theorem Pseudo_S (k : Nat) (p : IpT) (n : Int) (h1 : p.2.1.size ≤ 1000000) (h2 : p.2.2.1.size ≤ 1000000) : F_ip_Pseudo.S k p n = .ok (pseu p n) := by
  have z0 : (⟨#[0]⟩ : ByteArray) = putT 0 1 := rfl
  have rep : F_strings_Repeat.S k (putT 0 1) 3 = .ok (putT 0 3) := by
    rw [F_strings_Repeat.is k _ _ (by rw [putT_size]; omega)]; rfl
  have hz : (strOf [IntKind.u8.wrap (shR .i64 n 24), IntKind.u8.wrap (shR .i64 n 16)]).size = 2 := by rw [size_strOf]; rfl
  apply O.sat_val
  unfold F_ip_Pseudo.S
  simp only [z0, one_putT, low_putT, rep, O.bind_ok, O.same_eq, if_true]
  refine O.sat_cond (fun h4 => ?_) fun h4 => O.sat_cond (fun h6 => ?_) fun h6 => ?_
  · repeat refine O.sat_chk (by first | omega | (simp only [app_size, putT_size]; omega)) ?_
    refine O.sat_ok ?_
    show _ = pseu p n
    rw [pseu, if_pos h4]
  · refine O.sat_chk (by omega) ?_
    repeat rw [O.chk_dec (by simp only [app_size, putT_size, hz]; omega)]
    refine O.sat_ok ?_
    show _ = pseu p n
    rw [pseu, if_neg h4, if_pos h6, ← high_putT n]
    simp only [ByteArray.append_assoc]
  · refine O.sat_ok ?_
    show _ = pseu p n
    rw [pseu, if_neg h4, if_neg h6]
def plc (p : IpT) : Nat := if p.2.2.2.1 = 6 then 16 else 6
theorem place_S (k : Nat) (p : IpT) : F_segment_place.S k p = .ok (plc p : Int) := by
  unfold F_segment_place.S plc; rw [O.cond_dec]; split <;> rfl
theorem plc_le (p : IpT) : plc p = 16 ∨ plc p = 6 := by unfold plc; split <;> simp
def fullP (n : Int) : Int := if n = 0 then 65535 else n
theorem full_S (k : Nat) (n : Int) : F_segment_full.S k n = .ok (fullP n) := by
  unfold F_segment_full.S fullP; rw [O.cond_dec]; split <;> rfl
theorem full_lo {n : Int} (h : 0 ≤ n ∧ n ≤ 65535) : 0 ≤ fullP n ∧ fullP n ≤ 65535 := by unfold fullP; split <;> omega
theorem pseu_size (p : IpT) (n : Int) (h1 : p.2.1.size ≤ 1000000) (h2 : p.2.2.1.size ≤ 1000000) : (pseu p n).size ≤ 2000010 := by
  unfold pseu; split
  · simp only [app_size, putT_size]; omega
  · split
    · simp only [app_size, putT_size]; omega
    · show (0 : Nat) ≤ _; omega
/-- A segment's sum. -/
def ssum (p : IpT) (s : ByteArray) : Int := fullP (65535 - nrm (tot (pseu p s.size ++ set2 s (plc p) 0).data.toList))
theorem ssum_lo (p : IpT) (s : ByteArray) : 0 ≤ ssum p s ∧ ssum p s ≤ 65535 := by
  have := nrm_lo (tot_nonneg (pseu p s.size ++ set2 s (plc p) 0).data.toList)
  unfold ssum; exact full_lo (by omega)
section
variable (k : Nat) (p : IpT) (s : ByteArray) (h1 : p.2.1.size ≤ 1000000) (h2 : p.2.2.1.size ≤ 1000000) (hs : s.size ≤ 1000000) (hk : s.size + 3000000 ≤ k)
include h1 h2 hs hk
theorem sum_S (hp : plc p + 2 ≤ s.size) : F_segment_sum.S k p s = .ok (ssum p s) := by
  have hz := pseu_size p s.size h1 h2
  unfold F_segment_sum.S
  rw [Pseudo_S k p _ h1 h2, O.bind_ok, place_S, O.bind_ok, set_S k s _ 0 (by omega) hp (by omega), O.bind_ok, O.chk_dec (by rw [set2_size s _ _ hp]; omega), Sum_S k _ (by rw [app_size, set2_size s _ _ hp]; omega) (by rw [app_size, set2_size s _ _ hp]; omega), O.bind_ok, full_S, O.bind_ok]
  rfl
end
end Go.Proofs.Ytojomdlccjlioaa
