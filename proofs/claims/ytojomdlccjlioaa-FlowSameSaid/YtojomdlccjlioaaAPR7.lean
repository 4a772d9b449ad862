/- What the document's ip.Parse comes to. -/
import Derived.Test.YtojomdlccjlioaaAPG
namespace Go.Proofs.Ytojomdlccjlioaa
open Go.Aq Go.IntWalk
set_option linter.unusedVariables false
section
variable (k : Nat) (s : ByteArray) (hs : s.size ≤ 1000000) (hk : s.size + 100 ≤ k)
include hs hk
theorem rfour_S (h0 : 0 < s.size) : F_aqueductref07_four.S k s = .ok (sumP (fourP s)) := by
  obtain ⟨hi1, hi2⟩ := ihl_eq s
  have c1 := bt_lo s 0; have c2 := bt_hi s 0
  have en : IntKind.i64.wrap (Int.tmod (IntKind.i64.wrap (bt s 0)) 16 * 4) = (ihl s : Int) := by
    rw [i64_bt, rem_in _ _ c1, i64_in _ (by omega), hi1]
  have hz : nn.size = 2 := rfl
  have hsum : F_aqueductref02_Sum.S k (s.extract 0 10 ++ nn ++ s.extract 12 (ihl s)) = .ok (ipsum s) :=
    rSum_S k _ (by rw [app_size, app_size, ext_size, ext_size, hz]; omega) (by rw [app_size, app_size, ext_size, ext_size, hz]; omega)
  have b6 := be2_lo s 6; have b2 := be2_lo s 2; have b4 := be2_lo s 4; have b10 := be2_lo s 10; have hsl := ipsum_lo s
  apply O.sat_val
  unfold F_aqueductref07_four.S
  simp only [en, Int.toNat_natCast, app_size, ext_size, hz, hsum, O.bind_ok]
  refine O.sat_chk (by omega) ?_
  refine O.sat_cond (fun h => O.sat_ok (by unfold fourP; rw [if_pos (by omega)]; rfl)) fun h1 => ?_
  refine O.sat_cond (fun h => O.sat_ok (by unfold fourP; rw [if_neg (by omega), if_pos (by omega)]; rfl)) fun h2 => ?_
  refine O.sat_eq (r7num2 k s hs hk 6 (by omega)) ?_
  refine O.sat_cond (fun h => O.sat_ok (by unfold fourP; rw [if_neg (by omega), if_neg (by omega), if_pos (by omega)]; rfl)) fun h3 => ?_
  refine O.sat_cond (fun h => O.sat_ok (by unfold fourP; rw [if_neg (by omega), if_neg (by omega), if_neg (by omega), if_pos (by omega)]; rfl)) fun h4 => ?_
  refine O.sat_eq (r7num2 k s hs hk 2 (by omega)) ?_
  refine O.sat_cond (fun h => O.sat_ok (by unfold fourP; rw [if_neg (by omega), if_neg (by omega), if_neg (by omega), if_neg (by omega), if_pos (by omega)]; rfl)) fun h5 => ?_
  refine O.sat_chk (by omega) (O.sat_chk (by omega) (O.sat_chk (by omega) (O.sat_chk (by omega) ?_)))
  refine O.sat_eq (r7num2 k s hs hk 10 (by omega)) ?_
  rw [i64_in (ipsum s) (by omega)]
  refine O.sat_cond (fun h => O.sat_ok (by unfold fourP; rw [if_neg (by omega), if_neg (by omega), if_neg (by omega), if_neg (by omega), if_neg (by omega), if_pos (by omega)]; rfl)) fun h6 => ?_
  repeat refine O.sat_chk (by omega) ?_
  refine O.sat_eq (r7num2 k s hs hk 4 (by omega)) ?_
  simp only [i64_bt, quo_in _ _ b6.1, rem_in _ _ b6.1]
  rw [i64_in (be s 6 2 / 8192) (by omega)]
  exact O.sat_ok (by unfold fourP; rw [if_neg (by omega), if_neg (by omega), if_neg (by omega), if_neg (by omega), if_neg (by omega), if_neg (by omega)]; rfl)
theorem ripParse_S : F_aqueductref07_Parse.S k s = .ok (ipP s) := by
  have he := empty_iff s
  have c1 := bt_lo s 0; have c2 := bt_hi s 0
  have b4 := be2_lo s 4; have b0 := be4_lo s 0
  apply O.sat_val
  unfold F_aqueductref07_Parse.S
  simp only [i64_bt, quo_in _ _ c1]
  rw [i64_in (bt s 0 / 16) (by omega)]
  refine O.sat_cond (fun h => O.sat_ok (by unfold ipP; rw [if_pos (he.1 h)])) fun h1 => ?_
  have h0 : ¬ s.size = 0 := fun e => h1 (he.2 e)
  refine O.sat_chk (by omega) ?_
  refine O.sat_cond (fun h4 => ?_) fun h4 => ?_
  · refine O.sat_eq (rfour_S k s hs hk (by omega)) (O.sat_ok ?_)
    unfold ipP; rw [if_neg h0, if_pos h4]
  · refine O.sat_cond (fun h6 => O.sat_ok (by unfold ipP; rw [if_neg h0, if_neg h4, if_neg h6])) fun h6 => ?_
    have h6 : bt s 0 / 16 = 6 := Decidable.not_not.1 h6
    have fin : ∀ r, sumP (sixP s) = r → r = ipP s := fun r hr => by unfold ipP; rw [if_neg h0, if_neg h4, if_pos h6, hr]
    refine O.sat_cond (fun h => O.sat_ok (fin _ (by unfold sixP; rw [if_pos (by omega)]; rfl))) fun g1 => ?_
    refine O.sat_eq (r7num2 k s hs hk 4 (by omega)) ?_
    rw [i64_in ((s.size : Int) - 40) (by omega)]
    refine O.sat_cond (fun h => O.sat_ok (fin _ (by unfold sixP; rw [if_neg (by omega), if_pos (by omega)]; rfl))) fun g2 => ?_
    refine O.sat_eq (r7num4 k s hs hk 0 (by omega)) ?_
    simp only [quo_in _ _ b0.1, rem_in _ _ b0.1]
    rw [i64_in (be s 0 4 / 1048576) (by omega), rem_in _ _ (by omega)]
    repeat refine O.sat_chk (by omega) ?_
    exact O.sat_ok (fin _ (by unfold sixP; rw [if_neg (by omega), if_neg (by omega)]; rfl))
end
end Go.Proofs.Ytojomdlccjlioaa
