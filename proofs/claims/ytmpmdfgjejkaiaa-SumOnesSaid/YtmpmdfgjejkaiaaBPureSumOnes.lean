/- The plain law of SumOnes: a sum goes on from any sum as from what came to it. -/
import Derived.Test.YtmpmdfgjejkaiaaBP02
namespace Go.Proofs.Ytmpmdfgjejkaiaa.Pure
open Go.Aq Go.IntWalk
theorem word_list (a : Int) (h : 0 ≤ a ∧ a ≤ 65535) : (strOf [IntKind.u8.wrap (shR .u16 a 8), IntKind.u8.wrap a]).data.toList = [UInt8.ofNat (a / 256).toNat, UInt8.ofNat (a % 256).toNat] := by
  have r8 : shR .u16 a 8 = a / 2 ^ 8 := shR_eq .u16 a 8 (by decide)
  rw [r8, show ((2 : Int) ^ 8) = 256 from rfl, u8_in (a / 256) (by omega), IntKind.wrap_u8]
  rfl
theorem word_tot (a : Int) (h : 0 ≤ a ∧ a ≤ 65535) (l : List UInt8) : tot (UInt8.ofNat (a / 256).toNat :: UInt8.ofNat (a % 256).toNat :: l) = a + tot l := by
  simp only [tot, UInt8.toNat_ofNat']
  omega
theorem SumOnes : ∀ (a0 : Int) (a1 : ByteArray), (Lit.int .u16 a0).wf = true → a1.size ≤ 140737488351232 → ∃ k, F_aqueductlaw02_SumOnes.S k a0 a1 = .ok true := by
  intro a0 a1 h0 h1
  have h0 := wf_u16 h0
  refine ⟨2000, ?_⟩
  unfold F_aqueductlaw02_SumOnes.S
  rw [O.chk_dec (by omega), fixed_S _ (by omega), O.bind_ok, O.cond_true]
  generalize hs : a1.extract 0 (min (a1.size : Int) 1000).toNat = s
  have hsz : s.size ≤ 1000 := by rw [← hs, ByteArray.size_extract]; omega
  have hw := word_list a0 h0
  generalize hwd : strOf [IntKind.u8.wrap (shR .u16 a0 8), IntKind.u8.wrap a0] = wd at *
  have hwsz : wd.size = 2 := by rw [size_list, hw]; rfl
  have hap : (wd ++ s).data.toList = wd.data.toList ++ s.data.toList := by simp
  have hasz : (wd ++ s).size = 2 + s.size := by rw [size_list, hap, List.length_append, ← size_list, ← size_list, hwsz]
  have t1 : tot (wd ++ s).data.toList = a0 + tot s.data.toList := by rw [hap, hw]; exact word_tot a0 h0 _
  have t2 : tot wd.data.toList = a0 := by rw [hw]; have := word_tot a0 h0 []; simpa [tot] using this
  rw [On_S _ a0 s h0 (by omega) (by omega), O.bind_ok, O.chk_dec (by omega), On_S _ 0 _ (by omega) (by omega) (by omega), O.bind_ok, t1, Int.zero_add, O.cond_pos rfl, u16_in (65535 - a0) (by omega),
    On_S _ _ _ (by omega) (by omega) (by omega), O.bind_ok, t2, show 65535 - a0 + a0 = 65535 by omega, show nrm 65535 = 65535 from rfl, O.cond_pos rfl, Join_S _ (by omega) _ _ _ h0 (by omega), O.bind_ok]
  have : jn a0 (65535 - a0) 0 = 65535 := by
    unfold jn
    rw [if_neg (by decide), show a0 + (65535 - a0) = 65535 by omega]; rfl
  rw [this]; rfl
end Go.Proofs.Ytmpmdfgjejkaiaa.Pure
