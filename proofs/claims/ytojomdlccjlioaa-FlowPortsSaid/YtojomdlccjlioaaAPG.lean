/- Numbers of two and four bytes. -/
import Derived.Test.YtojomdlccjlioaaAPI
import Derived.Test.YtojomdlccjlioaaAPP
namespace Go.Proofs.Ytojomdlccjlioaa
open Go.Aq Go.IntWalk
set_option linter.unusedVariables false
section
variable (k : Nat) (s : ByteArray) (hs : s.size ≤ 1000000) (hk : s.size + 100 ≤ k)
include hs hk
theorem rget2 (i : Nat) (hi : i + 2 ≤ s.size) : F_aqueductref01_Get.S k s (i : Int) (2 : Int) true = .ok (be s i 2, 0) := by
  have := rGet_S k (by omega) s (by omega) i 2 (by omega) (by omega)
  rw [if_pos hi] at this; exact this
theorem rget4 (i : Nat) (hi : i + 4 ≤ s.size) : F_aqueductref01_Get.S k s (i : Int) (4 : Int) true = .ok (be s i 4, 0) := by
  have := rGet_S k (by omega) s (by omega) i 4 (by omega) (by omega)
  rw [if_pos hi] at this; exact this
theorem get4' (i : Nat) (hi : i + 4 ≤ s.size) : F_words_Get.S k s (i : Int) (4 : Int) true = .ok (be s i 4, 0) := by
  have := Get_S k (by omega) s (by omega) i 4 (by omega) (by omega)
  rw [if_pos hi] at this; exact this
theorem r7num2 (i : Nat) (hi : i + 2 ≤ s.size) : F_aqueductref07_num.S k s (i : Int) (2 : Int) = .ok (be s i 2) := by
  unfold F_aqueductref07_num.S; rw [rget2 k s hs hk i hi, O.bind_ok, i64_be2]
theorem r7num4 (i : Nat) (hi : i + 4 ≤ s.size) : F_aqueductref07_num.S k s (i : Int) (4 : Int) = .ok (be s i 4) := by
  unfold F_aqueductref07_num.S; rw [rget4 k s hs hk i hi, O.bind_ok, i64_be4]

end
end Go.Proofs.Ytojomdlccjlioaa
