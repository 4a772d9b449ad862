/- What Put comes to, the low byte first. -/
import Derived.Test.YtpfddjdkafjjfaaGreatDPP
namespace Go.Proofs.YtpfddjdkafjjfaaGreat
open Go.Aq Go.IntWalk
set_option linter.unusedVariables false
/-- A number's bytes, the low one first. -/
def putL (v : Int) (n : Nat) : ByteArray := revT (putT v n)
theorem putL_size (v : Int) (n : Nat) : (putL v n).size = n := by unfold putL; rw [revT_size, putT_size]
theorem putL_succ (v : Int) (n : Nat) : putL v (n + 1) = putL v n ++ Go.Aq.strOf [v / 256 ^ n % 256] := by
  show revT (Go.Aq.strOf (v / 256 ^ n % 256 :: wb v n)) = revT (Go.Aq.strOf (wb v n)) ++ _
  apply list_eq
  rw [app_list]
  simp [Go.Aq.strOf, revT]
theorem PutL_S (k : Nat) (hk : 9 ≤ k) (v : Int) (n : Nat) (hv : 0 ≤ v ∧ v < 18446744073709551616) (hn : 1 ≤ n ∧ n ≤ 8) :
    F_words_Put.S k v (n : Int) false = .ok (if v < 256 ^ n then (putL v n, 0) else (⟨#[]⟩, 1)) := by
  rw [Put_S k hk v n hv hn false]; rfl
end Go.Proofs.YtpfddjdkafjjfaaGreat
