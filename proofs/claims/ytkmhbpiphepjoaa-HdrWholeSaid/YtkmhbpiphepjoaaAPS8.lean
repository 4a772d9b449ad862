/- What the document's sum of a segment, and what it is made of, come to. -/
import Derived.Test.YtkmhbpiphepjoaaAPS
import Derived.Test.YtkmhbpiphepjoaaAPU
namespace Go.Proofs.Ytkmhbpiphepjoaa
open Go.Aq Go.IntWalk
set_option linter.unusedVariables false
theorem rput_S (k : Nat) (hk : 9 ≤ k) (v : Int) (n : Nat) (hv : 0 ≤ v ∧ v < 2 ^ 62) (hn : 1 ≤ n ∧ n ≤ 8) : F_aqueductref01_Put.S k (IntKind.u64.wrap v) (n : Int) true = .ok (if v < 256 ^ n then (putT v n, 0) else (⟨#[]⟩, 1)) := by
  rw [u64_in v (by omega)]; exact rPut_S k hk v n (by omega) hn
theorem r8put_S (k : Nat) (hk : 9 ≤ k) (v : Int) (n : Nat) (hv : 0 ≤ v ∧ v < 256 ^ n) (hv' : v < 2 ^ 62) (hn : 1 ≤ n ∧ n ≤ 8) : F_aqueductref08_put.S k v (n : Int) = .ok (putT v n) := by
  unfold F_aqueductref08_put.S
  rw [rput_S k hk v n ⟨hv.1, hv'⟩ hn, O.bind_ok, if_pos hv.2]
theorem r7put_S (k : Nat) (hk : 9 ≤ k) (v : Int) (n : Nat) (hv : 0 ≤ v ∧ v < 256 ^ n) (hv' : v < 2 ^ 62) (hn : 1 ≤ n ∧ n ≤ 8) : F_aqueductref07_put.S k v (n : Int) = .ok (putT v n) := by
  unfold F_aqueductref07_put.S
  rw [rput_S k hk v n ⟨hv.1, hv'⟩ hn, O.bind_ok, if_pos hv.2]
theorem rset_S (k : Nat) (hk : 9 ≤ k) (s : ByteArray) (i : Nat) (n : Int) (hs : s.size ≤ 140737488351232) (hi : i + 2 ≤ s.size) (hn : 0 ≤ n ∧ n ≤ 65535) : F_aqueductref08_set.S k s (i : Int) n = .ok (set2 s i n) := by
  have h1 : (s.extract 0 i).size = i := by rw [ext_size]; omega
  have h2 : (s.extract (i + 2) s.size).size = s.size - (i + 2) := by rw [ext_size]; omega
  have e : (i : Int) + 2 = ((i + 2 : Nat) : Int) := by push_cast; rfl
  have hp := r8put_S k hk n 2 ⟨hn.1, by rw [show (256 : Int) ^ 2 = 65536 from rfl]; omega⟩ (by omega) (by omega)
  unfold F_aqueductref08_set.S
  simp only [Int.toNat_natCast]
  rw [i64_in n (by omega), show (2 : Int) = ((2 : Nat) : Int) from rfl, hp, show ((2 : Nat) : Int) = (2 : Int) from rfl, i64_in ((i : Int) + 2) (by omega), e]
  simp only [O.bind_ok, Int.toNat_natCast]
  repeat rw [O.chk_dec (by first | omega | (simp only [app_size, h1, h2, putT_size]; omega))]
  rfl

theorem rPseudo_S (k : Nat) (hk : 9 ≤ k) (p : IpT) (n : Int) (h1 : p.2.1.size ≤ 1000000) (h2 : p.2.2.1.size ≤ 1000000) (hp : 0 ≤ p.2.2.2.1 ∧ p.2.2.2.1 ≤ 255) (hn : 0 ≤ n ∧ n ≤ 65535) : F_aqueductref07_Pseudo.S k p n = .ok (pseu p n) := by
  have p1 : F_aqueductref07_put.S k 0 1 = .ok (putT 0 1) := r7put_S k hk 0 1 (by omega) (by omega) (by omega)
  have p2 : F_aqueductref07_put.S k p.2.2.2.1 1 = .ok (putT p.2.2.2.1 1) := r7put_S k hk _ 1 (by omega) (by omega) (by omega)
  have p3 : F_aqueductref07_put.S k n 2 = .ok (putT n 2) := r7put_S k hk n 2 (by omega) (by omega) (by omega)
  have p4 : F_aqueductref07_put.S k n 4 = .ok (putT n 4) := r7put_S k hk n 4 (by omega) (by omega) (by omega)
  have p5 : F_aqueductref07_put.S k 0 3 = .ok (putT 0 3) := r7put_S k hk 0 3 (by omega) (by omega) (by omega)
  have t1 : Int.tmod n 65536 = n := by rw [rem_in _ _ hn.1]; omega
  have t2 : Int.tmod n 4294967296 = n := by rw [rem_in _ _ hn.1]; omega
  apply O.sat_val
  unfold F_aqueductref07_Pseudo.S
  simp only [t1, t2, p1, p2, p3, p4, p5, O.bind_ok]
  refine O.sat_cond (fun h4 => ?_) fun h4 => O.sat_cond (fun h6 => ?_) fun h6 => ?_
  · repeat refine O.sat_chk (by first | omega | (simp only [app_size, putT_size]; omega)) ?_
    refine O.sat_ok ?_
    show _ = pseu p n
    rw [pseu, if_pos h4]
  · repeat refine O.sat_chk (by first | omega | (simp only [app_size, putT_size]; omega)) ?_
    refine O.sat_ok ?_
    show _ = pseu p n
    rw [pseu, if_neg h4, if_pos h6]
  · refine O.sat_ok ?_
    show _ = pseu p n
    rw [pseu, if_neg h4, if_neg h6]
theorem rAt_S (k : Nat) (p : IpT) : F_aqueductref08_At.S k p = .ok (plc p : Int) := by
  unfold F_aqueductref08_At.S plc; rw [O.cond_dec]; split <;> rfl
theorem rfull_S (k : Nat) (n : Int) : F_aqueductref08_full.S k n = .ok (fullP n) := by
  unfold F_aqueductref08_full.S fullP; rw [O.cond_dec]; split <;> rfl
section
variable (k : Nat) (p : IpT) (s : ByteArray) (h1 : p.2.1.size ≤ 1000000) (h2 : p.2.2.1.size ≤ 1000000) (hs : s.size ≤ 1000000) (hk : s.size + 3000000 ≤ k)
include h1 h2 hs hk
theorem rsum_S (hp : plc p + 2 ≤ s.size) (hpr : 0 ≤ p.2.2.2.1 ∧ p.2.2.2.1 ≤ 255) (hs' : s.size ≤ 65535) : F_aqueductref08_Sum.S k p s = .ok (ssum p s) := by
  have hz := pseu_size p s.size h1 h2
  unfold F_aqueductref08_Sum.S
  rw [rPseudo_S k (by omega) p _ h1 h2 hpr (by omega), O.bind_ok, rAt_S, O.bind_ok, rset_S k (by omega) s _ 0 (by omega) hp (by omega), O.bind_ok, O.chk_dec (by rw [set2_size s _ _ hp]; omega), rSum_S k _ (by rw [app_size, set2_size s _ _ hp]; omega) (by rw [app_size, set2_size s _ _ hp]; omega), O.bind_ok, rfull_S, O.bind_ok]
  rfl
end
end Go.Proofs.Ytkmhbpiphepjoaa
