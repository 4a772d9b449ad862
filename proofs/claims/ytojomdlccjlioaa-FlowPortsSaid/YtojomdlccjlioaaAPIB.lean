/- What ip.Build comes to; a packet that is built is parsed as it was. -/
import Derived.Test.YtojomdlccjlioaaAPB
import Derived.Test.YtojomdlccjlioaaAPEB
namespace Go.Proofs.Ytojomdlccjlioaa
open Go.Aq Go.IntWalk
set_option linter.unusedVariables false
theorem be1 (s : ByteArray) (i : Nat) : be s i 1 = bt s (i : Int) := by simp [be]
theorem be_put (n : Nat) : ∀ v : Int, 0 ≤ v → v < 256 ^ n → be (putT v n) 0 n = v := by
  induction n with
  | zero => intro v h0 h; have : v = 0 := by rw [Int.pow_zero] at h; omega
            subst this; rfl
  | succ n ih =>
    intro v h0 h
    have e : putT v (n + 1) = putT (v / 256) n ++ strOf [v % 256] := by unfold putT; rw [wb_snoc v h0 n, strOf_app]
    rw [Int.pow_succ] at h
    unfold be
    rw [e, be_app _ _ 0 n (by rw [putT_size]; omega), ih (v / 256) (by omega) (by omega), bt_app, if_neg (by rw [putT_size]; omega), putT_size]
    have : bt (strOf [v % 256]) ((0 + n - n : Nat) : Int) = v % 256 := by
      rw [show 0 + n - n = 0 by omega, bt_strOf [v % 256] (by intro x hx; rw [List.mem_singleton] at hx; omega) 0]; rfl
    rw [this]; omega
theorem be_at (a : ByteArray) (v : Int) (n i : Nat) (hi : a.size = i) (hv : inU n v) : be (a ++ putT v n) i n = v := by
  have := be_app2 a (putT v n) 0 n
  rw [hi] at this
  exact Eq.trans this (be_put n v hv.1 hv.2)
def ipOpts (p : IpT) : ByteArray := p.2.2.2.2.2.2.2.2.2.2.1
def ipBod (p : IpT) : ByteArray := p.2.2.2.2.2.2.2.2.2.2.2
/-- May a packet of version 4 be? -/
def ok4 (p : IpT) : Prop := p.2.1.size = 4 ∧ p.2.2.1.size = 4 ∧ p.2.2.2.2.2.2.2.2.2.1 = 0 ∧ (ipOpts p).size ≤ 40 ∧ (ipOpts p).size % 4 = 0 ∧ (ipBod p).size + (ipOpts p).size ≤ 65515 ∧
  0 ≤ p.2.2.2.2.2.2.2.1 ∧ p.2.2.2.2.2.2.2.1 ≤ 3 ∧ 0 ≤ p.2.2.2.2.2.2.2.2.1 ∧ p.2.2.2.2.2.2.2.2.1 ≤ 8191 ∧ inU 1 p.2.2.2.2.2.1 ∧ inU 2 p.2.2.2.2.2.2.1 ∧ inU 1 p.2.2.2.2.1 ∧ inU 1 p.2.2.2.1
def ok6 (p : IpT) : Prop := p.2.1.size = 16 ∧ p.2.2.1.size = 16 ∧ p.2.2.2.2.2.2.1 = 0 ∧ p.2.2.2.2.2.2.2.1 = 0 ∧ p.2.2.2.2.2.2.2.2.1 = 0 ∧ (ipOpts p).size = 0 ∧ 0 ≤ p.2.2.2.2.2.2.2.2.2.1 ∧ p.2.2.2.2.2.2.2.2.2.1 ≤ 1048575 ∧
  0 ≤ p.2.2.2.2.2.1 ∧ p.2.2.2.2.2.1 ≤ 255 ∧ (ipBod p).size ≤ 65535 ∧ inU 1 p.2.2.2.1 ∧ inU 1 p.2.2.2.2.1
instance (p : IpT) : Decidable (ok4 p) := inferInstanceAs (Decidable (_ ∧ _))
instance (p : IpT) : Decidable (ok6 p) := inferInstanceAs (Decidable (_ ∧ _))
/-- A header's beginning, and what stands behind its sum. -/
def hdA (p : IpT) : ByteArray := putT (64 + (20 + (ipOpts p).size) / 4) 1 ++ putT p.2.2.2.2.2.1 1 ++ putT (20 + (ipOpts p).size + (ipBod p).size) 2 ++ putT p.2.2.2.2.2.2.1 2 ++ putT (p.2.2.2.2.2.2.2.1 * 8192 + p.2.2.2.2.2.2.2.2.1) 2 ++ putT p.2.2.2.2.1 1 ++ putT p.2.2.2.1 1
def hdB (p : IpT) : ByteArray := p.2.1 ++ p.2.2.1 ++ ipOpts p
def hdS (p : IpT) : Int := 65535 - nrm (tot (hdA p ++ nn ++ hdB p).data.toList)
def bytes4 (p : IpT) : ByteArray := hdA p ++ putT (hdS p) 2 ++ hdB p ++ ipBod p
def bytes6 (p : IpT) : ByteArray := putT (1610612736 + p.2.2.2.2.2.1 * 1048576 + p.2.2.2.2.2.2.2.2.2.1) 4 ++ putT (ipBod p).size 2 ++ putT p.2.2.2.1 1 ++ putT p.2.2.2.2.1 1 ++ p.2.1 ++ p.2.2.1 ++ ipBod p
/-- A packet's bytes. -/
def ipB (p : IpT) : ByteArray × Int :=
  if p.1 = 4 then (if ok4 p then (bytes4 p, 0) else (⟨#[]⟩, 71)) else if p.1 = 6 then (if ok6 p then (bytes6 p, 0) else (⟨#[]⟩, 71)) else (⟨#[]⟩, 71)
theorem hdA_size (p : IpT) : (hdA p).size = 10 := by unfold hdA; simp only [app_size, putT_size]
theorem hdS_lo (p : IpT) : 0 ≤ hdS p ∧ hdS p ≤ 65535 := by
  have := nrm_lo (tot_nonneg (hdA p ++ nn ++ hdB p).data.toList); unfold hdS; omega
theorem join4 (n : Int) (h : 0 ≤ n ∧ n < 16) : bOr .i64 64 n = 64 + n := by
  have := bOr_join .i64 4 n 4 (by decide) h.1 (by rw [show (2 : Int) ^ 4 = 16 from rfl]; omega) (by decide) (by decide)
  rw [show (4 : Int) * 2 ^ 4 = 64 from rfl, i64_in _ (by omega)] at this
  exact this
theorem join6 (c l : Int) (hc : 0 ≤ c ∧ c ≤ 255) (hl : 0 ≤ l ∧ l ≤ 1048575) : bOr .i64 (bOr .i64 1610612736 (shL .i64 c 20)) l = 1610612736 + c * 1048576 + l := by
  have s : shL .i64 c 20 = IntKind.i64.wrap (c * 2 ^ 20) := shL_eq .i64 c 20 (by decide)
  rw [show (2 : Int) ^ 20 = 1048576 from rfl, i64_in _ (by omega)] at s
  have a := bOr_join .i64 6 (c * 1048576) 28 (by decide) (by omega) (by rw [show (2 : Int) ^ 28 = 268435456 from rfl]; omega) (by decide) (by decide)
  rw [show (6 : Int) * 2 ^ 28 = 1610612736 from rfl, i64_in _ (by omega)] at a
  have b := bOr_join .i64 (1536 + c) l 20 (by omega) hl.1 (by rw [show (2 : Int) ^ 20 = 1048576 from rfl]; omega) (by rw [show (2 : Int) ^ 20 = 1048576 from rfl, show (2 : Int) ^ IntKind.i64.bits = 18446744073709551616 from rfl]; omega) (by decide)
  rw [show (2 : Int) ^ 20 = 1048576 from rfl, i64_in _ (by omega)] at b
  rw [s, a, show 1610612736 + c * 1048576 = (1536 + c) * 1048576 by omega, b]
theorem tag_word' (p v : Int) (hp : 0 ≤ p ∧ p ≤ 7) (hv : 0 ≤ v ∧ v ≤ 8191) : bOr .i64 (shL .i64 p 13) v = p * 8192 + v := by
  have s : shL .i64 p 13 = IntKind.i64.wrap (p * 2 ^ 13) := shL_eq .i64 p 13 (by decide)
  have j := bOr_join .i64 p v 13 hp.1 hv.1 (by rw [show (2 : Int) ^ 13 = 8192 from rfl]; omega) (by rw [show (2 : Int) ^ 13 = 8192 from rfl, show (2 : Int) ^ IntKind.i64.bits = 18446744073709551616 from rfl]; omega) (by decide)
  rw [show (2 : Int) ^ 13 = 8192 from rfl] at s j
  rw [s, i64_in (p * 8192) (by omega), j, i64_in _ (by omega)]
def fitIp (p : IpT) : Prop := p.2.2.2.1 < 2 ^ 63 ∧ p.2.2.2.2.1 < 2 ^ 63 ∧ p.2.2.2.2.2.1 < 2 ^ 63 ∧ p.2.2.2.2.2.2.1 < 2 ^ 63 ∧ (ipOpts p).size ≤ 9223372036854775807 ∧ (ipBod p).size ≤ 140737488351232
theorem build4_S (k : Nat) (hk : 200 ≤ k) (p : IpT) (w : fitIp p) : F_ip_build4.S k p = .ok (if ok4 p then .inr (bytes4 p) else .inl 71) := by
  obtain ⟨w1, w2, w3, w4, w5, w6⟩ := w
  have hz : nn.size = 2 := rfl
  have eo : p.2.2.2.2.2.2.2.2.2.2.1.size = (ipOpts p).size := rfl
  have eb : p.2.2.2.2.2.2.2.2.2.2.2.size = (ipBod p).size := rfl
  have no : ¬ ok4 p → O.sat (.ok (.inl 71) : O (Int ⊕ ByteArray)) fun r => r = if ok4 p then .inr (bytes4 p) else .inl 71 := fun h => O.sat_ok (by rw [if_neg h])
  apply O.sat_val
  unfold F_ip_build4.S
  refine O.sat_cond (fun a1 => ?_) fun a => no (fun c => by unfold ok4 at c; omega)
  refine O.sat_cond (fun a2 => ?_) fun a => no (fun c => by unfold ok4 at c; omega)
  refine O.sat_cond (fun a3 => ?_) fun a => no (fun c => by unfold ok4 at c; omega)
  refine O.sat_cond (fun a4 => ?_) fun a => no (fun c => by unfold ok4 at c; omega)
  rw [rem_in _ _ (by omega)]
  refine O.sat_cond (fun a5 => ?_) fun a => no (fun c => by unfold ok4 at c; omega)
  rw [i64_in (20 + _) (by omega), i64_in (65535 - _) (by omega)]
  refine O.sat_cond (fun a6 => ?_) fun a => no (fun c => by unfold ok4 at c; omega)
  refine O.sat_cond (fun a7 => ?_) fun a => no (fun c => by unfold ok4 at c; omega)
  refine O.sat_cond (fun a8 => ?_) fun a => no (fun c => by unfold ok4 at c; omega)
  refine O.sat_cond (fun a9 => ?_) fun a => no (fun c => by unfold ok4 at c; omega)
  refine O.sat_condn (fun a => no (fun c => by unfold ok4 at c; omega)) fun a10 => ?_
  rw [eo, eb] at *
  rw [quo_in _ _ (by omega), i64_in (_ / 4) (by omega), join4 _ (by omega), i64_in (20 + _ + _) (by omega), tag_word' _ _ (by omega) (by omega)]
  refine sat_put k (by omega) _ 1 (by omega) (by omega) (fun h => (h ⟨by omega, by rw [show (256 : Int) ^ 1 = 256 from rfl]; omega⟩).elim) fun _ _ => ?_
  refine sat_put k (by omega) _ 1 (by omega) w3 (fun h => no (fun c => h (by unfold ok4 at c; exact c.2.2.2.2.2.2.2.2.2.2.1))) fun c1 c2 => ?_
  refine O.sat_chk (by simp only [putT_size]; omega) ?_
  refine sat_put k (by omega) _ 2 (by omega) (by omega) (fun h => (h ⟨by omega, by rw [show (256 : Int) ^ 2 = 65536 from rfl]; omega⟩).elim) fun _ _ => ?_
  refine O.sat_chk (by simp only [app_size, putT_size]; omega) ?_
  refine sat_put k (by omega) _ 2 (by omega) w4 (fun h => no (fun c => h (by unfold ok4 at c; exact c.2.2.2.2.2.2.2.2.2.2.2.1))) fun d1 d2 => ?_
  refine O.sat_chk (by simp only [app_size, putT_size]; omega) ?_
  refine sat_put k (by omega) _ 2 (by omega) (by omega) (fun h => (h ⟨by omega, by rw [show (256 : Int) ^ 2 = 65536 from rfl]; omega⟩).elim) fun _ _ => ?_
  refine O.sat_chk (by simp only [app_size, putT_size]; omega) ?_
  refine sat_put k (by omega) _ 1 (by omega) w2 (fun h => no (fun c => h (by unfold ok4 at c; exact c.2.2.2.2.2.2.2.2.2.2.2.2.1))) fun e1 e2 => ?_
  refine O.sat_chk (by simp only [app_size, putT_size]; omega) ?_
  refine sat_put k (by omega) _ 1 (by omega) w1 (fun h => no (fun c => h (by unfold ok4 at c; exact c.2.2.2.2.2.2.2.2.2.2.2.2.2))) fun f1 f2 => ?_
  have yes : ok4 p := ⟨by omega, by omega, a3, by omega, by omega, by omega, a7, a8, a9, a10, ⟨c1, c2⟩, ⟨d1, d2⟩, ⟨e1, e2⟩, ⟨f1, f2⟩⟩
  have hl := hdS_lo p
  have sA := hdA_size p
  have sB : (hdB p).size = 8 + (ipOpts p).size := by unfold hdB; rw [app_size, app_size]; omega
  refine O.sat_chk (by simp only [app_size, putT_size]; omega) ?_
  refine O.sat_chk (by omega) ?_
  refine O.sat_chk (by rw [app_size]; omega) ?_
  show O.sat (O.chk (decide ((((hdA p).size + nn.size : Nat) : Int) ≤ 9223372036854775807)) (O.chk (decide ((((hdA p ++ nn).size + (hdB p).size : Nat) : Int) ≤ 9223372036854775807)) (O.bind (F_csum_Sum.S k (hdA p ++ nn ++ hdB p)) _))) _
  refine O.sat_chk (by omega) (O.sat_chk (by rw [app_size]; omega) ?_)
  refine O.sat_eq (Sum_S k _ (by rw [app_size, app_size]; omega) (by rw [app_size, app_size]; omega)) ?_
  show O.sat (O.cond (!decide (IntKind.i64.wrap (hdS p) ≥ 0)) _ (O.bind (F_words_Put.S k (IntKind.u64.wrap (IntKind.i64.wrap (hdS p))) (2 : Int) true) _)) _
  rw [i64_in (hdS p) (by omega)]
  refine sat_put k (by omega) (hdS p) 2 (by omega) (by omega) (fun h => (h ⟨by omega, by rw [show (256 : Int) ^ 2 = 65536 from rfl]; omega⟩).elim) fun _ _ => ?_
  show O.sat (O.chk (decide ((((hdA p).size + (putT (hdS p) 2).size : Nat) : Int) ≤ 9223372036854775807)) (O.chk (decide ((((hdA p ++ putT (hdS p) 2).size + (hdB p).size : Nat) : Int) ≤ 9223372036854775807)) (O.chk (decide ((((hdA p ++ putT (hdS p) 2 ++ hdB p).size + (ipBod p).size : Nat) : Int) ≤ 9223372036854775807)) (.ok (.inr (bytes4 p) : Int ⊕ ByteArray))))) _
  refine O.sat_chk (by rw [putT_size]; omega) (O.sat_chk (by rw [app_size, putT_size]; omega) (O.sat_chk (by rw [app_size, app_size, putT_size]; omega) (O.sat_ok (by rw [if_pos yes]))))
theorem build6_S (k : Nat) (hk : 200 ≤ k) (p : IpT) (w : fitIp p) : F_ip_build6.S k p = .ok (if ok6 p then .inr (bytes6 p) else .inl 71) := by
  obtain ⟨w1, w2, w3, w4, w5, w6⟩ := w
  have eo : p.2.2.2.2.2.2.2.2.2.2.1.size = (ipOpts p).size := rfl
  have eb : p.2.2.2.2.2.2.2.2.2.2.2.size = (ipBod p).size := rfl
  have he := empty_iff (ipOpts p)
  have no : ¬ ok6 p → O.sat (.ok (.inl 71) : O (Int ⊕ ByteArray)) fun r => r = if ok6 p then .inr (bytes6 p) else .inl 71 := fun h => O.sat_ok (by rw [if_neg h])
  apply O.sat_val
  unfold F_ip_build6.S
  refine O.sat_cond (fun a1 => ?_) fun a => no (fun c => by unfold ok6 at c; omega)
  refine O.sat_cond (fun a2 => ?_) fun a => no (fun c => by unfold ok6 at c; omega)
  refine O.sat_cond (fun a3 => ?_) fun a => no (fun c => by unfold ok6 at c; omega)
  refine O.sat_cond (fun a4 => ?_) fun a => no (fun c => by unfold ok6 at c; omega)
  refine O.sat_cond (fun a5 => ?_) fun a => no (fun c => by unfold ok6 at c; omega)
  refine O.sat_cond (fun a6 => ?_) fun a => no (fun c => a (he.2 c.2.2.2.2.2.1))
  refine O.sat_cond (fun a7 => ?_) fun a => no (fun c => by unfold ok6 at c; omega)
  refine O.sat_cond (fun a8 => ?_) fun a => no (fun c => by unfold ok6 at c; omega)
  refine O.sat_cond (fun a9 => ?_) fun a => no (fun c => by unfold ok6 at c; omega)
  refine O.sat_condn (fun a => no (fun c => by unfold ok6 at c; omega)) fun a10 => ?_
  rw [join6 _ _ (by omega) (by omega)]
  refine sat_put k (by omega) _ 4 (by omega) (by omega) (fun h => (h ⟨by omega, by rw [show (256 : Int) ^ 4 = 4294967296 from rfl]; omega⟩).elim) fun _ _ => ?_
  refine sat_put k (by omega) _ 2 (by omega) (by omega) (fun h => no (fun c => h ⟨by omega, by rw [show (256 : Int) ^ 2 = 65536 from rfl]; unfold ok6 at c; omega⟩)) fun b1 b2 => ?_
  rw [show (256 : Int) ^ 2 = 65536 from rfl] at b2
  refine O.sat_chk (by simp only [putT_size]; omega) ?_
  refine sat_put k (by omega) _ 1 (by omega) w1 (fun h => no (fun c => h (by unfold ok6 at c; exact c.2.2.2.2.2.2.2.2.2.2.2.1))) fun c1 c2 => ?_
  refine O.sat_chk (by simp only [app_size, putT_size]; omega) ?_
  refine sat_put k (by omega) _ 1 (by omega) w2 (fun h => no (fun c => h (by unfold ok6 at c; exact c.2.2.2.2.2.2.2.2.2.2.2.2))) fun d1 d2 => ?_
  have yes : ok6 p := ⟨by omega, by omega, a3, a4, a5, he.1 a6, by omega, by omega, a9, a10, by omega, ⟨c1, c2⟩, ⟨d1, d2⟩⟩
  refine O.sat_chk (by simp only [app_size, putT_size]; omega) (O.sat_chk (by simp only [app_size, putT_size]; omega) (O.sat_chk (by simp only [app_size, putT_size]; omega) (O.sat_chk (by simp only [app_size, putT_size]; omega) (O.sat_ok (by rw [if_pos yes]; rfl)))))
theorem ipBuild_S (k : Nat) (hk : 200 ≤ k) (p : IpT) (w : fitIp p) : F_ip_Build.S k p = .ok (ipB p) := by
  unfold F_ip_Build.S ipB
  rw [build4_S k hk p w, build6_S k hk p w, O.cond_dec]
  by_cases h : p.1 = 4
  · rw [if_pos h, if_pos h, O.cond_pos h]
    by_cases o : ok4 p
    · rw [if_pos o, if_pos o, O.sum_inr]
    · rw [if_neg o, if_neg o, O.sum_inl]
  · rw [if_neg h, if_neg h]
    by_cases h6 : p.1 = 6
    · rw [if_pos h6, decide_eq_true h6, Bool.not_true, O.cond_false, O.cond_neg h]
      by_cases o : ok6 p
      · rw [if_pos o, if_pos o, O.sum_inr]
      · rw [if_neg o, if_neg o, O.sum_inl]
    · rw [if_neg h6, decide_eq_false h6, Bool.not_false, O.cond_true]
/-- A packet that is built is parsed as it was. -/
theorem ipP_4 (p : IpT) (hv : p.1 = 4) (h : ok4 p) : ipP (bytes4 p) = (p, 0) ∧ (bytes4 p).size = 20 + (ipOpts p).size + (ipBod p).size := by
  have sA := hdA_size p
  have lS := hdS_lo p
  obtain ⟨h1, h2, h3, h4, h5, h6, h7, h8, h9, h10, h11, h12, h13, h14⟩ := h
  have sB : (hdB p).size = 8 + (ipOpts p).size := by unfold hdB; rw [app_size, app_size]; omega
  have sM : (hdA p ++ putT (hdS p) 2).size = 12 := by rw [app_size, putT_size, sA]
  have sH : (hdA p ++ putT (hdS p) 2 ++ hdB p).size = 20 + (ipOpts p).size := by rw [app_size, sM, sB]; omega
  have sz : (bytes4 p).size = 20 + (ipOpts p).size + (ipBod p).size := by unfold bytes4; rw [app_size, sH]
  refine ⟨?_, sz⟩
  have p256 : (256 : Int) ^ 2 = 65536 := rfl
  have p1 : (256 : Int) ^ 1 = 256 := rfl
  have rd : ∀ i n : Nat, i + n ≤ 10 → be (bytes4 p) i n = be (hdA p) i n := by
    intro i n hi
    unfold bytes4
    rw [be_app _ _ _ _ (by rw [sH]; omega), be_app _ _ _ _ (by rw [sM]; omega), be_app _ _ _ _ (by rw [sA]; omega)]
  have sz' := sz
  have r0 : bt (bytes4 p) ((0 : Nat) : Int) = 64 + (20 + (ipOpts p).size) / 4 := by
    rw [← be1, rd 0 1 (by omega)]; unfold hdA
    rw [be_app _ _ _ _ (by simp only [app_size, putT_size]; omega), be_app _ _ _ _ (by simp only [app_size, putT_size]; omega), be_app _ _ _ _ (by simp only [app_size, putT_size]; omega), be_app _ _ _ _ (by simp only [app_size, putT_size]; omega), be_app _ _ _ _ (by simp only [app_size, putT_size]; omega), be_app _ _ _ _ (by simp only [putT_size]; omega)]
    exact be_put 1 _ (by omega) (by rw [p1]; omega)
  have r1 : bt (bytes4 p) ((1 : Nat) : Int) = p.2.2.2.2.2.1 := by
    rw [← be1, rd 1 1 (by omega)]; unfold hdA
    rw [be_app _ _ _ _ (by simp only [app_size, putT_size]; omega), be_app _ _ _ _ (by simp only [app_size, putT_size]; omega), be_app _ _ _ _ (by simp only [app_size, putT_size]; omega), be_app _ _ _ _ (by simp only [app_size, putT_size]; omega), be_app _ _ _ _ (by simp only [app_size, putT_size]; omega)]
    exact be_at _ _ 1 1 (putT_size _ _) h11
  have r2 : be (bytes4 p) 2 2 = 20 + (ipOpts p).size + (ipBod p).size := by
    rw [rd 2 2 (by omega)]; unfold hdA
    rw [be_app _ _ _ _ (by simp only [app_size, putT_size]; omega), be_app _ _ _ _ (by simp only [app_size, putT_size]; omega), be_app _ _ _ _ (by simp only [app_size, putT_size]; omega), be_app _ _ _ _ (by simp only [app_size, putT_size]; omega)]
    exact be_at _ _ 2 2 (by simp only [app_size, putT_size]) ⟨by omega, by rw [p256]; omega⟩
  have r4 : be (bytes4 p) 4 2 = p.2.2.2.2.2.2.1 := by
    rw [rd 4 2 (by omega)]; unfold hdA
    rw [be_app _ _ _ _ (by simp only [app_size, putT_size]; omega), be_app _ _ _ _ (by simp only [app_size, putT_size]; omega), be_app _ _ _ _ (by simp only [app_size, putT_size]; omega)]
    exact be_at _ _ 2 4 (by simp only [app_size, putT_size]) h12
  have r6 : be (bytes4 p) 6 2 = p.2.2.2.2.2.2.2.1 * 8192 + p.2.2.2.2.2.2.2.2.1 := by
    rw [rd 6 2 (by omega)]; unfold hdA
    rw [be_app _ _ _ _ (by simp only [app_size, putT_size]; omega), be_app _ _ _ _ (by simp only [app_size, putT_size]; omega)]
    exact be_at _ _ 2 6 (by simp only [app_size, putT_size]) ⟨by omega, by rw [p256]; omega⟩
  have r8 : bt (bytes4 p) ((8 : Nat) : Int) = p.2.2.2.2.1 := by
    rw [← be1, rd 8 1 (by omega)]; unfold hdA
    rw [be_app _ _ _ _ (by simp only [app_size, putT_size]; omega)]
    exact be_at _ _ 1 8 (by simp only [app_size, putT_size]) h13
  have r9 : bt (bytes4 p) ((9 : Nat) : Int) = p.2.2.2.1 := by
    rw [← be1, rd 9 1 (by omega)]; unfold hdA
    exact be_at _ _ 1 9 (by simp only [app_size, putT_size]) h14
  have r10 : be (bytes4 p) 10 2 = hdS p := by
    unfold bytes4
    rw [be_app _ _ _ _ (by rw [sH]; omega), be_app _ _ _ _ (by rw [sM]; omega)]
    exact be_at _ _ 2 10 sA ⟨lS.1, by rw [p256]; omega⟩
  have i0 : ihl (bytes4 p) = 20 + (ipOpts p).size := by unfold ihl; rw [show (0 : Int) = ((0 : Nat) : Int) from rfl, r0]; omega
  have eA : (bytes4 p).extract 0 10 = hdA p := by
    unfold bytes4
    rw [ext_app1 _ _ _ _ (by rw [sH]; omega), ext_app1 _ _ _ _ (by rw [sM]; omega), ← sA, ext_left]
  have eB : ∀ i j : Nat, j ≤ 8 + (ipOpts p).size → (bytes4 p).extract (12 + i) (12 + j) = (hdB p).extract i j := by
    intro i j hj
    unfold bytes4
    rw [ext_app1 _ _ _ _ (by rw [sH]; omega), ext_app2' _ _ i j _ _ (by rw [sM]) (by rw [sM])]
  have eB0 : (bytes4 p).extract 12 (20 + (ipOpts p).size) = hdB p := by
    rw [show 20 + (ipOpts p).size = 12 + (8 + (ipOpts p).size) by omega]
    have := eB 0 (8 + (ipOpts p).size) (Nat.le_refl _)
    rw [← sB, ext_all, sB] at this
    exact this
  have e1 : (bytes4 p).extract 12 16 = p.2.1 := by
    have := eB 0 4 (by omega)
    refine Eq.trans this ?_
    unfold hdB
    rw [ext_app1 _ _ _ _ (by rw [app_size]; omega), ← h1, ext_left]
  have e2 : (bytes4 p).extract 16 20 = p.2.2.1 := by
    have := eB 4 8 (by omega)
    refine Eq.trans this ?_
    unfold hdB
    rw [ext_app1 _ _ _ _ (by rw [app_size]; omega), ext_app2' _ _ 0 4 4 8 (by omega) (by omega), ← h2, ext_all]
  have e3 : (bytes4 p).extract 20 (20 + (ipOpts p).size) = ipOpts p := by
    have := eB 8 (8 + (ipOpts p).size) (by omega)
    rw [show 12 + (8 + (ipOpts p).size) = 20 + (ipOpts p).size by omega] at this
    refine Eq.trans this ?_
    unfold hdB
    rw [ext_app2' _ _ 0 (ipOpts p).size 8 _ (by rw [app_size]; omega) (by rw [app_size]; omega), ext_all]
  have e4 : (bytes4 p).extract (20 + (ipOpts p).size) (20 + (ipOpts p).size + (ipBod p).size) = ipBod p := by
    unfold bytes4
    rw [ext_app2' _ _ 0 (ipBod p).size _ _ (by rw [sH]; omega) (by rw [sH]), ext_all]
  have es : ipsum (bytes4 p) = hdS p := by unfold ipsum hdS; rw [i0, eA, eB0]
  have f4 : fourP (bytes4 p) = .inr p := by
    unfold fourP
    rw [i0, if_neg (by omega), if_neg (by omega), if_neg (by omega), r6, if_neg (by omega), r2, if_neg (by omega), es, r10, if_neg (by simp), sz, e1, e2, e3, e4, r4]
    rw [show (9 : Int) = ((9 : Nat) : Int) from rfl, r9, show (8 : Int) = ((8 : Nat) : Int) from rfl, r8, show (1 : Int) = ((1 : Nat) : Int) from rfl, r1]
    rw [show (p.2.2.2.2.2.2.2.1 * 8192 + p.2.2.2.2.2.2.2.2.1) / 8192 = p.2.2.2.2.2.2.2.1 by omega, show (p.2.2.2.2.2.2.2.1 * 8192 + p.2.2.2.2.2.2.2.2.1) % 8192 = p.2.2.2.2.2.2.2.2.1 by omega, ← hv]
    rw [show (0 : Int) = p.2.2.2.2.2.2.2.2.2.1 from h3.symm]
    rfl
  unfold ipP
  rw [if_neg (by omega), show (0 : Int) = ((0 : Nat) : Int) from rfl, r0, if_pos (by omega), f4]
  rfl
theorem ipP_6 (p : IpT) (hv : p.1 = 6) (h : ok6 p) : ipP (bytes6 p) = (p, 0) ∧ (bytes6 p).size = 40 + (ipBod p).size := by
  obtain ⟨h1, h2, h3, h4, h5, h6, h7, h8, h9, h10, h11, h12, h13⟩ := h
  have sz : (bytes6 p).size = 40 + (ipBod p).size := by unfold bytes6; simp only [app_size, putT_size]; omega
  refine ⟨?_, sz⟩
  have p4 : (256 : Int) ^ 4 = 4294967296 := rfl
  have p256 : (256 : Int) ^ 2 = 65536 := rfl
  have r0 : be (bytes6 p) 0 4 = 1610612736 + p.2.2.2.2.2.1 * 1048576 + p.2.2.2.2.2.2.2.2.2.1 := by
    unfold bytes6
    rw [be_app _ _ _ _ (by simp only [app_size, putT_size]; omega), be_app _ _ _ _ (by simp only [app_size, putT_size]; omega), be_app _ _ _ _ (by simp only [app_size, putT_size]; omega), be_app _ _ _ _ (by simp only [app_size, putT_size]; omega), be_app _ _ _ _ (by simp only [app_size, putT_size]; omega), be_app _ _ _ _ (by simp only [putT_size]; omega)]
    exact be_put 4 _ (by omega) (by rw [p4]; omega)
  have r4 : be (bytes6 p) 4 2 = (ipBod p).size := by
    unfold bytes6
    rw [be_app _ _ _ _ (by simp only [app_size, putT_size]; omega), be_app _ _ _ _ (by simp only [app_size, putT_size]; omega), be_app _ _ _ _ (by simp only [app_size, putT_size]; omega), be_app _ _ _ _ (by simp only [app_size, putT_size]; omega), be_app _ _ _ _ (by simp only [app_size, putT_size]; omega)]
    exact be_at _ _ 2 4 (putT_size _ _) ⟨by omega, by rw [p256]; omega⟩
  have r6 : bt (bytes6 p) ((6 : Nat) : Int) = p.2.2.2.1 := by
    rw [← be1]; unfold bytes6
    rw [be_app _ _ _ _ (by simp only [app_size, putT_size]; omega), be_app _ _ _ _ (by simp only [app_size, putT_size]; omega), be_app _ _ _ _ (by simp only [app_size, putT_size]; omega), be_app _ _ _ _ (by simp only [app_size, putT_size]; omega)]
    exact be_at _ _ 1 6 (by simp only [app_size, putT_size]) h12
  have r7 : bt (bytes6 p) ((7 : Nat) : Int) = p.2.2.2.2.1 := by
    rw [← be1]; unfold bytes6
    rw [be_app _ _ _ _ (by simp only [app_size, putT_size]; omega), be_app _ _ _ _ (by simp only [app_size, putT_size]; omega), be_app _ _ _ _ (by simp only [app_size, putT_size]; omega)]
    exact be_at _ _ 1 7 (by simp only [app_size, putT_size]) h13
  have b0 : bt (bytes6 p) ((0 : Nat) : Int) / 16 = 6 := by
    have hb : be (bytes6 p) 0 4 = ((bt (bytes6 p) ((0 : Nat) : Int) * 256 + bt (bytes6 p) ((1 : Nat) : Int)) * 256 + bt (bytes6 p) ((2 : Nat) : Int)) * 256 + bt (bytes6 p) ((3 : Nat) : Int) := by simp [be]
    have l0 := bt_lo (bytes6 p) ((0 : Nat) : Int); have l1 := bt_lo (bytes6 p) ((1 : Nat) : Int); have l2 := bt_lo (bytes6 p) ((2 : Nat) : Int); have l3 := bt_lo (bytes6 p) ((3 : Nat) : Int)
    have g0 := bt_hi (bytes6 p) ((0 : Nat) : Int); have g1 := bt_hi (bytes6 p) ((1 : Nat) : Int); have g2 := bt_hi (bytes6 p) ((2 : Nat) : Int); have g3 := bt_hi (bytes6 p) ((3 : Nat) : Int)
    rw [r0] at hb
    omega
  have e1 : (bytes6 p).extract 8 24 = p.2.1 := by
    unfold bytes6
    rw [ext_app1 _ _ _ _ (by simp only [app_size, putT_size]; omega), ext_app1 _ _ _ _ (by simp only [app_size, putT_size]; omega), ext_app2' _ _ 0 16 8 24 (by simp only [app_size, putT_size]) (by simp only [app_size, putT_size]), ← h1, ext_all]
  have e2 : (bytes6 p).extract 24 40 = p.2.2.1 := by
    unfold bytes6
    rw [ext_app1 _ _ _ _ (by simp only [app_size, putT_size]; omega), ext_app2' _ _ 0 16 24 40 (by simp only [app_size, putT_size]; omega) (by simp only [app_size, putT_size]; omega), ← h2, ext_all]
  have e3 : (bytes6 p).extract 40 (bytes6 p).size = ipBod p := by
    rw [sz]; unfold bytes6
    rw [ext_app2' _ _ 0 (ipBod p).size 40 _ (by simp only [app_size, putT_size]; omega) (by simp only [app_size, putT_size]; omega), ext_all]
  have he := (empty_iff (ipOpts p)).2 h6
  have f6 : sixP (bytes6 p) = .inr p := by
    unfold sixP
    rw [if_neg (by omega), r4, if_neg (by omega), e1, e2, e3, r0]
    rw [show (6 : Int) = ((6 : Nat) : Int) from rfl, r6, show (7 : Int) = ((7 : Nat) : Int) from rfl, r7]
    rw [show (1610612736 + p.2.2.2.2.2.1 * 1048576 + p.2.2.2.2.2.2.2.2.2.1) / 1048576 % 256 = p.2.2.2.2.2.1 by omega, show (1610612736 + p.2.2.2.2.2.1 * 1048576 + p.2.2.2.2.2.2.2.2.2.1) % 1048576 = p.2.2.2.2.2.2.2.2.2.1 by omega, show ((6 : Nat) : Int) = p.1 from hv.symm]
    rw [show ByteArray.empty = ipOpts p from he.symm]
    obtain ⟨q1, q2, q3, q4, q5, q6, q7, q8, q9, q10, q11, q12⟩ := p
    dsimp only at h3 h4 h5
    subst h3 h4 h5
    rfl
  unfold ipP
  rw [if_neg (by omega), show (0 : Int) = ((0 : Nat) : Int) from rfl, b0, if_neg (by decide), if_pos rfl, f6]
  rfl
theorem ipP_B (p : IpT) (h : (ipB p).2 = 0) : ipP (ipB p).1 = (p, 0) ∧ (ipB p).1.size ≤ 60 + (ipBod p).size ∧ (p.1 = 4 ∨ p.1 = 6) := by
  unfold ipB at h ⊢
  by_cases v4 : p.1 = 4
  · rw [if_pos v4] at h ⊢
    by_cases o : ok4 p
    · rw [if_pos o]
      obtain ⟨a, b⟩ := ipP_4 p v4 o
      unfold ok4 at o
      exact ⟨a, by show (bytes4 p).size ≤ _; omega, .inl v4⟩
    · rw [if_neg o] at h; cases h
  · rw [if_neg v4] at h ⊢
    by_cases v6 : p.1 = 6
    · rw [if_pos v6] at h ⊢
      by_cases o : ok6 p
      · rw [if_pos o]
        obtain ⟨a, b⟩ := ipP_6 p v6 o
        exact ⟨a, by show (bytes6 p).size ≤ _; omega, .inr v6⟩
      · rw [if_neg o] at h; cases h
    · rw [if_neg v6] at h; cases h
end Go.Proofs.Ytojomdlccjlioaa
