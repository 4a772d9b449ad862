/- Texts one behind the other, and their parts; what eth.Build and eth.Tag come to; what is built is parsed as it was. -/
import Derived.Test.YtojomdlccjlioaaAPE
import Derived.Test.YtojomdlccjlioaaAPP
namespace Go.Proofs.Ytojomdlccjlioaa
open Go.Aq Go.IntWalk
set_option linter.unusedVariables false
theorem ext_app1 (a b : ByteArray) (i j : Nat) (h : j ≤ a.size) : (a ++ b).extract i j = a.extract i j := by
  apply list_eq
  rw [size_list] at h
  rw [ext_list, ext_list, app_list, List.drop_append, List.take_append, List.length_drop, show j - i - (a.data.toList.length - i) = 0 by omega, List.take_zero, List.append_nil]
theorem ext_app2 (a b : ByteArray) (i j : Nat) : (a ++ b).extract (a.size + i) (a.size + j) = b.extract i j := by
  apply list_eq
  rw [ext_list, ext_list, app_list, List.drop_append, List.take_append, List.length_drop, ← size_list]
  rw [List.drop_eq_nil_of_le (by rw [← size_list]; omega), List.take_nil, List.nil_append]
  congr 1
  · omega
  · congr 1; omega
theorem ext_app2' (a b : ByteArray) (i j m n : Nat) (hm : m = a.size + i) (hn : n = a.size + j) : (a ++ b).extract m n = b.extract i j := by rw [hm, hn]; exact ext_app2 a b i j
theorem ext_left (a b : ByteArray) : (a ++ b).extract 0 a.size = a := by rw [ext_app1 a b 0 a.size (Nat.le_refl _), ext_all]
theorem ext_right (a b : ByteArray) : (a ++ b).extract a.size (a ++ b).size = b := by
  rw [app_size, ext_app2' a b 0 b.size a.size _ (Nat.add_zero _).symm rfl, ext_all]
theorem be_put2 (n : Int) (h : 0 ≤ n ∧ n ≤ 65535) : be (putT n 2) 0 2 = n := by
  have hr := wb_range n 2
  rw [be2]
  have e : ∀ j : Nat, bt (putT n 2) (j : Int) = (wb n 2).getD j 0 := fun j => bt_strOf _ hr j
  rw [e 0, e (0 + 1)]
  show (n / 256 ^ 1 % 256) * 256 + (n / 256 ^ 0 % 256) = n
  rw [Int.pow_succ, Int.pow_zero]
  omega
abbrev EthT := ByteArray × ByteArray × Int × Int × Int × ByteArray
def ethOk (f : EthT) : Prop := f.1.size = 6 ∧ f.2.1.size = 6 ∧ -1 ≤ f.2.2.1 ∧ f.2.2.1 ≤ 4094 ∧ 0 ≤ f.2.2.2.1 ∧ f.2.2.2.1 ≤ 7 ∧ (f.2.2.1 = -1 → f.2.2.2.1 = 0) ∧ mayP f.2.2.2.2.1
instance (f : EthT) : Decidable (ethOk f) := inferInstanceAs (Decidable (_ ∧ _))
def tagT (f : EthT) : ByteArray := putT 33024 2 ++ putT (f.2.2.2.1 * 8192 + f.2.2.1) 2
def ethHd (f : EthT) : ByteArray := if f.2.2.1 = -1 then f.1 ++ f.2.1 ++ putT f.2.2.2.2.1 2 else f.1 ++ f.2.1 ++ tagT f ++ putT f.2.2.2.2.1 2
/-- What is built. -/
def ethB (f : EthT) : ByteArray × Int := if ethOk f ∧ (ethHd f).size + f.2.2.2.2.2.size ≤ 1518 then (ethHd f ++ f.2.2.2.2.2, 0) else (⟨#[]⟩, 61)
theorem tagT_size (f : EthT) : (tagT f).size = 4 := by unfold tagT; rw [app_size, putT_size, putT_size]
theorem ethHd_size (f : EthT) (h : ethOk f) : (ethHd f).size = if f.2.2.1 = -1 then 14 else 18 := by
  obtain ⟨h1, h2, _⟩ := h
  unfold ethHd
  split
  · rw [app_size, app_size, h1, h2, putT_size]
  · rw [app_size, app_size, app_size, h1, h2, tagT_size, putT_size]
theorem two_S (k : Nat) (hk : 9 ≤ k) (v : Int) (hv : 0 ≤ v ∧ v ≤ 65535) : F_eth_two.S k v = .ok (putT v 2) := by
  unfold F_eth_two.S
  have := Put_S k hk v 2 (by omega) (by decide) true
  rw [if_pos (by rw [show (256 : Int) ^ 2 = 65536 from rfl]; omega)] at this
  rw [u64_in v (by omega)]
  show O.bind (F_words_Put.S k v ((2 : Nat) : Int) true) _ = _
  rw [this, O.bind_ok]; rfl
theorem tag_word (p v : Int) (hp : 0 ≤ p ∧ p ≤ 7) (hv : 0 ≤ v ∧ v ≤ 4094) : bOr .i64 (shL .i64 p 13) v = p * 8192 + v := by
  have s : shL .i64 p 13 = IntKind.i64.wrap (p * 2 ^ 13) := shL_eq .i64 p 13 (by decide)
  have j := bOr_join .i64 p v 13 hp.1 hv.1 (by rw [show (2 : Int) ^ 13 = 8192 from rfl]; omega) (by rw [show (2 : Int) ^ 13 = 8192 from rfl, show (2 : Int) ^ IntKind.i64.bits = 18446744073709551616 from rfl]; omega) (by decide)
  rw [show (2 : Int) ^ 13 = 8192 from rfl] at s j
  rw [s, i64_in (p * 8192) (by omega), j, i64_in _ (by omega)]
theorem ethBuild_S (k : Nat) (hk : 9 ≤ k) (f : EthT) : F_eth_Build.S k f = .ok (ethB f) := by
  apply O.sat_val
  unfold F_eth_Build.S F_eth_Build.top
  have bad : ¬ ethOk f → O.sat (.ok ((⟨#[]⟩ : ByteArray), (61 : Int))) fun r => r = ethB f := fun h => O.sat_ok (by unfold ethB; rw [if_neg (fun c => h c.1)])
  refine O.sat_cond (fun h => bad (fun c => by unfold ethOk at c; omega)) fun h1 => ?_
  refine O.sat_cond (fun h => bad (fun c => by unfold ethOk at c; omega)) fun h2 => ?_
  refine O.sat_cond (fun h => bad (fun c => by unfold ethOk at c; omega)) fun h3 => ?_
  refine O.sat_cond (fun h => bad (fun c => by unfold ethOk at c; omega)) fun h4 => ?_
  refine O.sat_cond (fun h => bad (fun c => by unfold ethOk at c; omega)) fun h5 => ?_
  refine O.sat_cond (fun h => bad (fun c => by unfold ethOk at c; omega)) fun h6 => ?_
  have tail : ethOk f → O.sat (F_eth_Build.j2 k f) fun r => r = ethB f := by
    intro ok
    have sz := ethHd_size f ok
    have my' := ok.2.2.2.2.2.2.2
    unfold mayP at my'
    have ee : ethB f = if (ethHd f).size + f.2.2.2.2.2.size ≤ 1518 then (ethHd f ++ f.2.2.2.2.2, 0) else (⟨#[]⟩, 61) := by
      unfold ethB
      by_cases c : (ethHd f).size + f.2.2.2.2.2.size ≤ 1518
      · rw [if_pos c, if_pos ⟨ok, c⟩]
      · rw [if_neg c, if_neg (fun d => c d.2)]
    unfold F_eth_Build.j2 F_eth_Build.j2_b
    refine O.sat_chk (by omega) ?_
    refine O.sat_cond (fun h7 => ?_) fun h7 => ?_
    · have eh : ethHd f = f.1 ++ f.2.1 ++ tagT f ++ putT f.2.2.2.2.1 2 := by unfold ethHd; rw [if_neg h7]
      rw [if_neg h7] at sz
      refine O.sat_eq (two_S k hk 33024 (by decide)) ?_
      rw [tag_word _ _ (by omega) (by omega)]
      refine O.sat_eq (two_S k hk _ (by omega)) ?_
      refine O.sat_chk (by rw [putT_size, putT_size]; omega) ?_
      refine O.sat_chk (by rw [app_size, app_size, putT_size, putT_size]; omega) ?_
      refine O.sat_eq (two_S k hk _ (by omega)) ?_
      show O.sat (O.chk (decide ((((f.1 ++ f.2.1 ++ tagT f).size + (putT f.2.2.2.2.1 2).size : Nat) : Int) ≤ 9223372036854775807)) (O.cond (decide ((f.2.2.2.2.2.size : Int) > IntKind.i64.wrap (1518 - ((f.1 ++ f.2.1 ++ tagT f ++ putT f.2.2.2.2.1 2).size : Int)))) _ (O.chk (decide ((((f.1 ++ f.2.1 ++ tagT f ++ putT f.2.2.2.2.1 2).size + f.2.2.2.2.2.size : Nat) : Int) ≤ 9223372036854775807)) (.ok (f.1 ++ f.2.1 ++ tagT f ++ putT f.2.2.2.2.1 2 ++ f.2.2.2.2.2, 0))))) _
      rw [← eh, ee]
      refine O.sat_chk (by rw [← app_size, ← eh]; omega) ?_
      rw [i64_in (1518 - _) (by omega)]
      refine O.sat_cond (fun h => O.sat_ok (by rw [if_neg (by omega)])) fun h => O.sat_chk (by omega) (O.sat_ok (by rw [if_pos (by omega)]))
    · have h7 := Decidable.not_not.1 h7
      have eh : ethHd f = f.1 ++ f.2.1 ++ putT f.2.2.2.2.1 2 := by unfold ethHd; rw [if_pos h7]
      rw [if_pos h7] at sz
      refine O.sat_eq (two_S k hk _ (by omega)) ?_
      rw [← eh, ee]
      refine O.sat_chk (by rw [← app_size, ← eh]; omega) ?_
      rw [i64_in (1518 - _) (by omega)]
      refine O.sat_cond (fun h => O.sat_ok (by rw [if_neg (by omega)])) fun h => O.sat_chk (by omega) (O.sat_ok (by rw [if_pos (by omega)]))
  refine O.sat_cond (fun h7 => ?_) fun h7 => ?_
  · refine O.sat_cond (fun h => bad (fun c => by unfold ethOk at c; omega)) fun h8 => ?_
    refine O.sat_eq (may_S k _) ?_
    refine O.sat_condn (fun h => bad (fun c => by unfold ethOk at c; exact h c.2.2.2.2.2.2.2)) fun h9 => tail ?_
    exact ⟨by omega, by omega, by omega, by omega, by omega, by omega, by omega, h9⟩
  · refine O.sat_eq (may_S k _) ?_
    refine O.sat_condn (fun h => bad (fun c => by unfold ethOk at c; exact h c.2.2.2.2.2.2.2)) fun h9 => tail ?_
    exact ⟨by omega, by omega, by omega, by omega, by omega, by omega, by omega, h9⟩
/-- What has another tag. -/
def tagP (s : ByteArray) (v : Int) : ByteArray × Int :=
  if (ethP s).2 ≠ 0 then (⟨#[]⟩, (ethP s).2) else ethB ((ethP s).1.1, (ethP s).1.2.1, v, if v = -1 then 0 else (ethP s).1.2.2.2.1, (ethP s).1.2.2.2.2.1, (ethP s).1.2.2.2.2.2)
theorem ethTag_S (k : Nat) (hk : 9 ≤ k) (s : ByteArray) (v : Int) : F_eth_Tag.S k s v = .ok (tagP s v) := by
  unfold F_eth_Tag.S tagP
  rw [ethParse_S k hk s, O.bind_ok, O.cond_dec, O.cond_dec]
  by_cases h : (ethP s).2 ≠ 0
  · rw [if_pos h, if_pos h]
  · rw [if_neg h, if_neg h]
    by_cases c : v = -1
    · rw [if_pos c, if_pos c, ethBuild_S k hk, O.bind_ok]
    · rw [if_neg c, if_neg c, ethBuild_S k hk, O.bind_ok]
/-- What is built is parsed as it was. -/
theorem ethP_hd (f : EthT) (h : ethOk f) (hs : (ethHd f).size + f.2.2.2.2.2.size ≤ 1518) : ethP (ethHd f ++ f.2.2.2.2.2) = (f, 0) := by
  have sz := ethHd_size f h
  obtain ⟨h1, h2, h3, h4, h5, h6, h7, h8⟩ := h
  obtain ⟨m1, m2, m3⟩ := h8
  have asz := app_size (ethHd f) f.2.2.2.2.2
  obtain ⟨d, s, v, p, t, b⟩ := f
  dsimp only at *
  generalize hH : ethHd (d, s, v, p, t, b) = H at *
  have ext1 : ∀ i j : Nat, j ≤ 12 → (H ++ b).extract i j = (d ++ s).extract i j := by
    intro i j hj
    rw [ext_app1 H b i j (by rw [sz]; split <;> omega), ← hH]
    unfold ethHd
    have ds : (d ++ s).size = 12 := by rw [app_size]; omega
    split
    · exact ext_app1 _ _ _ _ (by show j ≤ (d ++ s).size; omega)
    · dsimp only
      rw [ext_app1 _ _ _ _ (by rw [app_size]; omega)]
      exact ext_app1 _ _ _ _ (by omega)
  have ed : (H ++ b).extract 0 6 = d := by rw [ext1 0 6 (by omega), ← h1, ext_left]
  have es : (H ++ b).extract 6 12 = s := by rw [ext1 6 12 (by omega), ext_app2' d s 0 6 6 12 (by omega) (by omega), ← h2, ext_all]
  have eb : (H ++ b).extract H.size (H ++ b).size = b := ext_right H b
  have ds : (d ++ s).size = 12 := by rw [app_size]; omega
  by_cases c : v = -1
  · rw [if_pos c] at sz
    have et : be (H ++ b) 12 2 = t := by
      rw [be_app H b 12 2 (by omega), ← hH]
      unfold ethHd; rw [if_pos c]
      have := be_app2 (d ++ s) (putT t 2) 0 2
      rw [ds] at this
      refine Eq.trans this (be_put2 t (by omega))
    rw [sz] at eb
    unfold ethP
    rw [if_neg (by omega), if_neg (by omega), et, if_neg m3, if_neg (fun c => c ⟨m1, m2, m3⟩), ed, es, eb, c, h7 c]
  · rw [if_neg c] at sz
    have hf : H = d ++ s ++ tagT (d, s, v, p, t, b) ++ putT t 2 := by rw [← hH]; unfold ethHd; rw [if_neg c]
    have tz := tagT_size (d, s, v, p, t, b)
    have e12 : be (H ++ b) 12 2 = 33024 := by
      rw [be_app H b 12 2 (by omega), hf, be_app _ _ 12 2 (by rw [app_size, ds, tz]; omega)]
      have := be_app2 (d ++ s) (tagT (d, s, v, p, t, b)) 0 2
      rw [ds] at this
      refine Eq.trans this ?_
      unfold tagT
      rw [be_app _ _ 0 2 (by rw [putT_size]; omega)]
      exact be_put2 _ (by decide)
    have e14 : be (H ++ b) 14 2 = p * 8192 + v := by
      rw [be_app H b 14 2 (by omega), hf, be_app _ _ 14 2 (by rw [app_size, ds, tz]; omega)]
      have := be_app2 (d ++ s) (tagT (d, s, v, p, t, b)) 2 2
      rw [ds] at this
      refine Eq.trans this ?_
      unfold tagT
      have := be_app2 (putT 33024 2) (putT (p * 8192 + v) 2) 0 2
      rw [putT_size] at this
      refine Eq.trans this ?_
      exact be_put2 _ (by omega)
    have e16 : be (H ++ b) 16 2 = t := by
      rw [be_app H b 16 2 (by omega), hf]
      have := be_app2 (d ++ s ++ tagT (d, s, v, p, t, b)) (putT t 2) 0 2
      rw [app_size, ds, tz] at this
      refine Eq.trans this (be_put2 t (by omega))
    rw [sz] at eb
    unfold ethP
    rw [if_neg (by omega), if_neg (by omega), e12, if_pos rfl, if_neg (by omega), e14, e16, if_neg (by
      rintro (x | x | x)
      · omega
      · omega
      · exact x ⟨m1, m2, m3⟩), ed, es, eb]
    rw [show (p * 8192 + v) % 4096 = v by omega, show (p * 8192 + v) / 8192 = p by omega]
theorem ethP_B (f : EthT) (h : (ethB f).2 = 0) : ethP (ethB f).1 = (f, 0) ∧ ethOk f := by
  unfold ethB at h ⊢
  split at h
  · rename_i c
    rw [if_pos c]
    exact ⟨ethP_hd f c.1 c.2, c.1⟩
  · cases h
end Go.Proofs.Ytojomdlccjlioaa
