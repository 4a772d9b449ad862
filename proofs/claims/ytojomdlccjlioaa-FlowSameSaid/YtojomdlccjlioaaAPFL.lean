/- What the functions of flow, and the document's, come to. -/
import Derived.Test.YtojomdlccjlioaaAPR7
namespace Go.Proofs.Ytojomdlccjlioaa
open Go.Aq Go.IntWalk
set_option linter.unusedVariables false
theorem bAnd_one' (a : Int) : bAnd .i64 a 1 = a % 2 := by
  unfold bAnd
  rw [BitVec.toNat_and, BitVec.toNat_ofInt, BitVec.toNat_ofInt]
  show IntKind.i64.wrap (((a % 18446744073709551616).toNat &&& 2 ^ 1 - 1 : Nat) : Int) = a % 2
  rw [Nat.and_two_pow_sub_one_eq_mod]
  have h : (((a % 18446744073709551616).toNat % 2 ^ 1 : Nat) : Int) = a % 2 := by omega
  rw [h, i64_in _ (by omega)]
theorem tmod2' (a : Int) : Int.tmod a 2 = 0 ↔ a % 2 = 0 := by
  rw [← Int.dvd_iff_tmod_eq_zero, Int.dvd_iff_emod_eq_zero]
def ibod (p : IpT) : ByteArray := p.2.2.2.2.2.2.2.2.2.2.2
/-- The kind with ports of a packet. -/
def portP (p : IpT) : Int :=
  if p.2.2.2.2.2.2.2.2.1 ≠ 0 ∨ p.2.2.2.2.2.2.2.1 % 2 ≠ 0 ∨ (ibod p).size < 4 then 0
  else if p.2.2.2.1 = 6 then (if p.1 = 6 then 5 else 2)
  else if p.2.2.2.1 = 17 then (if p.1 = 6 then 6 else 3)
  else 0
theorem ported_S (k : Nat) (p : IpT) : F_flow_ported.S k p = .ok (portP p) := by
  have e : (ibod p).size = p.2.2.2.2.2.2.2.2.2.2.2.size := rfl
  have z : (p.2.2.2.2.2.2.2.2.1 ≠ 0 ∨ p.2.2.2.2.2.2.2.1 % 2 ≠ 0 ∨ (ibod p).size < 4) → O.sat (.ok (0 : Int)) fun r => r = portP p := fun h => O.sat_ok (by unfold portP; rw [if_pos h])
  apply O.sat_val
  unfold F_flow_ported.S
  simp only [bAnd_one']
  refine O.sat_cond (fun c => z (.inl c)) fun c1 => ?_
  refine O.sat_cond (fun c => z (.inr (.inl c))) fun c2 => ?_
  refine O.sat_cond (fun c => z (.inr (.inr (by omega)))) fun c3 => ?_
  have g : ¬ (p.2.2.2.2.2.2.2.2.1 ≠ 0 ∨ p.2.2.2.2.2.2.2.1 % 2 ≠ 0 ∨ (ibod p).size < 4) := by omega
  have five : p.2.2.2.1 = 6 → p.1 = 6 → O.sat (.ok (5 : Int)) fun r => r = portP p := fun a b => O.sat_ok (by unfold portP; rw [if_neg g, if_pos a, if_pos b])
  have two : p.2.2.2.1 = 6 → ¬ p.1 = 6 → O.sat (.ok (2 : Int)) fun r => r = portP p := fun a b => O.sat_ok (by unfold portP; rw [if_neg g, if_pos a, if_neg b])
  have six : p.2.2.2.1 = 17 → p.1 = 6 → O.sat (.ok (6 : Int)) fun r => r = portP p := fun a b => O.sat_ok (by unfold portP; rw [if_neg g, if_neg (by omega), if_pos a, if_pos b])
  have three : p.2.2.2.1 = 17 → ¬ p.1 = 6 → O.sat (.ok (3 : Int)) fun r => r = portP p := fun a b => O.sat_ok (by unfold portP; rw [if_neg g, if_neg (by omega), if_pos a, if_neg b])
  have none : ¬ p.2.2.2.1 = 6 → ¬ p.2.2.2.1 = 17 → O.sat (.ok (0 : Int)) fun r => r = portP p := fun a b => O.sat_ok (by unfold portP; rw [if_neg g, if_neg a, if_neg b])
  clear z
  repeat' (first | refine O.sat_cond (fun c => ?_) (fun c => ?_) | exact five ‹_› ‹_› | exact two ‹_› ‹_› | exact six ‹_› ‹_› | exact three ‹_› ‹_› | exact none ‹_› ‹_› | contradiction)
theorem version_S (k : Nat) (n : Int) : F_flow_version.S k n = .ok (if n = 2048 then 4 else if n = 34525 then 6 else 0) := by
  unfold F_flow_version.S
  simp only [O.cond_dec]
  repeat' split
  all_goals rfl
abbrev no0 : Int × ByteArray := (0, ByteArray.empty)
/-- A packet's flow. -/
def flowQ (p : IpT) : Int × ByteArray := if portP p ≠ 0 then (portP p, p.2.1 ++ p.2.2.1 ++ (ibod p).extract 0 4) else (if p.1 = 4 then 1 else 4, p.2.1 ++ p.2.2.1)
/-- A frame's flow. -/
def flowP (s : ByteArray) : Int × ByteArray :=
  if (ethP s).2 ≠ 0 then no0
  else if ¬ ((ethP s).1.2.2.2.2.1 = 2048 ∨ (ethP s).1.2.2.2.2.1 = 34525) then no0
  else if (ipP (ethP s).1.2.2.2.2.2).2 ≠ 0 then no0
  else if ¬ ((ipP (ethP s).1.2.2.2.2.2).1.1 = 4 ∧ (ethP s).1.2.2.2.2.1 = 2048 ∨ (ipP (ethP s).1.2.2.2.2.2).1.1 = 6 ∧ (ethP s).1.2.2.2.2.1 = 34525) then no0
  else flowQ (ipP (ethP s).1.2.2.2.2.2).1
theorem ethP_small (s : ByteArray) : (ethP s).1.2.2.2.2.2.size ≤ 1518 := by
  unfold ethP
  repeat' split
  all_goals first | (show (0 : Nat) ≤ _; omega) | (show (s.extract _ s.size).size ≤ _; rw [ext_size]; omega)
/-- A packet that is right: version, addresses, what follows. -/
theorem ipP_right (s : ByteArray) (h : (ipP s).2 = 0) : ((ipP s).1.1 = 4 ∧ (ipP s).1.2.1.size = 4 ∧ (ipP s).1.2.2.1.size = 4 ∨ (ipP s).1.1 = 6 ∧ (ipP s).1.2.1.size = 16 ∧ (ipP s).1.2.2.1.size = 16) ∧ (ibod (ipP s).1).size ≤ s.size := by
  unfold ipP at h ⊢
  split at h
  · cases h
  · rename_i c1
    rw [if_neg c1]
    split at h
    · rename_i c2
      rw [if_pos c2]
      unfold fourP at h ⊢
      repeat' (split at h)
      all_goals first | (exact absurd h (by decide)) | skip
      rename_i d1 d2 d3 d4 d5 d6
      rw [if_neg d1, if_neg d2, if_neg d3, if_neg d4, if_neg d5, if_neg d6]
      refine ⟨.inl ⟨rfl, ?_, ?_⟩, ?_⟩
      · show (s.extract 12 16).size = 4; rw [ext_size]; omega
      · show (s.extract 16 20).size = 4; rw [ext_size]; omega
      · show (s.extract _ s.size).size ≤ _; rw [ext_size]; omega
    · rename_i c2
      rw [if_neg c2]
      split at h
      · rename_i c3
        rw [if_pos c3]
        unfold sixP at h ⊢
        repeat' (split at h)
        all_goals first | (exact absurd h (by decide)) | skip
        rename_i d1 d2
        rw [if_neg d1, if_neg d2]
        refine ⟨.inr ⟨rfl, ?_, ?_⟩, ?_⟩
        · show (s.extract 8 24).size = 16; rw [ext_size]; omega
        · show (s.extract 24 40).size = 16; rw [ext_size]; omega
        · show (s.extract _ s.size).size ≤ _; rw [ext_size]; omega
      · cases h
theorem flowOf_S (k : Nat) (hk : 2000 ≤ k) (s : ByteArray) : F_flow_Of.S k s = .ok (flowP s) := by
  have z := ethP_small s
  apply O.sat_val
  unfold F_flow_Of.S
  refine O.sat_eq (ethParse_S k (by omega) s) ?_
  refine O.sat_eq (version_S k _) ?_
  refine O.sat_cond (fun h => O.sat_ok (by unfold flowP; rw [if_pos h])) fun h1 => ?_
  refine O.sat_cond (fun h => O.sat_ok ?_) fun h2 => ?_
  · unfold flowP; rw [if_neg h1, if_pos (by
      rintro (c | c)
      · rw [if_pos c] at h; cases h
      · rw [c] at h; cases h)]
  have t : (ethP s).1.2.2.2.2.1 = 2048 ∨ (ethP s).1.2.2.2.2.1 = 34525 := by
    by_cases c : (ethP s).1.2.2.2.2.1 = 2048
    · exact .inl c
    · by_cases d : (ethP s).1.2.2.2.2.1 = 34525
      · exact .inr d
      · rw [if_neg c, if_neg d] at h2; exact absurd rfl h2
  refine O.sat_eq (ipParse_S k _ (by omega) (by omega)) ?_
  refine O.sat_cond (fun h => O.sat_ok (by unfold flowP; rw [if_neg h1, if_neg (fun c => c t), if_pos h])) fun h3 => ?_
  have h3' : (ipP (ethP s).1.2.2.2.2.2).2 = 0 := Decidable.not_not.1 h3
  obtain ⟨r1, r2⟩ := ipP_right _ h3'
  have fin : ∀ v : Int, v = 4 ∧ (ethP s).1.2.2.2.2.1 = 2048 ∨ v = 6 ∧ (ethP s).1.2.2.2.2.1 = 34525 → (if (ethP s).1.2.2.2.2.1 = 2048 then (4 : Int) else if (ethP s).1.2.2.2.2.1 = 34525 then 6 else 0) = v := by
    intro v hv
    rcases hv with ⟨a, b⟩ | ⟨a, b⟩
    · rw [if_pos b, a]
    · rw [b, a]; rfl
  refine O.sat_cond (fun h => O.sat_ok ?_) fun h4 => ?_
  · unfold flowP; rw [if_neg h1, if_neg (fun c => c t), if_neg h3, if_pos (fun c => h (fin _ c).symm)]
  have e4 : (ipP (ethP s).1.2.2.2.2.2).1.1 = 4 ∧ (ethP s).1.2.2.2.2.1 = 2048 ∨ (ipP (ethP s).1.2.2.2.2.2).1.1 = 6 ∧ (ethP s).1.2.2.2.2.1 = 34525 := by
    have h4 := Decidable.not_not.1 h4
    rcases t with c | c
    · rw [if_pos c] at h4; exact .inl ⟨h4, c⟩
    · rw [c] at h4; exact .inr ⟨h4, c⟩
  have e5 := fin _ e4
  have e : flowP s = flowQ (ipP (ethP s).1.2.2.2.2.2).1 := by
    unfold flowP; rw [if_neg h1, if_neg (fun c => c t), if_neg h3, if_neg (fun c => c e4)]
  rw [e, e5]
  refine O.sat_chk (by omega) (O.sat_twice ?_)
  refine O.sat_eq (ported_S k _) ?_
  refine O.sat_cond (fun h5 => ?_) fun h5 => ?_
  · have hb : 4 ≤ (ibod (ipP (ethP s).1.2.2.2.2.2).1).size := by
      unfold portP at h5
      split at h5
      · exact absurd rfl h5
      · omega
    have ebb : (ibod (ipP (ethP s).1.2.2.2.2.2).1).size = (ipP (ethP s).1.2.2.2.2.2).1.2.2.2.2.2.2.2.2.2.2.2.size := rfl
    refine O.sat_chk (by omega) (O.sat_chk (by rw [app_size, ext_size]; omega) (O.sat_ok ?_))
    unfold flowQ; rw [if_pos h5]; rfl
  · refine O.sat_cond (fun h6 => O.sat_ok ?_) fun h6 => O.sat_ok ?_
    · unfold flowQ; rw [if_neg h5, if_pos h6]
    · unfold flowQ; rw [if_neg h5, if_neg h6]
theorem rflowOf_S (k : Nat) (hk : 2000 ≤ k) (s : ByteArray) : F_aqueductref09_Of.S k s = .ok (flowP s) := by
  have z := ethP_small s
  apply O.sat_val
  unfold F_aqueductref09_Of.S F_aqueductref09_Of.top F_aqueductref09_Of.j3 F_aqueductref09_Of.j3_b F_aqueductref09_Of.j7 F_aqueductref09_Of.j7_b
  refine O.sat_eq (rethParse_S k s) ?_
  refine O.sat_cond (fun h => O.sat_ok (by unfold flowP; rw [if_pos h])) fun h1 => ?_
  have tail : (ethP s).1.2.2.2.2.1 = 2048 ∨ (ethP s).1.2.2.2.2.1 = 34525 → O.sat (O.bind (F_aqueductref07_Parse.S k (ethP s).1.2.2.2.2.2) fun r7 =>
      O.cond (decide (r7.2 ≠ 0)) (.ok no0) (O.cond (decide ((decide (r7.1.1 = 4)) ≠ (decide ((ethP s).1.2.2.2.2.1 = 2048)))) (.ok no0) (O.cond (decide (r7.1.1 = 6)) (F_aqueductref09_Of.j7_b k r7 4) (F_aqueductref09_Of.j7_b k r7 1)))) fun r => r = flowP s := by
    intro t
    refine O.sat_eq (ripParse_S k _ (by omega) (by omega)) ?_
    refine O.sat_cond (fun h => O.sat_ok (by unfold flowP; rw [if_neg h1, if_neg (fun c => c t), if_pos h])) fun h3 => ?_
    have h3' : (ipP (ethP s).1.2.2.2.2.2).2 = 0 := Decidable.not_not.1 h3
    obtain ⟨r1, r2⟩ := ipP_right _ h3'
    have ee : ((decide ((ipP (ethP s).1.2.2.2.2.2).1.1 = 4)) ≠ (decide ((ethP s).1.2.2.2.2.1 = 2048))) ↔ ¬ ((ipP (ethP s).1.2.2.2.2.2).1.1 = 4 ∧ (ethP s).1.2.2.2.2.1 = 2048 ∨ (ipP (ethP s).1.2.2.2.2.2).1.1 = 6 ∧ (ethP s).1.2.2.2.2.1 = 34525) := by
      by_cases c : (ipP (ethP s).1.2.2.2.2.2).1.1 = 4 <;> by_cases d : (ethP s).1.2.2.2.2.1 = 2048 <;> simp [c, d]
      · omega
    refine O.sat_cond (fun h => O.sat_ok ?_) fun h4 => ?_
    · unfold flowP; rw [if_neg h1, if_neg (fun c => c t), if_neg h3, if_pos (ee.1 h)]
    have e4 := Decidable.not_not.1 (fun h => h4 (ee.2 h))
    have e : flowP s = flowQ (ipP (ethP s).1.2.2.2.2.2).1 := by
      unfold flowP; rw [if_neg h1, if_neg (fun c => c t), if_neg h3, if_neg (fun c => c e4)]
    rw [e]
    have j7 : ∀ v : Int, (if (ipP (ethP s).1.2.2.2.2.2).1.1 = 4 then (1 : Int) else 4) = v → O.sat (F_aqueductref09_Of.j7_b k (ipP (ethP s).1.2.2.2.2.2) v) fun r => r = flowQ (ipP (ethP s).1.2.2.2.2.2).1 := by
      intro v hv
      have vv : v = 1 ∨ v = 4 := by rw [← hv]; split <;> simp
      have ebb : (ibod (ipP (ethP s).1.2.2.2.2.2).1).size = (ipP (ethP s).1.2.2.2.2.2).1.2.2.2.2.2.2.2.2.2.2.2.size := rfl
      have plain : portP (ipP (ethP s).1.2.2.2.2.2).1 = 0 → O.sat (O.chk (decide ((((ipP (ethP s).1.2.2.2.2.2).1.2.1.size + (ipP (ethP s).1.2.2.2.2.2).1.2.2.1.size : Nat) : Int) ≤ 9223372036854775807)) (.ok (v, (ipP (ethP s).1.2.2.2.2.2).1.2.1 ++ (ipP (ethP s).1.2.2.2.2.2).1.2.2.1))) fun r => r = flowQ (ipP (ethP s).1.2.2.2.2.2).1 := by
        intro hp
        refine O.sat_chk (by omega) (O.sat_ok ?_)
        unfold flowQ; rw [if_neg (fun h => h hp), hv]
      have ports : ∀ w : Int, portP (ipP (ethP s).1.2.2.2.2.2).1 = w → w ≠ 0 → 4 ≤ (ibod (ipP (ethP s).1.2.2.2.2.2).1).size → O.sat (O.chk (decide ((((ipP (ethP s).1.2.2.2.2.2).1.2.1.size + (ipP (ethP s).1.2.2.2.2.2).1.2.2.1.size : Nat) : Int) ≤ 9223372036854775807)) (O.chk (decide (0 ≤ (4 : Int) ∧ (4 : Int) ≤ ((ipP (ethP s).1.2.2.2.2.2).1.2.2.2.2.2.2.2.2.2.2.2.size : Int))) (O.chk (decide (((((ipP (ethP s).1.2.2.2.2.2).1.2.1 ++ (ipP (ethP s).1.2.2.2.2.2).1.2.2.1).size + ((ipP (ethP s).1.2.2.2.2.2).1.2.2.2.2.2.2.2.2.2.2.2.extract 0 4).size : Nat) : Int) ≤ 9223372036854775807))
          (.ok (w, (ipP (ethP s).1.2.2.2.2.2).1.2.1 ++ (ipP (ethP s).1.2.2.2.2.2).1.2.2.1 ++ (ipP (ethP s).1.2.2.2.2.2).1.2.2.2.2.2.2.2.2.2.2.2.extract 0 4))))) fun r => r = flowQ (ipP (ethP s).1.2.2.2.2.2).1 := by
        intro w hw h0 hb
        refine O.sat_chk (by omega) (O.sat_chk (by omega) (O.sat_chk (by rw [app_size, ext_size]; omega) (O.sat_ok ?_)))
        unfold flowQ; rw [if_pos (by rw [hw]; exact h0), hw]; rfl
      have e1 : IntKind.i64.wrap (v + 1) = v + 1 := i64_in _ (by omega)
      have e2 : IntKind.i64.wrap (v + 1 + 1) = v + 2 := by rw [i64_in _ (by omega)]; omega
      unfold F_aqueductref09_Of.j7_b
      simp only [tmod2', e1, e2]
      refine O.sat_cond (fun p6 => ?_) fun p6 => O.sat_cond (fun p17 => ?_) fun p17 => plain (by unfold portP; rw [if_neg p6, if_neg p17]; split <;> rfl)
      · refine O.sat_cond (fun a1 => ?_) fun a1 => plain (by unfold portP; rw [if_pos (.inl a1)])
        refine O.sat_cond (fun a2 => ?_) fun a2 => plain (by unfold portP; rw [if_pos (.inr (.inl a2))])
        refine O.sat_cond (fun a3 => ?_) fun a3 => plain (by unfold portP; rw [if_pos (.inr (.inr (by omega)))])
        refine O.sat_cond (fun c => by omega) fun c => ports _ ?_ (by omega) (by omega)
        unfold portP; rw [if_neg (by omega), if_pos p6]
        rw [← hv]
        rcases r1 with r | r
        · rw [r.1]; rfl
        · rw [r.1]; rfl
      · refine O.sat_cond (fun a1 => ?_) fun a1 => plain (by unfold portP; rw [if_pos (.inl a1)])
        refine O.sat_cond (fun a2 => ?_) fun a2 => plain (by unfold portP; rw [if_pos (.inr (.inl a2))])
        refine O.sat_cond (fun a3 => ?_) fun a3 => plain (by unfold portP; rw [if_pos (.inr (.inr (by omega)))])
        refine O.sat_cond (fun c => ports _ ?_ (by omega) (by omega)) fun c => (c p17).elim
        unfold portP; rw [if_neg (by omega), if_neg p6, if_pos p17]
        rw [← hv]
        rcases r1 with r | r
        · rw [r.1]; rfl
        · rw [r.1]; rfl
    refine O.sat_cond (fun h6 => j7 4 ?_) fun h6 => j7 1 ?_
    · rw [h6]; rfl
    · rw [if_pos (by omega)]
  refine O.sat_cond (fun h2 => O.sat_cond (fun h3 => O.sat_ok ?_) fun h3 => tail (.inr (Decidable.not_not.1 h3))) fun h2 => tail (.inl (Decidable.not_not.1 h2))
  unfold flowP; rw [if_neg h1, if_pos (by rintro (c | c); exact h2 c; exact h3 c)]
/-- A flow with addresses alone. -/
def lessP (f : Int × ByteArray) : Int × ByteArray :=
  if f.1 = 2 ∨ f.1 = 3 then (1, f.2.extract 0 (min f.2.size 8)) else if f.1 = 5 ∨ f.1 = 6 then (4, f.2.extract 0 (min f.2.size 32)) else f
theorem less_S (k : Nat) (f : Int × ByteArray) : F_flow_Less.S k f = .ok (lessP f) := by
  have e8 : (min (f.2.size : Int) 8).toNat = min f.2.size 8 := by omega
  have e32 : (min (f.2.size : Int) 32).toNat = min f.2.size 32 := by omega
  have c8 : 0 ≤ min (f.2.size : Int) 8 ∧ min (f.2.size : Int) 8 ≤ (f.2.size : Int) := by omega
  have c32 : 0 ≤ min (f.2.size : Int) 32 ∧ min (f.2.size : Int) 32 ≤ (f.2.size : Int) := by omega
  unfold F_flow_Less.S lessP
  simp only [O.chk_dec c8, O.chk_dec c32, O.cond_dec, e8, e32]
  repeat' split
  all_goals first | rfl | omega
theorem rless_S (k : Nat) (f : Int × ByteArray) : F_aqueductref09_Less.S k f = .ok (lessP f) := by
  have e8 : (min (f.2.size : Int) 8).toNat = min f.2.size 8 := by omega
  have e32 : (min (f.2.size : Int) 32).toNat = min f.2.size 32 := by omega
  have c8 : 0 ≤ min (f.2.size : Int) 8 ∧ min (f.2.size : Int) 8 ≤ (f.2.size : Int) := by omega
  have c32 : 0 ≤ min (f.2.size : Int) 32 ∧ min (f.2.size : Int) 32 ≤ (f.2.size : Int) := by omega
  unfold F_aqueductref09_Less.S lessP
  simp only [O.chk_dec c8, O.chk_dec c32, O.cond_dec, e8, e32]
  repeat' split
  all_goals first | rfl | omega
end Go.Proofs.Ytojomdlccjlioaa
