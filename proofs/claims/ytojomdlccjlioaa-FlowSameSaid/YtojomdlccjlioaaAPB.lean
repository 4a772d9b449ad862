/- What segment.Build and Partial come to. -/
import Derived.Test.YtojomdlccjlioaaAPS
namespace Go.Proofs.Ytojomdlccjlioaa
open Go.Aq Go.IntWalk
set_option linter.unusedVariables false
theorem pow_le8 (n : Nat) (hn : n ≤ 7) : (256 : Int) ^ n ≤ 2 ^ 56 := pow56 n hn
/-- A number's bytes, or a panic. -/
theorem sat_put {β : Type} {P : β → Prop} {x : O β} {f : ByteArray × Int → O β} (k : Nat) (hk : 9 ≤ k) (v : Int) (n : Nat) (hn : 1 ≤ n ∧ n ≤ 7) (hv : v < 2 ^ 63)
    (bad : ¬ (0 ≤ v ∧ v < 256 ^ n) → O.sat x P) (good : 0 ≤ v → v < 256 ^ n → O.sat (f (putT v n, 0)) P) :
    O.sat (O.cond (!(decide (v ≥ 0))) x (O.bind (F_words_Put.S k (IntKind.u64.wrap v) (n : Int) true) fun r => O.cond (!(decide (r.2 = 0))) x (f r))) P := by
  refine O.sat_condn (fun h => bad (fun c => h c.1)) fun h0 => ?_
  have hp := pow_le8 n hn.2
  rw [u64_in v (by omega)]
  refine O.sat_eq (Put_S k hk v n (by omega) ⟨hn.1, by omega⟩ true) ?_
  by_cases hl : v < 256 ^ n
  · rw [if_pos hl]
    refine O.sat_condn (fun h => (h rfl).elim) fun _ => ?_
    exact good h0 hl
  · rw [if_neg hl]
    exact O.sat_condn (fun h => bad (fun c => hl c.2)) fun h => (by simp at h)
def inU (n : Nat) (v : Int) : Prop := 0 ≤ v ∧ v < 256 ^ n
instance (n : Nat) (v : Int) : Decidable (inU n v) := inferInstanceAs (Decidable (_ ∧ _))
def opts (g : SegT) : ByteArray := g.2.2.2.2.2.2.2.1
def sbod (g : SegT) : ByteArray := g.2.2.2.2.2.2.2.2.1
/-- May a segment be? -/
def segOk (p : IpT) (g : SegT) : Prop := carP p ∧ inU 2 g.1 ∧ inU 2 g.2.1 ∧
  if p.2.2.2.1 = 17 then g.2.2.1 = 0 ∧ g.2.2.2.1 = 0 ∧ g.2.2.2.2.1 = 0 ∧ g.2.2.2.2.2.1 = 0 ∧ g.2.2.2.2.2.2.1 = 0 ∧ (opts g).size = 0 ∧ ¬ (g.2.2.2.2.2.2.2.2.2 = true ∧ p.1 = 6) ∧ (sbod g).size ≤ 65527
  else g.2.2.2.2.2.2.2.2.2 = false ∧ (opts g).size ≤ 40 ∧ (opts g).size % 4 = 0 ∧ (sbod g).size + (opts g).size ≤ 65515 ∧ inU 1 g.2.2.2.2.1 ∧ inU 2 g.2.2.2.2.2.1 ∧ inU 2 g.2.2.2.2.2.2.1
open Classical in
noncomputable def bareP (p : IpT) (g : SegT) : Int ⊕ ByteArray := if segOk p g then
    .inr (if p.2.2.2.1 = 17 then putT g.1 2 ++ putT g.2.1 2 ++ putT (8 + (sbod g).size) 2 ++ nn ++ sbod g
      else putT g.1 2 ++ putT g.2.1 2 ++ putT g.2.2.1 4 ++ putT g.2.2.2.1 4 ++ putT ((20 + (opts g).size) / 4 * 16) 1 ++ putT g.2.2.2.2.1 1 ++ putT g.2.2.2.2.2.1 2 ++ nn ++ putT g.2.2.2.2.2.2.1 2 ++ opts g ++ sbod g)
  else .inl 81
theorem bare_S (k : Nat) (hk : 9 ≤ k) (p : IpT) (g : SegT) (hq : 0 ≤ g.2.2.1 ∧ g.2.2.1 ≤ 4294967295) (ha : 0 ≤ g.2.2.2.1 ∧ g.2.2.2.1 ≤ 4294967295)
    (b1 : g.1 < 2 ^ 63) (b2 : g.2.1 < 2 ^ 63) (b3 : g.2.2.2.2.1 < 2 ^ 63) (b4 : g.2.2.2.2.2.1 < 2 ^ 63) (b5 : g.2.2.2.2.2.2.1 < 2 ^ 63) (hb : (sbod g).size ≤ 1000000) (ho : (opts g).size ≤ 9223372036854775807) : F_segment_bare.S k p g = .ok (bareP p g) := by
  have hz : nn.size = 2 := rfl
  have he := empty_iff g.2.2.2.2.2.2.2.1
  have no : ¬ segOk p g → O.sat (.ok (.inl 81) : O (Int ⊕ ByteArray)) fun r => r = bareP p g := fun h => O.sat_ok (by unfold bareP; rw [if_neg h])
  have yes : ∀ t, segOk p g → t = _ → O.sat (.ok (.inr t) : O (Int ⊕ ByteArray)) fun r => r = bareP p g := fun t h ht => O.sat_ok (by unfold bareP; rw [if_pos h, ht])
  apply O.sat_val
  unfold F_segment_bare.S
  refine O.sat_sum (smay_S k p) (fun e he => ?_) fun u hu => ?_
  · split at he
    · cases he
    · rename_i c; cases he; exact no (fun h => c h.1)
  have c : carP p := by
    split at hu
    · assumption
    · cases hu
  refine sat_put k hk g.1 2 (by omega) b1 (fun h => no (fun s => h s.2.1)) fun s1 s2 => ?_
  refine sat_put k hk g.2.1 2 (by omega) b2 (fun h => no (fun s => h s.2.2.1)) fun d1 d2 => ?_
  refine O.sat_chk (by simp only [putT_size]; omega) ?_
  refine O.sat_cond (fun hu => ?_) fun hu => ?_
  · have no' : ¬ (g.2.2.1 = 0 ∧ g.2.2.2.1 = 0 ∧ g.2.2.2.2.1 = 0 ∧ g.2.2.2.2.2.1 = 0 ∧ g.2.2.2.2.2.2.1 = 0 ∧ (opts g).size = 0 ∧ ¬ (g.2.2.2.2.2.2.2.2.2 = true ∧ p.1 = 6) ∧ (sbod g).size ≤ 65527) → O.sat (.ok (.inl 81) : O (Int ⊕ ByteArray)) fun r => r = bareP p g :=
      fun h => no (fun s => h (by have := s.2.2.2; rwa [if_pos hu] at this))
    refine O.sat_cond (fun a1 => ?_) fun a1 => no' (fun s => a1 s.1)
    refine O.sat_cond (fun a2 => ?_) fun a2 => no' (fun s => a2 s.2.1)
    refine O.sat_cond (fun a3 => ?_) fun a3 => no' (fun s => a3 s.2.2.1)
    refine O.sat_cond (fun a4 => ?_) fun a4 => no' (fun s => a4 s.2.2.2.1)
    refine O.sat_cond (fun a5 => ?_) fun a5 => no' (fun s => a5 s.2.2.2.2.1)
    refine O.sat_cond (fun a6 => ?_) fun a6 => no' (fun s => a6 (he.2 s.2.2.2.2.2.1))
    have fin : (g.2.2.2.2.2.2.2.2.2 = true → ¬ p.1 = 6) → O.sat (O.cond (!(decide (((sbod g).size : Int) ≤ 65527))) (.ok (.inl 81)) (O.cond (!(decide (IntKind.i64.wrap (8 + ((sbod g).size : Int)) ≥ 0))) (.ok (.inl 81)) (O.bind (F_words_Put.S k (IntKind.u64.wrap (IntKind.i64.wrap (8 + ((sbod g).size : Int)))) 2 true) fun r17 =>
        O.cond (!(decide (r17.2 = 0))) (.ok (.inl 81)) (O.chk (decide ((((putT g.1 2 ++ putT g.2.1 2).size + r17.1.size : Nat) : Int) ≤ 9223372036854775807)) (O.chk (decide ((((putT g.1 2 ++ putT g.2.1 2 ++ r17.1).size + (⟨#[0, 0]⟩ : ByteArray).size : Nat) : Int) ≤ 9223372036854775807)) (O.chk (decide ((((putT g.1 2 ++ putT g.2.1 2 ++ r17.1 ++ (⟨#[0, 0]⟩ : ByteArray)).size + (sbod g).size : Nat) : Int) ≤ 9223372036854775807)) (.ok (.inr (putT g.1 2 ++ putT g.2.1 2 ++ r17.1 ++ (⟨#[0, 0]⟩ : ByteArray) ++ sbod g))))))))) fun r => r = bareP p g := by
      intro hns
      refine O.sat_condn (fun h => no' (fun s => by omega)) fun h7 => ?_
      rw [i64_in (8 + ((sbod g).size : Int)) (by omega)]
      refine sat_put k hk (8 + ((sbod g).size : Int)) 2 (by omega) (by omega) (fun h => (h ⟨by omega, by rw [show (256 : Int) ^ 2 = 65536 from rfl]; omega⟩).elim) fun e1 e2 => ?_
      refine O.sat_chk (by simp only [app_size, putT_size]; omega) (O.sat_chk (by simp only [app_size, putT_size, hz]; omega) (O.sat_chk (by simp only [app_size, putT_size, hz]; omega) ?_))
      refine yes _ ⟨c, ⟨s1, s2⟩, ⟨d1, d2⟩, ?_⟩ (by rw [if_pos hu])
      rw [if_pos hu]
      exact ⟨a1, a2, a3, a4, a5, he.1 a6, fun h => hns h.1 h.2, by omega⟩
    refine O.sat_condb (fun hn => ?_) fun hn => fin (fun h => by rw [hn] at h; cases h)
    refine O.sat_condn (fun h6 => fin (fun _ => h6)) fun h6 => no' (fun s => s.2.2.2.2.2.2.1 ⟨hn, h6⟩)
  · have no' : ¬ (g.2.2.2.2.2.2.2.2.2 = false ∧ (opts g).size ≤ 40 ∧ (opts g).size % 4 = 0 ∧ (sbod g).size + (opts g).size ≤ 65515 ∧ inU 1 g.2.2.2.2.1 ∧ inU 2 g.2.2.2.2.2.1 ∧ inU 2 g.2.2.2.2.2.2.1) → O.sat (.ok (.inl 81) : O (Int ⊕ ByteArray)) fun r => r = bareP p g :=
      fun h => no (fun s => h (by have := s.2.2.2; rwa [if_neg hu] at this))
    have eo : (g.2.2.2.2.2.2.2.1).size = (opts g).size := rfl
    have eb : (g.2.2.2.2.2.2.2.2.1).size = (sbod g).size := rfl
    rw [eo, eb]
    refine O.sat_condb (fun hn => ?_) fun hn => no' (fun s => by rw [s.1] at hn; cases hn)
    have hn : g.2.2.2.2.2.2.2.2.2 = false := by simpa using hn
    refine O.sat_cond (fun a1 => ?_) fun a1 => no' (fun s => a1 (by omega))
    rw [rem_in _ _ (by omega)]
    refine O.sat_cond (fun a2 => ?_) fun a2 => no' (fun s => a2 (by omega))
    rw [i64_in (20 + ((opts g).size : Int)) (by omega), i64_in (65535 - _) (by omega)]
    refine O.sat_condn (fun h => no' (fun s => h (by omega))) fun a3 => ?_
    rw [i64_in g.2.2.1 (by omega), i64_in g.2.2.2.1 (by omega)]
    refine sat_put k hk g.2.2.1 4 (by omega) (by omega) (fun h => (h ⟨hq.1, by rw [show (256 : Int) ^ 4 = 4294967296 from rfl]; omega⟩).elim) fun _ _ => ?_
    refine O.sat_chk (by simp only [app_size, putT_size]; omega) ?_
    refine sat_put k hk g.2.2.2.1 4 (by omega) (by omega) (fun h => (h ⟨ha.1, by rw [show (256 : Int) ^ 4 = 4294967296 from rfl]; omega⟩).elim) fun _ _ => ?_
    refine O.sat_chk (by simp only [app_size, putT_size]; omega) ?_
    have sh : shL .i64 (IntKind.i64.wrap (Int.tdiv (20 + ((opts g).size : Int)) 4)) 4 = (20 + (opts g).size) / 4 * 16 := by
      rw [quo_in _ _ (by omega), i64_in (_ / 4) (by omega)]
      have := shL_eq .i64 ((20 + ((opts g).size : Int)) / 4) 4 (by decide)
      rw [show (((4 : Nat) : Int)) = 4 from rfl] at this
      rw [this, show (2 : Int) ^ 4 = 16 from rfl, i64_in _ (by omega)]
    rw [sh]
    refine sat_put k hk ((20 + ((opts g).size : Int)) / 4 * 16) 1 (by omega) (by omega) (fun h => (h ⟨by omega, by rw [show (256 : Int) ^ 1 = 256 from rfl]; omega⟩).elim) fun _ _ => ?_
    refine O.sat_chk (by simp only [app_size, putT_size]; omega) ?_
    refine sat_put k hk g.2.2.2.2.1 1 (by omega) b3 (fun h => no' (fun s => h s.2.2.2.2.1)) fun f1 f2 => ?_
    refine O.sat_chk (by simp only [app_size, putT_size]; omega) ?_
    refine sat_put k hk g.2.2.2.2.2.1 2 (by omega) b4 (fun h => no' (fun s => h s.2.2.2.2.2.1)) fun w1 w2 => ?_
    refine O.sat_chk (by simp only [app_size, putT_size]; omega) (O.sat_chk (by simp only [app_size, putT_size, hz]; omega) ?_)
    refine sat_put k hk g.2.2.2.2.2.2.1 2 (by omega) b5 (fun h => no' (fun s => h s.2.2.2.2.2.2)) fun u1 u2 => ?_
    repeat refine O.sat_chk (by simp only [app_size, putT_size, hz, eo]; omega) ?_
    refine yes _ ⟨c, ⟨s1, s2⟩, ⟨d1, d2⟩, ?_⟩ (by rw [if_neg hu]; rfl)
    rw [if_neg hu]
    exact ⟨hn, by omega, by omega, by omega, ⟨f1, f2⟩, ⟨w1, w2⟩, ⟨u1, u2⟩⟩
end Go.Proofs.Ytojomdlccjlioaa
