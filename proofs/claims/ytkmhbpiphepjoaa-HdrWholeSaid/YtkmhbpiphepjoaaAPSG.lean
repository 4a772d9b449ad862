/- A segment that is built with its sum is right. -/
import Derived.Test.YtkmhbpiphepjoaaAPSB
import Derived.Test.YtkmhbpiphepjoaaAPO
namespace Go.Proofs.Ytkmhbpiphepjoaa
open Go.Aq Go.IntWalk
set_option linter.unusedVariables false
theorem be_set2_at (s : ByteArray) (i : Nat) (n : Int) (h : i + 2 ≤ s.size) (hn : 0 ≤ n ∧ n ≤ 65535) : be (set2 s i n) i 2 = n := by
  unfold set2
  rw [be_app _ _ _ _ (by rw [app_size, ext_size, putT_size]; omega)]
  exact be_at _ _ 2 i (by rw [ext_size]; omega) ⟨hn.1, by rw [show (256 : Int) ^ 2 = 65536 from rfl]; omega⟩
theorem be_set2_lo (s : ByteArray) (i : Nat) (n : Int) (h : i + 2 ≤ s.size) (j m : Nat) (hj : j + m ≤ i) : be (set2 s i n) j m = be s j m := by
  unfold set2
  rw [be_app _ _ _ _ (by rw [app_size, ext_size, putT_size]; omega), be_app _ _ _ _ (by rw [ext_size]; omega), be_ext _ _ _ _ _ (by omega), Nat.zero_add]
theorem full_not (n : Int) : fullP n ≠ 0 := by unfold fullP; split <;> omega
/-- A segment that is built with its sum is right. -/
theorem segP_B (p : IpT) (g : SegT) (h : (segB p g).2 = 0) (hn : g.2.2.2.2.2.2.2.2.2 = false) : (segP (withB p (segB p g).1)).2 = 0 ∧ (segP (withB p (segB p g).1)).1.2.2.2.2.2.2.2.2.2 = false := by
  cases hb : bareP p g with
  | inl e =>
    unfold segB at h
    rw [hb] at h
    have : e = 0 := h
    unfold bareP at hb
    split at hb
    · cases hb
    · cases hb; cases this
  | inr t =>
    obtain ⟨o, _, hz, h8, _⟩ := bareP_ok p g t hb
    have e : (segB p g).1 = set2 t (plc p) (ssum p t) := by unfold segB; rw [hb]; simp only [hn, Bool.false_eq_true, if_false]
    have nl := ssum_lo p t
    have nz : ssum p t ≠ 0 := by unfold ssum; exact full_not _
    rw [e]
    have zz := set2_size t (plc p) (ssum p t) hz
    have ss : ssum p (set2 t (plc p) (ssum p t)) = ssum p t := by
      have : ∀ n : Int, n = ssum p t → ssum p (set2 t (plc p) n) = ssum p t := by
        intro n _; unfold ssum; rw [set2_set2 t (plc p) n 0 hz, set2_size t _ _ hz]
      exact this _ rfl
    have se : be (set2 t (plc p) (ssum p t)) (plc p) 2 = ssum p t := be_set2_at t _ _ hz nl
    have c : carP p := o.1
    have key : ∀ s : ByteArray, s = set2 t (plc p) (ssum p t) → (∃ gg, segQ (withB p s) = .inr gg ∧ gg.2.2.2.2.2.2.2.2.2 = false) → (segP (withB p s)).2 = 0 ∧ (segP (withB p s)).1.2.2.2.2.2.2.2.2.2 = false := by
      rintro s hs ⟨gg, hq, hg⟩
      have c' : carP (withB p s) := c
      have e1 : be (bod (withB p s)) (plc (withB p s)) 2 = ssum (withB p s) (bod (withB p s)) := by
        show be s (plc p) 2 = ssum p s
        rw [hs, ss, se]
      have : segP (withB p s) = (gg, 0) := by
        unfold segP
        rw [if_neg (fun h => h c'), hq]
        dsimp only
        rw [if_neg (fun h => h.2 e1)]
      rw [this]; exact ⟨rfl, hg⟩
    refine key _ rfl ?_
    unfold bareP at hb
    rw [if_pos o] at hb
    have hb := Sum.inr.inj hb
    obtain ⟨_, u1, u2, r⟩ := o
    have hz2 : nn.size = 2 := rfl
    by_cases u : p.2.2.2.1 = 17
    · rw [if_pos u] at hb r
      have pl : plc p = 6 := by unfold plc; rw [if_neg (by omega)]
      have sz : t.size = 8 + (sbod g).size := by rw [← hb]; simp only [app_size, putT_size, hz2]
      have r4 : be t 4 2 = 8 + (sbod g).size := by
        rw [← hb]
        rw [be_app _ _ _ _ (by simp only [app_size, putT_size, hz2]; omega), be_app _ _ _ _ (by simp only [app_size, putT_size]; omega)]
        exact be_at _ _ 2 4 (by simp only [app_size, putT_size]) ⟨by omega, by rw [show (256 : Int) ^ 2 = 65536 from rfl]; omega⟩
      have q : segQ (withB p (set2 t (plc p) (ssum p t))) = udpP p.1 (set2 t (plc p) (ssum p t)) := if_neg (by show ¬ p.2.2.2.1 = 6; omega)
      rw [q]
      rw [pl] at zz se ⊢ hz
      unfold udpP
      rw [if_neg (by omega), be_set2_lo t 6 _ (by omega) 4 2 (by omega), r4, if_neg (by omega), se]
      exact ⟨_, rfl, decide_eq_false fun h => nz h.1⟩
    · rw [if_neg u] at hb r
      have u6 : p.2.2.2.1 = 6 := by unfold carP at c; omega
      have pl : plc p = 16 := by unfold plc; rw [if_pos u6]
      have sz : t.size = 20 + (opts g).size + (sbod g).size := by rw [← hb]; simp only [app_size, putT_size, hz2]
      have r12 : be t 12 1 = (20 + (opts g).size) / 4 * 16 := by
        rw [← hb]
        iterate 6 rw [be_app _ _ _ _ (by simp only [app_size, putT_size, hz2]; omega)]
        exact be_at _ _ 1 12 (by simp only [app_size, putT_size]) ⟨by omega, by rw [show (256 : Int) ^ 1 = 256 from rfl]; omega⟩
      have q : segQ (withB p (set2 t (plc p) (ssum p t))) = tcpP (set2 t (plc p) (ssum p t)) := if_pos u6
      rw [q]
      rw [pl] at zz ⊢ hz
      have b12 : bt (set2 t 16 (ssum p t)) 12 = (20 + (opts g).size) / 4 * 16 := by
        have := be_set2_lo t 16 (ssum p t) (by omega) 12 1 (by omega)
        rw [r12, be1] at this
        exact this
      have th : thl (set2 t 16 (ssum p t)) = 20 + (opts g).size := by unfold thl; rw [b12]; omega
      unfold tcpP
      rw [th, if_neg (by omega), if_neg (by omega), b12, if_neg (by omega)]
      exact ⟨_, rfl, rfl⟩
end Go.Proofs.Ytkmhbpiphepjoaa
