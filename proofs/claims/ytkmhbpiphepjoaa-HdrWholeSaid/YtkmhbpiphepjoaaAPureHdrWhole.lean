/- The law HdrWhole, in plain words. -/
import Derived.Test.YtkmhbpiphepjoaaAPF10
import Derived.Test.YtkmhbpiphepjoaaAPSG
namespace Go.Proofs.Ytkmhbpiphepjoaa
open Go.Aq Go.IntWalk
set_option linter.unusedVariables false
theorem tag_low (a : Int) : 0 ≤ Int.tmod (bAnd .i64 a 65535) 4095 ∧ Int.tmod (bAnd .i64 a 65535) 4095 ≤ 4094 := by
  have h : 0 ≤ bAnd .i64 a 65535 := by
    unfold bAnd
    have e : (BitVec.ofInt 64 a &&& BitVec.ofInt 64 65535).toNat ≤ 65535 := by
      rw [BitVec.toNat_and]; exact Nat.and_le_right
    rw [i64_in _ (by show _ ≤ (((BitVec.ofInt 64 a &&& BitVec.ofInt 64 65535).toNat : Nat) : Int) ∧ (((BitVec.ofInt 64 a &&& BitVec.ofInt 64 65535).toNat : Nat) : Int) ≤ _; omega)]
    omega
  rw [rem_in _ _ h]; omega
theorem Pure.HdrWhole : ∀ (a0 : IpT) (a1 : SegT) (a2 : Int), okF ipSh a0 → okF segSh a1 → (Lit.int .i64 a2).wf = true → ∃ k, F_aqueductlaw10_HdrWhole.S k a0 a1 a2 = .ok true := by
  intro p g v hp hg hv
  refine ⟨4000000, ?_⟩
  obtain ⟨w1, w2, w3, w4, w5⟩ := okF_ip hp
  obtain ⟨fa, za⟩ := okF_seg hg 500 (by omega)
  obtain ⟨v1, v2⟩ := tag_low v
  have fx := fixed10 4000000 (Nat.le_refl _)
  unfold F_aqueductlaw10_HdrWhole.S F_aqueductlaw10_HdrWhole.top F_aqueductlaw10_HdrWhole.j9
  rw [O.chk_dec (by omega)]
  show O.bind (F_segment_Build.S 4000000 (withB p ⟨#[]⟩) (cutG g 500)) _ = _
  rw [segBuild_S _ (Nat.le_refl _) _ _ fa, O.bind_ok, fx]
  by_cases e1 : (segB (withB p ⟨#[]⟩) (cutG g 500)).2 ≠ 0
  · rw [O.cond_pos e1, O.bind_ok]
  rw [O.cond_neg e1]
  have e1 := Decidable.not_not.1 e1
  cases hn : g.2.2.2.2.2.2.2.2.2
  · rw [O.cond_false]
    obtain ⟨oa, xa, la, ua⟩ := segB_ok _ _ e1
    obtain ⟨q1, q2⟩ := segP_B (withB p ⟨#[]⟩) (cutG g 500) e1 hn
    have q1 : (segP (withB p (segB (withB p ⟨#[]⟩) (cutG g 500)).1)).2 = 0 := q1
    have q2 : (segP (withB p (segB (withB p ⟨#[]⟩) (cutG g 500)).1)).1.2.2.2.2.2.2.2.2.2 = false := q2
    have cr : carP p := oa.1
    generalize segB (withB p ⟨#[]⟩) (cutG g 500) = r at *
    have is : F_ip_Build.S 4000000 (withB p r.1) = .ok (ipB (withB p r.1)) := ipBuild_S _ (by omega) _ ⟨w1, w2, w3, w4, w5, by show (r.1 : ByteArray).size ≤ _; omega⟩
    show O.bind (F_ip_Build.S 4000000 (withB p r.1)) _ = _
    rw [is, O.bind_ok]
    have go : ∀ kind : Int, (p.1 = 4 ∧ kind = 2048 ∨ p.1 = 6 ∧ kind = 34525) → F_aqueductlaw10_HdrWhole.j9_b 4000000 v r (ipB (withB p r.1)) kind = .ok true := by
      intro kind hk
      unfold F_aqueductlaw10_HdrWhole.j9_b
      rw [ethBuild_S _ (by omega), O.bind_ok, fx]
      by_cases e3 : (ipB (withB p r.1)).2 ≠ 0
      · rw [O.cond_pos e3, O.bind_ok]
      rw [O.cond_neg e3]
      obtain ⟨pp, ps, _⟩ := ipP_B _ (Decidable.not_not.1 e3)
      generalize (ipB (withB p r.1)).1 = t at pp ps
      generalize hf : ethB (⟨#[65, 66, 67, 68, 69, 70]⟩, ⟨#[71, 72, 73, 74, 75, 76]⟩, IntKind.i64.wrap (Int.tmod (bAnd .i64 v 65535) 4095 - 1), 0, kind, t) = f
      by_cases e4 : f.2 ≠ 0
      · rw [O.cond_pos e4, O.bind_ok]
      rw [O.cond_neg e4]
      obtain ⟨pe, _⟩ := ethP_B _ (by rw [hf]; exact Decidable.not_not.1 e4)
      rw [hf] at pe
      have hq : qOf f.1 = withB p r.1 := by unfold qOf; rw [pe]; dsimp only; rw [pp]
      have hok : okAt f.1 := by
        refine ⟨by rw [pe], by rw [pe]; dsimp only; rw [pp], ?_, ?_, by rw [hq]; exact q1, by rw [hq]; exact q2⟩
        · rw [hq, pe]; intro h4; have h4 : p.1 = 4 := h4; show kind = 2048; omega
        · rw [hq, pe]; intro h6; have h6 : p.1 = 6 := h6; show kind = 34525; omega
      obtain ⟨a1, a2, a3, _⟩ := okAt_facts f.1 hok
      obtain ⟨f1, f2⟩ := fin_off f.1
      rw [offload_S _ (by omega) f.1 (by omega), O.bind_ok, finish_S _ (offP f.1).2 (by omega) (by omega) (offP f.1).1, f1, O.bind_ok]
      have h1 : (offP f.1).1.1 = 1 := by unfold offP; rw [if_pos hok]
      have h2 : (offP f.1).1.2.2.2.2.1 = (stO f.1 : Int) := by unfold offP; rw [if_pos hok]
      have hs : stO f.1 = f.1.size - r.1.size := by unfold stO; rw [hq]; rfl
      have hb : r.1.size ≤ f.1.size := by
        have : (bod (qOf f.1)).size = r.1.size := by rw [hq]; rfl
        rw [a2, ext_size] at this; omega
      rw [h1, h2, hs, O.cond_pos rfl, i64_in (_ - _) (by omega), O.cond_pos (by omega), O.cond_pos rfl, O.cond_pos rfl, O.bind_ok]
    have cv := cr.2.2.2
    dsimp only
    by_cases v4 : p.1 = 4
    · rw [O.cond_neg (by omega)]
      exact go 2048 (.inl ⟨v4, rfl⟩)
    · rw [O.cond_pos (by omega)]
      exact go 34525 (.inr ⟨by omega, rfl⟩)
  · rw [O.cond_true, O.bind_ok]
end Go.Proofs.Ytkmhbpiphepjoaa
