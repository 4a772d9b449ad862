/- The law FlowKeys, in plain words. -/
import Derived.Test.YtojomdlccjlioaaAPureFlowLess
namespace Go.Proofs.Ytojomdlccjlioaa
open Go.Aq Go.IntWalk
set_option linter.unusedVariables false
/-- A flow's kind and its key's size. -/
def keyOk (f : Int × ByteArray) : Prop := f.1 = 0 ∧ f.2.size = 0 ∨ f.1 = 1 ∧ f.2.size = 8 ∨ f.1 = 2 ∧ f.2.size = 12 ∨ f.1 = 3 ∧ f.2.size = 12 ∨ f.1 = 4 ∧ f.2.size = 32 ∨ f.1 = 5 ∧ f.2.size = 36 ∨ f.1 = 6 ∧ f.2.size = 36
theorem flowQ_key (p : IpT) (h : p.1 = 4 ∧ p.2.1.size = 4 ∧ p.2.2.1.size = 4 ∨ p.1 = 6 ∧ p.2.1.size = 16 ∧ p.2.2.1.size = 16) : keyOk (flowQ p) := by
  have s2 : (p.2.1 ++ p.2.2.1).size = p.2.1.size + p.2.2.1.size := app_size _ _
  by_cases n : portP p ≠ 0
  · have e : flowQ p = (portP p, p.2.1 ++ p.2.2.1 ++ (ibod p).extract 0 4) := by unfold flowQ; rw [if_pos n]
    have hb : 4 ≤ (ibod p).size ∧ (portP p = 2 ∨ portP p = 3 ∨ portP p = 5 ∨ portP p = 6) ∧ (portP p = 2 ∨ portP p = 3 ↔ p.1 ≠ 6) := by
      have c0 : ¬ (p.2.2.2.2.2.2.2.2.1 ≠ 0 ∨ p.2.2.2.2.2.2.2.1 % 2 ≠ 0 ∨ (ibod p).size < 4) := by
        intro c; unfold portP at n; rw [if_pos c] at n; exact n rfl
      have hp : portP p = if p.2.2.2.1 = 6 then (if p.1 = 6 then 5 else 2) else if p.2.2.2.1 = 17 then (if p.1 = 6 then 6 else 3) else 0 := by unfold portP; rw [if_neg c0]
      rw [hp] at n ⊢
      refine ⟨by omega, ?_⟩
      by_cases q6 : p.2.2.2.1 = 6
      · rw [if_pos q6]; split <;> omega
      · rw [if_neg q6] at n ⊢
        by_cases q17 : p.2.2.2.1 = 17
        · rw [if_pos q17]; split <;> omega
        · rw [if_neg q17] at n; exact (n rfl).elim
    have s3 : (p.2.1 ++ p.2.2.1 ++ (ibod p).extract 0 4).size = p.2.1.size + p.2.2.1.size + 4 := by rw [app_size, s2, ext_size]; omega
    rw [e]
    obtain ⟨_, hb2, hb3⟩ := hb
    rcases h with ⟨v, x, y⟩ | ⟨v, x, y⟩
    · have q : portP p = 2 ∨ portP p = 3 := hb3.2 (by omega)
      have z : (p.2.1 ++ p.2.2.1 ++ (ibod p).extract 0 4).size = 12 := by omega
      rcases q with q | q
      · exact .inr (.inr (.inl ⟨q, z⟩))
      · exact .inr (.inr (.inr (.inl ⟨q, z⟩)))
    · have q : ¬ (portP p = 2 ∨ portP p = 3) := fun c => hb3.1 c v
      have z : (p.2.1 ++ p.2.2.1 ++ (ibod p).extract 0 4).size = 36 := by omega
      rcases hb2 with r | r | r | r
      · exact (q (.inl r)).elim
      · exact (q (.inr r)).elim
      · exact .inr (.inr (.inr (.inr (.inr (.inl ⟨r, z⟩)))))
      · exact .inr (.inr (.inr (.inr (.inr (.inr ⟨r, z⟩)))))
  · have e : flowQ p = (if p.1 = 4 then 1 else 4, p.2.1 ++ p.2.2.1) := by unfold flowQ; rw [if_neg n]
    rw [e]
    rcases h with ⟨v, x, y⟩ | ⟨v, x, y⟩
    · rw [if_pos v]; exact .inr (.inl ⟨rfl, by show (p.2.1 ++ p.2.2.1).size = 8; omega⟩)
    · rw [if_neg (by omega)]; exact .inr (.inr (.inr (.inr (.inl ⟨rfl, by show (p.2.1 ++ p.2.2.1).size = 32; omega⟩))))
theorem flowP_key (s : ByteArray) : keyOk (flowP s) := by
  have z : keyOk no0 := .inl ⟨rfl, rfl⟩
  unfold flowP
  split
  · exact z
  · split
    · exact z
    · split
      · exact z
      · split
        · exact z
        · rename_i h _
          obtain ⟨a, _⟩ := ipP_right _ (Decidable.not_not.1 h)
          exact flowQ_key _ a
theorem Pure.FlowKeys : ∀ (a0 : ByteArray), a0.size ≤ 140737488351232 → ∃ k, F_aqueductlaw09_FlowKeys.S k a0 = .ok true := by
  intro s hs
  refine ⟨4000000, ?_⟩
  unfold F_aqueductlaw09_FlowKeys.S
  rw [O.chk_dec (by omega), flowOf_S _ (by omega), O.bind_ok]
  have hk := flowP_key (s.extract 0 (min (s.size : Int) 1600).toNat)
  generalize flowP (s.extract 0 (min (s.size : Int) 1600).toNat) = f at hk
  have lo : 0 ≤ f.1 ∧ f.1 < 7 := by unfold keyOk at hk; omega
  have ge : gt (0 : Int) [0, 8, 12, 12, 32, 36, 36] f.1 = f.2.size := by
    unfold keyOk at hk
    rcases hk with ⟨a, b⟩ | ⟨a, b⟩ | ⟨a, b⟩ | ⟨a, b⟩ | ⟨a, b⟩ | ⟨a, b⟩ | ⟨a, b⟩ <;> (rw [a, b]; rfl)
  obtain ⟨n, p1, p2, p3⟩ := less_pre f
  have l7 : ([0, 8, 12, 12, 32, 36, 36] : List Int).length = 7 := rfl
  rw [O.cond_neg (by omega), O.cond_neg (by omega), O.chk_dec (by rw [l7]; omega), O.chk_dec (by rw [l7]; omega), ge, O.cond_neg (by simp), less_S, O.bind_ok, p3, O.cond_pos (by omega), O.chk_dec (by omega), Int.toNat_natCast, O.cond_pos p2.symm, less_S, less_less, O.bind_ok, fixed09 _ (Nat.le_refl _)]
  have lk : (lessP f).1 = 0 ∨ (lessP f).1 = 1 ∨ (lessP f).1 = 4 := by
    unfold keyOk at hk
    unfold lessP
    split
    · exact .inr (.inl rfl)
    · split
      · exact .inr (.inr rfl)
      · omega
  simp only [decide_true, Bool.and_true, O.cond_true, O.bind_ok]
  rcases lk with h | h | h <;> simp [h]
end Go.Proofs.Ytojomdlccjlioaa
