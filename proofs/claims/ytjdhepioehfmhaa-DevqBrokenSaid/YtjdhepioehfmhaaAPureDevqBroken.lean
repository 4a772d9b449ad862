/- The law DevqBroken of its plain function. -/
import Derived.Test.YtjdhepioehfmhaaAP14a
import Derived.Test.YtjdhepioehfmhaaATW
namespace Go.Proofs.Ytjdhepioehfmhaa
open Go.Aq Go.IntWalk
set_option linter.unusedVariables false
set_option maxRecDepth 100000 in
theorem fixed14 (m : Nat) : F_aqueductlaw14_fixed.S (m + 40) = .ok true := by
  rw [T_aqueductlaw14_fixed.S_e]
  show _ = _
  kernel_rfl
section
variable (k : Nat) (l : TL) (a b c : Int × Bool) (d e : Int) (g : TM)
theorem Next_br : F_devq_Queue_Next.S k (l, a, b, c, d, e, true) g = .ok (((0, 0, []), false, 141), ((l, a, b, c, d, e, true), g)) := by
  unfold F_devq_Queue_Next.S F_devq_Queue_Next.top
  rw [O.cond_true]
theorem Done_br (x y z : Int) : F_devq_Queue_Done.S k x y z (l, a, b, c, d, e, true) g = .ok (141, ((l, a, b, c, d, e, true), g)) := by
  unfold F_devq_Queue_Done.S F_devq_Queue_Done.top
  rw [O.cond_true]
theorem Tell_br : F_devq_Queue_Tell.S k (l, a, b, c, d, e, true) g = .ok (false, ((l, a, b, c, d, e, true), g)) := by
  unfold F_devq_Queue_Tell.S
  rw [O.cond_true]
end
theorem wf_u64 {a : Int} (h : (Lit.int .u64 a).wf = true) : 0 ≤ a ∧ a < 18446744073709551616 := by
  simp [Lit.wf, IntKind.min, IntKind.max, IntKind.bits, IntKind.signed] at h; omega
/-- What the row says of a script's calls. -/
def okScr (xs : List TOp) : Prop := xs.length ≤ maxLen ∧ ∀ x ∈ xs, okL [.int .i64, .int .i64, .int .u64, .int .u32, .int .i64, .int .i64, .str, .int .i64, .int .i64, .int .i64, .bool, .int .i64, .bool] x
theorem okScr_at (xs : List TOp) (h : okScr xs) (z : TOp) (i : Nat) (hi : i < xs.length) : okD ((gt z xs (i : Int)).2.2.1, (gt z xs (i : Int)).2.2.2.1, (gt z xs (i : Int)).2.2.2.2.1, (gt z xs (i : Int)).2.2.2.2.2.1) := by
  have e : gt z xs (i : Int) = xs[i] := by unfold gt; rw [Int.toNat_natCast, List.getD_eq_getElem?_getD, List.getElem?_eq_getElem hi]; rfl
  rw [e]
  obtain ⟨_, _, h3, h4, _⟩ := h.2 _ (List.getElem_mem hi)
  have h5 := wf_u32 h4
  exact ⟨wf_u64 h3, h5.1, Int.lt_of_le_of_lt h5.2 (by decide)⟩
theorem Pure.DevqBroken : ∀ (a0 : Int × (Int × Int × Int × Int) × (List (Int × Int × Int × Int × Int × Int × ByteArray × Int × Int × Int × Bool × Int × Bool))), okF (.cons (.leaf (.int .i64)) (.cons (.agg (.cons (.leaf (.int .i64)) (.cons (.leaf (.int .i64)) (.cons (.leaf (.int .i64)) (.one (.leaf (.int .i64)) []))))) (.one (.row false 61 [.int .i64, .int .i64, .int .u64, .int .u32, .int .i64, .int .i64, .str, .int .i64, .int .i64, .int .i64, .bool, .int .i64, .bool]) []))) a0 → ∃ k, F_aqueductlaw14_DevqBroken.S k a0 = .ok true := by
  intro a0 h0
  have hs : okScr a0.2.2 := h0.2.2
  have hlen : a0.2.2.length ≤ maxLen := hs.1
  have hml : maxLen = 9223372036854775807 := by decide
  have fx : F_aqueductlaw14_fixed.S 100 = .ok true := fixed14 60
  refine ⟨100, ?_⟩
  unfold F_aqueductlaw14_DevqBroken.S F_aqueductlaw14_DevqBroken.top
  rw [laid_S]
  by_cases hc : chkE a0.2.1 (many a0.1) = 0
  · rw [if_pos hc]
    have ok := chkE_ok _ _ hc
    have hn := many_le a0.1
    have lp : ∀ (m i j : Nat), i + m = 50 → m < j → ∀ g : TM, okM g → F_aqueductlaw14_DevqBroken.l3 100 a0 (true, mem0 (many a0.1), q0 a0.2.1, q0 a0.2.1, rmem0 (many a0.1)) j (i : Int) g.2.1 g.1 g.2.2 = .ok true := by
      intro m
      induction m with
      | zero =>
        intro i j hi hj g hg
        obtain ⟨j, rfl⟩ : ∃ i, j = i + 1 := ⟨j - 1, by omega⟩
        show F_aqueductlaw14_DevqBroken.l3_b _ _ _ _ _ _ _ _ = _
        unfold F_aqueductlaw14_DevqBroken.l3_b
        by_cases h1 : (i : Int) < a0.2.2.length
        · rw [O.cond_pos h1, O.cond_neg (by omega)]
          simp [Next_br, Done_br, Tell_br, fx]
        · rw [O.cond_neg h1]
          simp [Next_br, Done_br, Tell_br, fx]
      | succ m ih =>
        intro i j hi hj g hg
        obtain ⟨j, rfl⟩ : ∃ i, j = i + 1 := ⟨j - 1, by omega⟩
        show F_aqueductlaw14_DevqBroken.l3_b _ _ _ _ _ _ _ _ = _
        unfold F_aqueductlaw14_DevqBroken.l3_b
        by_cases h1 : (i : Int) < a0.2.2.length
        · rw [O.cond_pos h1, O.cond_pos (by omega), O.chk_dec (by omega), O.chk_dec (by omega)]
          obtain ⟨r, hr, _⟩ := memory_sat 100 (by omega) ((gt ((0 : Int), (0 : Int), (0 : Int), (0 : Int), (0 : Int), (0 : Int), ByteArray.empty, (0 : Int), (0 : Int), (0 : Int), false, (0 : Int), false) a0.2.2 (i : Int)).1, (gt ((0 : Int), (0 : Int), (0 : Int), (0 : Int), (0 : Int), (0 : Int), ByteArray.empty, (0 : Int), (0 : Int), (0 : Int), false, (0 : Int), false) a0.2.2 (i : Int)).2.1, (_, _, _, _), _, _, _, (_, _, _), _) a0.2.1 (okScr_at _ hs _ i (by omega)) (by have := ok.lo; omega)
          rw [hr, O.bind_ok, i64_in _ (by omega)]
          cases hb : r.2.2
          · rw [O.cond_false]; exact ih (i + 1) j (by omega) (by omega) g hg
          · rw [O.cond_true, show (g.1, g.2.1, g.2.2) = g from rfl, Write_S _ _ _ _ hg, O.bind_ok]
            by_cases hm : mayM r.1 r.2.1.size g.1.length = true
            · rw [if_pos hm]; exact ih (i + 1) j (by omega) (by omega) _ (wrM_ok g _ _ hg hm).1
            · rw [if_neg hm]; exact ih (i + 1) j (by omega) (by omega) g hg
        · rw [O.cond_neg h1]
          simp [Next_br, Done_br, Tell_br, fx]
    have h := lp 50 0 100 (by omega) (by omega) (mem0 (many a0.1)) ⟨by simp [mem0]; omega, by simp [mem0]⟩
    simpa using h
  · rw [if_neg hc]
    simp [fx]
end Go.Proofs.Ytjdhepioehfmhaa
