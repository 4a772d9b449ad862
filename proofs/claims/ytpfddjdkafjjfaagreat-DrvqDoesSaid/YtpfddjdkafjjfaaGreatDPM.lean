/- What gmem's functions come to: memory as a list of bytes, an agent, a log. -/
import Derived.Test.YtpfddjdkafjjfaaGreatDPP
namespace Go.Proofs.YtpfddjdkafjjfaaGreat
open Go.Aq Go.IntWalk
set_option linter.unusedVariables false
abbrev TM := List Int × Int × List (Int × Int × Int × Bool)
/-- May so many bytes at a place be reached? -/
def mayM (a n len : Int) : Bool := decide (0 ≤ a ∧ 0 ≤ n ∧ n ≤ len ∧ a ≤ len - n)
theorem mayM_iff {a n len : Int} : mayM a n len = true ↔ (0 ≤ a ∧ 0 ≤ n ∧ n ≤ len ∧ a ≤ len - n) := by unfold mayM; simp
theorem mayM_not {a n len : Int} : mayM a n len = false ↔ ¬ (0 ≤ a ∧ 0 ≤ n ∧ n ≤ len ∧ a ≤ len - n) := by unfold mayM; simp only [decide_eq_false_iff_not]
def okM (g : TM) : Prop := g.1.length ≤ 1048576 ∧ g.2.2.length ≤ 8192
theorem May_S (k : Nat) (a n : Int) (g : TM) (h : g.1.length ≤ 1048576) : F_gmem_Memory_May.S k a n g = .ok (mayM a n g.1.length) := by
  unfold F_gmem_Memory_May.S
  by_cases h1 : a ≥ 0
  · rw [O.cond_pos h1]
    by_cases h2 : n ≥ 0
    · rw [O.cond_pos h2]
      by_cases h3 : n ≤ (g.1.length : Int)
      · rw [O.cond_pos h3, i64_in _ (by omega)]
        congr 1; unfold mayM; apply decide_eq_decide.2; omega
      · rw [O.cond_neg h3, mayM_not.2 (by omega)]
    · rw [O.cond_neg h2, mayM_not.2 (by omega)]
  · rw [O.cond_neg h1, mayM_not.2 (by omega)]
theorem Acc_S (k : Nat) (l : List (Int × Int × Int × Bool)) (h : 0 < l.length ∧ l.length ≤ 1048576) : F_api_Access.S k l = .ok l := by
  unfold F_api_Access.S
  rw [O.cond_pos (by omega), O.cond_false, O.chk_dec (by omega)]; rfl
/-- The log, with an access more. -/
def noteM (g : TM) (a n : Int) (w : Bool) : List (Int × Int × Int × Bool) :=
  if n = 0 then g.2.2 else if (g.2.2 ++ [(g.2.1, a, n, w)]).length > 8192 then (g.2.2 ++ [(g.2.1, a, n, w)]).drop ((g.2.2 ++ [(g.2.1, a, n, w)]).length - 4096) else g.2.2 ++ [(g.2.1, a, n, w)]
theorem noteM_len (g : TM) (a n : Int) (w : Bool) (h : g.2.2.length ≤ 8192) : (noteM g a n w).length ≤ 8192 := by
  unfold noteM
  split
  · exact h
  · split
    · rw [List.length_drop]; omega
    · simp at *; omega
/-- Memory, written. -/
def wrM (g : TM) (a : Int) (s : ByteArray) : TM := (putAt g.1 a (bytesOf s), g.2.1, noteM g a s.size true)
def rdM (g : TM) (a n : Int) : TM := (g.1, g.2.1, noteM g a n false)
theorem bytesOf_len (s : ByteArray) : (bytesOf s).length = s.size := by unfold bytesOf; rw [List.length_map, size_list]
theorem putAt_len {α : Type} (xs ys : List α) (a : Int) (h : 0 ≤ a) (h2 : a + ys.length ≤ xs.length) : (putAt xs a ys).length = xs.length := by
  unfold putAt; simp only [List.length_append, List.length_take, List.length_drop]; omega
theorem Write_S (k : Nat) (a : Int) (s : ByteArray) (g : TM) (h : okM g) : F_gmem_Memory_Write.S k a s g = .ok (if mayM a s.size g.1.length then (0, wrM g a s) else (41, g)) := by
  obtain ⟨h1, h2⟩ := h
  unfold F_gmem_Memory_Write.S
  rw [May_S k _ _ _ h1, O.bind_ok]
  by_cases hm : mayM a s.size g.1.length = true
  · rw [hm, if_pos rfl]
    rw [mayM_iff] at hm
    show O.cond false _ _ = _
    have hp : sumI [a] = a := by simp [sumI]
    have hq : posI [a] = true := by simp [posI]; omega
    have ht : List.take ((g.1.length : Int) - a).toNat (bytesOf s) = bytesOf s := List.take_of_length_le (by rw [bytesOf_len]; omega)
    have hc1 : (decide (0 ≤ a ∧ a ≤ (g.1.length : Int)) && decide (0 ≤ (g.1.length : Int) ∧ (g.1.length : Int) ≤ (g.1.length : Int))) = true := by simp; omega
    have hc2 : (posI [a] && decide (0 ≤ (g.1.length : Int) - a ∧ sumI [a] + ((g.1.length : Int) - a) ≤ (g.1.length : Int))) = true := by rw [hp, hq]; simp; omega
    rw [O.cond_false]
    by_cases h0 : (s.size : Int) = 0
    · rw [O.cond_pos h0, hc1, O.chk_true, hc2, O.chk_true, hp, ht]
      unfold wrM noteM; rw [if_pos h0]
    · rw [O.cond_neg h0, O.chk_dec (by simp; omega)]
      have hl : (g.2.2 ++ [(g.2.1, a, (s.size : Int), true)]).length = g.2.2.length + 1 := by simp
      by_cases h8 : ((g.2.2 ++ [(g.2.1, a, (s.size : Int), true)]).length : Int) > 8192
      · have e : IntKind.i64.wrap (((g.2.2 ++ [(g.2.1, a, (s.size : Int), true)]).length : Int) - 4096) = ((g.2.2 ++ [(g.2.1, a, (s.size : Int), true)]).length : Int) - 4096 := i64_in _ (by omega)
        rw [O.cond_pos h8, e]
        generalize hL : (g.2.2 ++ [(g.2.1, a, (s.size : Int), true)]) = L at *
        have hp2 : sumI [(L.length : Int) - 4096] = (L.length : Int) - 4096 := by simp [sumI]
        have hq2 : posI [(L.length : Int) - 4096] = true := by simp [posI]; omega
        rw [show (decide (0 ≤ (L.length : Int) - 4096 ∧ (L.length : Int) - 4096 ≤ (L.length : Int)) && decide (0 ≤ (L.length : Int) ∧ (L.length : Int) ≤ (L.length : Int))) = true from by simp; omega, O.chk_true, hp2, hq2]
        rw [show (true && decide (0 ≤ (L.length : Int) - ((L.length : Int) - 4096) ∧ (L.length : Int) - 4096 + ((L.length : Int) - ((L.length : Int) - 4096)) ≤ (L.length : Int))) = true from by simp; omega, O.chk_true]
        have hd : sub L ((L.length : Int) - 4096) ((L.length : Int) - ((L.length : Int) - 4096)) = L.drop (L.length - 4096) := by
          unfold sub
          rw [show ((L.length : Int) - 4096).toNat = L.length - 4096 by omega]
          exact List.take_of_length_le (by rw [List.length_drop]; omega)
        rw [hd, Acc_S k _ (by rw [List.length_drop]; omega), O.bind_ok, hc1, O.chk_true, hc2, O.chk_true, hp, ht]
        unfold wrM noteM
        rw [if_neg h0, hL, if_pos (by omega)]
      · rw [O.cond_neg h8, hc1, O.chk_true, hc2, O.chk_true, hp, ht]
        unfold wrM noteM
        rw [if_neg h0, if_neg (by omega)]
  · rw [Bool.not_eq_true] at hm
    rw [hm]
    show O.cond true _ _ = _
    rw [O.cond_true]; rfl
theorem wrM_ok (g : TM) (a : Int) (s : ByteArray) (h : okM g) (hm : mayM a s.size g.1.length = true) : okM (wrM g a s) ∧ (wrM g a s).1.length = g.1.length := by
  rw [mayM_iff] at hm
  have e : (wrM g a s).1.length = g.1.length := putAt_len _ _ _ hm.1 (by rw [bytesOf_len]; omega)
  exact ⟨⟨by rw [e]; exact h.1, noteM_len _ _ _ _ h.2⟩, e⟩
theorem Read_S (k : Nat) (a n : Int) (g : TM) (h : okM g) : F_gmem_Memory_Read.S k a n g = .ok (if n < 0 then ((⟨#[]⟩, 1), g) else if mayM a n g.1.length then ((Go.Aq.strOf (sub g.1 a n), 0), rdM g a n) else ((⟨#[]⟩, 41), g)) := by
  obtain ⟨h1, h2⟩ := h
  unfold F_gmem_Memory_Read.S
  by_cases hn : n < 0
  · rw [O.cond_pos hn, if_pos hn]
  rw [O.cond_neg hn, if_neg hn, May_S k _ _ _ h1, O.bind_ok]
  by_cases hm : mayM a n g.1.length = true
  · rw [hm, if_pos rfl]
    rw [mayM_iff] at hm
    show O.cond false _ _ = _
    have hp : sumI [a] = a := by simp [sumI]
    have hq : posI [a] = true := by simp [posI]; omega
    have hw : IntKind.i64.wrap (a + n) = a + n := i64_in _ (by omega)
    have hs : a + n - a = n := by omega
    have hc1 : (decide (0 ≤ a ∧ a ≤ a + n ∧ a + n ≤ (g.1.length : Int)) && decide (0 ≤ (g.1.length : Int) ∧ (g.1.length : Int) ≤ (g.1.length : Int))) = true := by simp; omega
    have hc2 : (posI [a] && decide (0 ≤ n ∧ sumI [a] + n ≤ (g.1.length : Int))) = true := by rw [hp, hq]; simp; omega
    rw [O.cond_false, hw, hs]
    by_cases h0 : n = 0
    · rw [O.cond_pos h0, hc1, O.chk_true, hc2, O.chk_true, hp]
      unfold rdM noteM; rw [if_pos h0]
    · rw [O.cond_neg h0, O.chk_dec (by simp; omega)]
      have hl : (g.2.2 ++ [(g.2.1, a, n, false)]).length = g.2.2.length + 1 := by simp
      by_cases h8 : ((g.2.2 ++ [(g.2.1, a, n, false)]).length : Int) > 8192
      · have e : IntKind.i64.wrap (((g.2.2 ++ [(g.2.1, a, n, false)]).length : Int) - 4096) = ((g.2.2 ++ [(g.2.1, a, n, false)]).length : Int) - 4096 := i64_in _ (by omega)
        rw [O.cond_pos h8, e]
        generalize hL : (g.2.2 ++ [(g.2.1, a, n, false)]) = L at *
        have hp2 : sumI [(L.length : Int) - 4096] = (L.length : Int) - 4096 := by simp [sumI]
        have hq2 : posI [(L.length : Int) - 4096] = true := by simp [posI]; omega
        rw [show (decide (0 ≤ (L.length : Int) - 4096 ∧ (L.length : Int) - 4096 ≤ (L.length : Int)) && decide (0 ≤ (L.length : Int) ∧ (L.length : Int) ≤ (L.length : Int))) = true from by simp; omega, O.chk_true, hp2, hq2]
        rw [show (true && decide (0 ≤ (L.length : Int) - ((L.length : Int) - 4096) ∧ (L.length : Int) - 4096 + ((L.length : Int) - ((L.length : Int) - 4096)) ≤ (L.length : Int))) = true from by simp; omega, O.chk_true]
        have hd : sub L ((L.length : Int) - 4096) ((L.length : Int) - ((L.length : Int) - 4096)) = L.drop (L.length - 4096) := by
          unfold sub
          rw [show ((L.length : Int) - 4096).toNat = L.length - 4096 by omega]
          exact List.take_of_length_le (by rw [List.length_drop]; omega)
        rw [hd, Acc_S k _ (by rw [List.length_drop]; omega), O.bind_ok, hc1, O.chk_true, hc2, O.chk_true, hp]
        unfold rdM noteM
        rw [if_neg h0, hL, if_pos (by omega)]
      · rw [O.cond_neg h8, hc1, O.chk_true, hc2, O.chk_true, hp]
        unfold rdM noteM
        rw [if_neg h0, if_neg (by omega)]
  · rw [Bool.not_eq_true] at hm
    rw [hm]
    show O.cond true _ _ = _
    rw [O.cond_true]; rfl
theorem rdM_ok (g : TM) (a n : Int) (h : okM g) : okM (rdM g a n) ∧ (rdM g a n).1 = g.1 := ⟨⟨h.1, noteM_len _ _ _ _ h.2⟩, rfl⟩
end Go.Proofs.YtpfddjdkafjjfaaGreat
