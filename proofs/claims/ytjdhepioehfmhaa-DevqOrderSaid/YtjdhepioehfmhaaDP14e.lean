/- Layer 14: rings that a right driver writes. -/
import Derived.Test.YtjdhepioehfmhaaDP14d
namespace Go.Proofs.Ytjdhepioehfmhaa
open Go.Aq Go.IntWalk
set_option linter.unusedVariables false
def fl (nx wr rd : Bool) : Int := (bif nx then 1 else 0) + (bif wr then 2 else 0) + (bif rd then 128 else 32768)
theorem fl_in (nx wr rd : Bool) : 0 ≤ fl nx wr rd ∧ fl nx wr rd < 65536 := by cases nx <;> cases wr <;> cases rd <;> decide
theorem fl_1 (nx wr rd : Bool) : (bAnd .i64 (fl nx wr rd) 1 ≠ 0) ↔ nx = true := by cases nx <;> cases wr <;> cases rd <;> decide +kernel
theorem fl_2 (nx wr rd : Bool) : decide (bAnd .i64 (fl nx wr rd) 2 ≠ 0) = wr := by cases nx <;> cases wr <;> cases rd <;> decide +kernel
theorem fl_4 (nx wr rd : Bool) : bAnd .i64 (fl nx wr rd) 4 = 0 := by cases nx <;> cases wr <;> cases rd <;> decide +kernel
theorem fl_av (nx wr rd : Bool) : availP (fl nx wr rd) rd = true := by cases nx <;> cases wr <;> cases rd <;> decide +kernel
theorem fl_no (nx wr rd : Bool) : availP (fl nx wr rd) (!rd) = false := by cases nx <;> cases wr <;> cases rd <;> decide +kernel
theorem used_no (wr w r : Bool) : availP (usedF wr w) r = false := by cases wr <;> cases w <;> cases r <;> decide +kernel
theorem rMark_S (k : Nat) (nx wr rd : Bool) : F_aqueductref12_Mark.S k ((bif nx then 1 else 0) + (bif wr then 2 else 0)) rd false = .ok (fl nx wr rd) := by
  unfold F_aqueductref12_Mark.S
  cases rd <;> simp only [O.cond_true, O.cond_false, Bool.not_true, Bool.not_false] <;> cases nx <;> cases wr <;> rfl
theorem rUsed_S (k : Nat) (wr w : Bool) : F_aqueductref12_Used.S k (IntKind.i64.wrap (usedF wr w)) w = .ok true := by
  unfold F_aqueductref12_Used.S
  simp only [O.cond_okok]
  cases wr <;> cases w <;> rfl
theorem used_2 (wr w : Bool) : decide (bAnd .u64 (usedF wr w) 2 ≠ 0) = wr := by cases wr <;> cases w <;> decide +kernel
section
variable (p n : Int) (w : Bool)
def rnd (j : Int) : Bool := if p + j ≥ n then !w else w
def pos (j : Int) : Int := if p + j ≥ n then p + j - n else p + j
def sOf (x : Int) : Bool := if x ≥ p then w else !w
def dsc (c i j : Int) : D4 := (1032 + 16 * j, 1 + i % 9, i, fl (decide (j < c - 1)) (decide (j > 0)) (rnd p n w j))
def prt (i j : Int) : P3 := (1032 + 16 * j, 1 + i % 9, decide (j > 0))
theorem pos_in (j : Int) (hp : 0 ≤ p ∧ p < n) (hj : 0 ≤ j ∧ j < n) : 0 ≤ pos p n j ∧ pos p n j < n := by unfold pos; split <;> omega
theorem pos_next (j : Int) (hp : 0 ≤ p ∧ p < n) (hj : 0 ≤ j ∧ j + 1 < n) : nextSp (pos p n j, rnd p n w j) 1 n = (pos p n (j + 1), rnd p n w (j + 1)) := by
  unfold nextSp pos rnd
  by_cases h1 : p + j ≥ n
  · simp only [if_pos h1, if_pos (show p + (j + 1) ≥ n by omega)]
    rw [if_neg (by omega)]; congr 1; omega
  · simp only [if_neg h1]
    by_cases h2 : p + (j + 1) ≥ n
    · rw [if_pos (by omega), if_pos h2, if_pos h2]; congr 1; omega
    · rw [if_neg (by omega), if_neg h2, if_neg h2]; congr 1; omega
theorem pos_inj (j j' : Int) (hp : 0 ≤ p ∧ p < n) (hj : 0 ≤ j ∧ j < n) (hj' : 0 ≤ j' ∧ j' < n) (h : pos p n j = pos p n j') : j = j' := by
  unfold pos at h; split at h <;> split at h <;> omega
theorem dsc_in (c i j : Int) (hj : 0 ≤ j ∧ j ≤ 3) (hi : 0 ≤ i ∧ i < 60) : inD (dsc p n w c i j) := by
  have := fl_in (decide (j < c - 1)) (decide (j > 0)) (rnd p n w j)
  unfold dsc inD
  refine ⟨by simp only; omega, by simp only; omega, by simp only; omega, this⟩
theorem dsc_part (c i j : Int) (hj : 0 ≤ j ∧ j ≤ 3) (hi : 0 ≤ i ∧ i < 60) : partP 2048 (dsc p n w c i j) = some (prt i j) := by
  unfold partP dsc prt
  simp only
  rw [i64_in (1032 + 16 * j) (by omega), i64_in (1 + i % 9) (by omega), if_pos ⟨by omega, by omega, by omega, mayM_iff.2 (by omega)⟩, fl_2]
def Ds (c i : Int) (m : Nat) : List D4 := (List.range m).map fun (j : Nat) => dsc p n w c i (j : Int)
def Ps (i : Int) (m : Nat) : List P3 := (List.range m).map fun (j : Nat) => prt i (j : Int)
theorem Ds_len (c i : Int) (m : Nat) : (Ds p n w c i m).length = m := by simp [Ds]
theorem Ds_succ (c i : Int) (m : Nat) : Ds p n w c i m ++ [dsc p n w c i (m : Int)] = Ds p n w c i (m + 1) := by unfold Ds; rw [List.range_succ, List.map_append]; rfl
theorem parts_gen (N : Int) (D : Nat → D4) (Q : Nat → P3) (hP : ∀ j : Nat, j ≤ 3 → partP N (D j) = some (Q j)) (hQ : ∀ j : Nat, 0 < j → (Q j).2.2 = true) : ∀ (t j : Nat) (u : Bool) (acc : List P3), (j = 0 → u = false) → j + t ≤ 4 →
    partsP N ((List.range' j t).map D) u acc = some (acc ++ (List.range' j t).map Q) := by
  intro t
  induction t with
  | zero => intro j u acc _ _; simp [partsP]
  | succ t ih =>
    intro j u acc h h2
    rw [List.range'_succ, List.map_cons]
    unfold partsP
    rw [hP j (by omega)]
    simp only
    have hc : (Q j).2.2 = true ∨ u = false := by
      by_cases h0 : j = 0
      · exact Or.inr (h h0)
      · exact Or.inl (hQ j (by omega))
    rw [if_pos hc, ih (j + 1) _ _ (by omega) (by omega)]
    simp
theorem prt_wr (i : Int) (j : Nat) (h : 0 < j) : (prt i (j : Int)).2.2 = true := decide_eq_true (by omega)
theorem parts_Ds (c i : Int) (hi : 0 ≤ i ∧ i < 60) : ∀ (t j : Nat) (u : Bool) (acc : List P3), (j = 0 → u = false) → j + t ≤ 4 →
    partsP 2048 ((List.range' j t).map fun (j : Nat) => dsc p n w c i (j : Int)) u acc = some (acc ++ (List.range' j t).map fun (j : Nat) => prt i (j : Int)) :=
  parts_gen 2048 (fun (j : Nat) => dsc p n w c i (j : Int)) (fun (j : Nat) => prt i (j : Int)) (fun j hj => dsc_part p n w c i j (by omega) hi) (fun j hj => prt_wr i j hj)
/-- The places that were written, and the others. -/
def Inn (b : List Int) (c i : Int) (m : Nat) : Prop :=
  b.length = 2048 ∧ (∀ j : Nat, j < m → rdD b (16 * pos p n j) = dsc p n w c i j) ∧ (∀ x : Int, 0 ≤ x → x < n → (∀ j : Nat, j < m → x ≠ pos p n j) → availP (rdD b (16 * x)).2.2.2 (sOf p w x) = false)
def Inv (b : List Int) : Prop := b.length = 2048 ∧ ∀ x : Int, 0 ≤ x → x < n → availP (rdD b (16 * x)).2.2.2 (sOf p w x) = false
theorem chain_Ds (b : List Int) (c : Nat) (i : Int) (q : TQ) (hp : 0 ≤ p ∧ p < n) (hn : n ≤ 32) (hc : 1 ≤ c ∧ (c : Int) ≤ min n 4) (hi : 0 ≤ i ∧ i < 60) (hb : Inn p n w b c i c) (hq : q.1.1 = 0 ∧ q.1.2.1 = n ∧ q.2.2.2.2.2.1 = 0) :
    ∀ (t j m : Nat), j + 1 + t = c → t < m → chainR b q m (Ds p n w c i (j + 1)) (dsc p n w c i (j : Int)) (pos p n j, rnd p n w j) = some (i, (c : Int), Ps i c) := by
  intro t
  induction t with
  | zero =>
    intro j m hj hm
    obtain ⟨m, rfl⟩ : ∃ i, m = i + 1 := ⟨m - 1, by omega⟩
    unfold chainR
    rw [if_neg (by unfold dsc; rw [fl_1]; simp; omega)]
    obtain rfl : c = j + 1 := by omega
    unfold endP
    rw [if_pos (by
      unfold loneP Ds
      rw [List.all_eq_true]
      intro x hx
      obtain ⟨y, _, rfl⟩ := List.mem_map.1 hx
      rw [decide_eq_true (show bAnd .i64 (dsc p n w _ i (y : Int)).2.2.2 4 = 0 from fl_4 _ _ _)]; rfl)]
    unfold tailP
    have e := parts_Ds p n w ((j + 1 : Nat) : Int) i hi (j + 1) 0 false [] (fun _ => rfl) (by omega)
    rw [← List.range_eq_range', List.nil_append] at e
    rw [if_neg (by unfold dsc; simp [fl_4]), hb.1]
    show (match partsP 2048 (Ds p n w _ i (j + 1)) false [] with | none => none | some ps => some _) = _
    unfold Ds
    rw [e]
    simp [dsc, Ps]
  | succ t ih =>
    intro j m hj hm
    obtain ⟨m, rfl⟩ : ∃ i, m = i + 1 := ⟨m - 1, by omega⟩
    unfold chainR
    rw [if_pos (by unfold dsc; rw [fl_1]; simp; omega), hq.1, hq.2.1, hq.2.2, Ds_len, if_pos (by omega), pos_next p n w j hp (by omega)]
    have := hb.2.1 (j + 1) (by omega)
    rw [show ((j + 1 : Nat) : Int) = (j : Int) + 1 by push_cast; rfl] at this
    simp only [Int.zero_add]
    rw [this]
    have ih' := ih (j + 1) m (by omega) (by omega)
    rw [← Ds_succ] at ih'
    rw [show ((j + 1 : Nat) : Int) = (j : Int) + 1 by push_cast; rfl] at ih'
    exact ih'
theorem next_Ds (b : List Int) (c : Nat) (i e : Int) (hp : 0 ≤ p ∧ p < n) (hn : n ≤ 32) (hc : 1 ≤ c ∧ (c : Int) ≤ min n 4) (hi : 0 ≤ i ∧ i < 60) (hb : Inn p n w b c i c) :
    nextR ((0, n, 1024, 1028), (p, w), (p, w), (0, true), e, 0, false) b = (((i, (c : Int), Ps i c), true, 0), ((0, n, 1024, 1028), nextSp (p, w) c n, (p, w), (0, true), e, (c : Int), false)) := by
  unfold nextR
  simp only [Int.zero_add]
  have h0 := hb.2.1 0 (by omega)
  have p0 : pos p n ((0 : Nat) : Int) = p := by unfold pos; rw [if_neg (by omega)]; omega
  have r0 : rnd p n w ((0 : Nat) : Int) = w := by unfold rnd; rw [if_neg (by omega)]
  rw [p0] at h0
  have ch := chain_Ds p n w b c i ((0, n, 1024, 1028), (p, w), (p, w), (0, true), e, 0, false) hp hn hc hi hb ⟨rfl, rfl, rfl⟩ (c - 1) 0 64 (by omega) (by omega)
  rw [p0, r0] at ch
  have hd : Ds p n w c i (0 + 1) = [dsc p n w c i ((0 : Nat) : Int)] := rfl
  rw [hd] at ch
  rw [if_neg (by decide), if_neg (by omega), h0, if_pos (by
    have := fl_av (decide (((0 : Nat) : Int) < (c : Int) - 1)) (decide (((0 : Nat) : Int) > 0)) (rnd p n w ((0 : Nat) : Int))
    rw [r0] at this
    unfold dsc; rw [r0]; exact this), ch]
theorem Inn_step (b : List Int) (c i : Int) (m : Nat) (hp : 0 ≤ p ∧ p < n) (hn : n ≤ 32) (hm : (m : Int) < n) (hm3 : m ≤ 3) (hi : 0 ≤ i ∧ i < 60) (h : Inn p n w b c i m) : Inn p n w (putAt b (16 * pos p n m) (bytesOf (dscB (dsc p n w c i m)))) c i (m + 1) := by
  obtain ⟨h1, h2, h3⟩ := h
  have hl : (bytesOf (dscB (dsc p n w c i m))).length = 16 := by rw [bytesOf_len, dscB_size]
  have hx := pos_in p n m hp (by omega)
  refine ⟨by rw [putAt_len _ _ _ (by omega) (by omega), h1], fun j hj => ?_, fun x x0 x1 hne => ?_⟩
  · by_cases e : j = m
    · subst e; exact rdD_put _ _ _ (dsc_in p n w c i j (by omega) hi) (by omega)
    · have hy := pos_in p n j hp (by omega)
      have : pos p n j ≠ pos p n m := fun he => e (by have := pos_inj p n j m hp (by omega) (by omega) he; omega)
      rw [rdD_off _ _ _ _ (by omega) (by omega)]; exact h2 j (by omega)
  · have := hne m (by omega)
    rw [rdD_off _ _ _ _ (by omega) (by omega)]
    exact h3 x x0 x1 fun j hj => hne j (by omega)
theorem Inv_Inn (b : List Int) (c i : Int) (h : Inv p n w b) : Inn p n w b c i 0 := ⟨h.1, fun j hj => by omega, fun x x0 x1 _ => h.2 x x0 x1⟩
theorem doneB_len (b : List Int) (a wr id : Int) (u : Bool) (h : 0 ≤ a ∧ a + 16 ≤ b.length) : (doneB b a wr id u).length = b.length := by
  have l1 : (bytesOf (putL wr 4)).length = 4 := by rw [bytesOf_len, putL_size]
  have l2 : (bytesOf (putL id 2)).length = 2 := by rw [bytesOf_len, putL_size]
  have l3 : (bytesOf (putL (usedF (decide (wr > 0)) u) 2)).length = 2 := by rw [bytesOf_len, putL_size]
  have e1 := putAt_len b (bytesOf (putL wr 4)) (a + 8) (by omega) (by omega)
  have e2 := putAt_len (putAt b (a + 8) (bytesOf (putL wr 4))) (bytesOf (putL id 2)) (a + 12) (by omega) (by omega)
  have e3 := putAt_len (putAt (putAt b (a + 8) (bytesOf (putL wr 4))) (a + 12) (bytesOf (putL id 2))) (bytesOf (putL (usedF (decide (wr > 0)) u) 2)) (a + 14) (by omega) (by omega)
  unfold doneB; omega
theorem doneB_off (b : List Int) (a wr id x : Int) (u : Bool) (h : 0 ≤ a ∧ a + 16 ≤ b.length) (hx : 0 ≤ x ∧ (x + 16 ≤ a ∨ a + 16 ≤ x)) : rdD (doneB b a wr id u) x = rdD b x := by
  have l1 : (bytesOf (putL wr 4)).length = 4 := by rw [bytesOf_len, putL_size]
  have l2 : (bytesOf (putL id 2)).length = 2 := by rw [bytesOf_len, putL_size]
  have l3 : (bytesOf (putL (usedF (decide (wr > 0)) u) 2)).length = 2 := by rw [bytesOf_len, putL_size]
  have e1 := putAt_len b (bytesOf (putL wr 4)) (a + 8) (by omega) (by omega)
  have e2 := putAt_len (putAt b (a + 8) (bytesOf (putL wr 4))) (bytesOf (putL id 2)) (a + 12) (by omega) (by omega)
  unfold doneB
  rw [rdD_off _ _ _ _ (by omega) (by omega), rdD_off _ _ _ _ (by omega) (by omega), rdD_off _ _ _ _ (by omega) (by omega)]
theorem doneB_fl (b : List Int) (a wr id : Int) (u : Bool) (h : 0 ≤ a ∧ a + 16 ≤ b.length) : leN (doneB b a wr id u) (a + 14) 2 = usedF (decide (wr > 0)) u := by
  have l1 : (bytesOf (putL wr 4)).length = 4 := by rw [bytesOf_len, putL_size]
  have l2 : (bytesOf (putL id 2)).length = 2 := by rw [bytesOf_len, putL_size]
  have e1 := putAt_len b (bytesOf (putL wr 4)) (a + 8) (by omega) (by omega)
  have e2 := putAt_len (putAt b (a + 8) (bytesOf (putL wr 4))) (bytesOf (putL id 2)) (a + 12) (by omega) (by omega)
  have := usedF_in (decide (wr > 0)) u
  unfold doneB
  exact leN_put _ _ _ 2 (by rw [show (256 : Int) ^ 2 = 65536 from rfl]; exact this) (by push_cast; omega)
theorem Inn_done (b : List Int) (c : Nat) (i wr : Int) (hp : 0 ≤ p ∧ p < n) (hn : n ≤ 32) (hc : 1 ≤ c ∧ (c : Int) ≤ min n 4) (h : Inn p n w b c i c) :
    Inv (nextSp (p, w) c n).1 n (nextSp (p, w) c n).2 (doneB b (16 * p) wr i w) := by
  obtain ⟨h1, h2, h3⟩ := h
  refine ⟨by rw [doneB_len _ _ _ _ _ (by omega), h1], fun x x0 x1 => ?_⟩
  by_cases hx : x = p
  · subst hx
    rw [rdD_fl _ _ (by rw [doneB_len _ _ _ _ _ (by omega)]; omega), doneB_fl _ _ _ _ _ (by omega)]
    exact used_no _ _ _
  · rw [doneB_off _ _ _ _ _ _ (by omega) (by omega)]
    by_cases hj : ∃ j : Nat, j < c ∧ x = pos p n j
    · obtain ⟨j, hj, rfl⟩ := hj
      rw [h2 j hj]
      have e : sOf (nextSp (p, w) c n).1 (nextSp (p, w) c n).2 (pos p n j) = !(rnd p n w j) := by
        unfold sOf nextSp pos rnd
        by_cases a1 : p + (c : Int) ≥ n
        · by_cases a2 : p + (j : Int) ≥ n
          · simp only [if_pos a1, if_pos a2]
            rw [if_neg (by omega)]
          · simp only [if_pos a1, if_neg a2]
            rw [if_pos (by omega)]
        · have a2 : ¬ p + (j : Int) ≥ n := by omega
          simp only [if_neg a1, if_neg a2]
          rw [if_neg (by omega)]
      rw [e]; exact fl_no _ _ _
    · have hne : ∀ j : Nat, j < c → x ≠ pos p n j := fun j hj' he => hj ⟨j, hj', he⟩
      have e : sOf (nextSp (p, w) c n).1 (nextSp (p, w) c n).2 x = sOf p w x := by
        unfold sOf nextSp
        by_cases a1 : p + (c : Int) ≥ n
        · simp only [if_pos a1]
          by_cases a2 : x ≥ p
          · exfalso
            refine hne (x - p).toNat (by omega) ?_
            unfold pos; rw [if_neg (by omega)]; omega
          · by_cases a3 : x ≥ p + (c : Int) - n
            · rw [if_pos a3, if_neg a2]
            · exfalso
              refine hne (x + n - p).toNat (by omega) ?_
              unfold pos; rw [if_pos (by omega)]; omega
        · simp only [if_neg a1]
          by_cases a2 : x ≥ p + (c : Int)
          · rw [if_pos a2, if_pos (by omega)]
          · by_cases a3 : x ≥ p
            · exfalso
              refine hne (x - p).toNat (by omega) ?_
              unfold pos; rw [if_neg (by omega)]; omega
            · rw [if_neg a2, if_neg a3]
      rw [e]; exact h3 x x0 x1 hne
end
end Go.Proofs.Ytjdhepioehfmhaa
