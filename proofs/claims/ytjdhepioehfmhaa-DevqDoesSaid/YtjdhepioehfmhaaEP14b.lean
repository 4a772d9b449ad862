/- What devq.Queue.Next comes to: a plain function of the queue and of memory's bytes. -/
import Derived.Test.YtjdhepioehfmhaaEP14a
namespace Go.Proofs.Ytjdhepioehfmhaa
open Go.Aq Go.IntWalk
set_option linter.unusedVariables false
abbrev D4 := Int × Int × Int × Int
abbrev P3 := Int × Int × Bool
def descP (s : ByteArray) : D4 := (bl s 8 8, bl s 12 4, bl s 14 2, bl s 16 2)
theorem Parse_S (k : Nat) (hk : 9 ≤ k) (s : ByteArray) (h : s.size = 16) : F_desc_Parse.S k s = .ok (descP s, 0) := by
  unfold F_desc_Parse.S
  have g1 : F_words_Get.S k s (0 : Int) (8 : Int) false = _ := GetL_S k hk s (by omega) 0 8 (by omega) (by omega)
  have g2 : F_words_Get.S k s (8 : Int) (4 : Int) false = _ := GetL_S k hk s (by omega) 8 4 (by omega) (by omega)
  have g3 : F_words_Get.S k s (12 : Int) (2 : Int) false = _ := GetL_S k hk s (by omega) 12 2 (by omega) (by omega)
  have g4 : F_words_Get.S k s (14 : Int) (2 : Int) false = _ := GetL_S k hk s (by omega) 14 2 (by omega) (by omega)
  rw [if_pos (by omega)] at g1 g2 g3 g4
  have b2 := bl_lo s 12 4; have b3 := bl_lo s 14 2; have b4 := bl_lo s 16 2
  rw [show (256 : Int) ^ 4 = 4294967296 from rfl] at b2
  rw [show (256 : Int) ^ 2 = 65536 from rfl] at b3 b4
  rw [O.cond_neg (by omega), g1, O.bind_ok, g2, O.bind_ok, g3, O.bind_ok, g4, O.bind_ok]
  show O.ok ((_, IntKind.u32.wrap (bl s 12 4), IntKind.i64.wrap (bl s 14 2), IntKind.i64.wrap (bl s 16 2)), (0 : Int)) = _
  rw [u32_in _ (by omega), i64_in _ (by omega), i64_in _ (by omega)]; rfl
/-- A descriptor at a place of memory. -/
def rdD (b : List Int) (a : Int) : D4 := descP (strOf (sub b a 16))
/-- Memory, read. -/
def sameM (g g' : TM) : Prop := g'.1 = g.1 ∧ g'.2.1 = g.2.1 ∧ g'.2.2.length ≤ 8192
theorem sameM_refl {g : TM} (h : okM g) : sameM g g := ⟨rfl, rfl, h.2⟩
theorem sameM_trans {a b c : TM} (h : sameM a b) (h2 : sameM b c) : sameM a c := ⟨h2.1.trans h.1, h2.2.1.trans h.2.1, h2.2.2⟩
theorem sameM_ok {a b : TM} (h : okM a) (h2 : sameM a b) : okM b := ⟨by rw [h2.1]; exact h.1, h2.2.2⟩
theorem sameM_rd {g : TM} (a n : Int) (h : okM g) : sameM g (rdM g a n) := ⟨rfl, rfl, noteM_len _ _ _ _ h.2⟩
theorem sub_len (b : List Int) (a n : Int) (h : 0 ≤ a ∧ 0 ≤ n ∧ a + n ≤ b.length) : (sub b a n).length = n.toNat := by
  unfold sub; rw [List.length_take, List.length_drop]; omega
theorem Read16_S (k : Nat) (a : Int) (g : TM) (h : okM g) (ha : 0 ≤ a ∧ a + 16 ≤ g.1.length) : F_gmem_Memory_Read.S k a 16 g = .ok ((strOf (sub g.1 a 16), 0), rdM g a 16) := by
  rw [Read_S k a 16 g h, if_neg (by omega), if_pos (mayM_iff.2 (by omega))]
theorem Parse16_S (k : Nat) (hk : 9 ≤ k) (a : Int) (b : List Int) (ha : 0 ≤ a ∧ a + 16 ≤ b.length) : F_desc_Parse.S k (strOf (sub b a 16)) = .ok (rdD b a, 0) := by
  rw [Parse_S k hk _ (by rw [size_strOf, sub_len _ _ _ (by omega)]; rfl)]; rfl
/-- A place further in a ring. -/
def nextSp (s : Int × Bool) (n size : Int) : Int × Bool := if s.1 + n ≥ size then (s.1 + n - size, !s.2) else (s.1 + n, s.2)
theorem spotNext_S (k : Nat) (s : Int × Bool) (n size : Int) (hs : 0 ≤ s.1 ∧ s.1 < size) (hz : size ≤ 32768) (hn : 0 ≤ n ∧ n ≤ size) : F_spot_Next.S k s n size = .ok (nextSp s n size, 0) := by
  have hc : F_spot_Check.S k s size = .ok 0 := by
    unfold F_spot_Check.S
    rw [O.cond_neg (by omega), O.cond_neg (by omega), O.cond_neg (by omega), O.cond_neg (by omega)]
  unfold F_spot_Next.S
  rw [hc, O.bind_ok, O.cond_neg (by omega), O.cond_neg (by omega), O.cond_neg (by omega), i64_in (s.1 + n) (by omega)]
  unfold nextSp
  by_cases h : s.1 + n ≥ size
  · rw [O.cond_pos h, if_pos h, i64_in _ (by omega)]
  · rw [O.cond_neg h, if_neg h]
theorem nextSp_in (s : Int × Bool) (n size : Int) (hs : 0 ≤ s.1 ∧ s.1 < size) (hn : 0 ≤ n ∧ n ≤ size) : 0 ≤ (nextSp s n size).1 ∧ (nextSp s n size).1 < size := by
  unfold nextSp; split <;> simp <;> omega
/-! ### Parts -/
def partP (n : Int) (d : D4) : Option P3 :=
  if d.1 < 1048576 ∧ d.2.1 > 0 ∧ d.2.1 ≤ 1048576 ∧ mayM (IntKind.i64.wrap d.1) (IntKind.i64.wrap d.2.1) n = true then some (IntKind.i64.wrap d.1, IntKind.i64.wrap d.2.1, decide (bAnd .i64 d.2.2.2 2 ≠ 0)) else none
theorem part_S (k : Nat) (d : D4) (q : TQ) (g : TM) (h : okM g) : F_devq_Queue_part.S k d q g = .ok (match partP g.1.length d with | none => .inl (q, g) | some p => .inr (p, (q, g))) := by
  unfold F_devq_Queue_part.S partP
  by_cases h1 : d.1 < 1048576
  · rw [O.cond_pos h1]
    by_cases h2 : d.2.1 > 0
    · rw [O.cond_pos h2]
      by_cases h3 : d.2.1 ≤ 1048576
      · rw [decide_eq_true h3, Bool.not_true, O.cond_false, May_S _ _ _ _ h.1, O.bind_ok]
        by_cases h4 : mayM (IntKind.i64.wrap d.1) (IntKind.i64.wrap d.2.1) g.1.length = true
        · rw [h4, Bool.not_true, O.cond_false, if_pos ⟨h1, h2, h3, rfl⟩]
        · rw [Bool.not_eq_true] at h4
          rw [h4, Bool.not_false, O.cond_true, if_neg (fun x => by have := x.2.2.2; simp at this)]
      · rw [decide_eq_false h3, Bool.not_false, O.cond_true, if_neg (by omega)]
    · rw [O.cond_neg h2, if_neg (by omega)]
  · rw [O.cond_neg h1, if_neg (by omega)]
def partsP (n : Int) : List D4 → Bool → List P3 → Option (List P3)
  | [], _, acc => some acc
  | d :: r, w, acc => match partP n d with
    | none => none
    | some p => if p.2.2 = true ∨ w = false then partsP n r p.2.2 (acc ++ [p]) else none
def flatQ {α : Type} (P : Int → Int → Int → Int → Int → Bool → Int → Bool → Int → Bool → Int → Int → Bool → α) (q : TQ) : α := P q.1.1 q.1.2.1 q.1.2.2.1 q.1.2.2.2 q.2.1.1 q.2.1.2 q.2.2.1.1 q.2.2.1.2 q.2.2.2.1.1 q.2.2.2.1.2 q.2.2.2.2.1 q.2.2.2.2.2.1 q.2.2.2.2.2.2
abbrev OC := O ((TQ × TM) ⊕ ((Int × Int × List P3) × TQ × TM))
theorem drop_at {α : Type} (L : List α) (i : Nat) (h : i < L.length) : L.drop i = L[i] :: L.drop (i + 1) := List.drop_eq_getElem_cons h
theorem gt_at {α : Type} (z : α) (L : List α) (i : Nat) (h : i < L.length) : gt z L (i : Int) = L[i] := by unfold gt; rw [Int.toNat_natCast, List.getD_eq_getElem?_getD, List.getElem?_eq_getElem h]; rfl
theorem parts3_S (k : Nat) (x : Int) (L : List D4) (R0 : Int → Int → Int → Int → List D4 → Int → Bool → List Int → List (Int × Int × Int × Bool) → Int → OC) (R1 : Int → OC) (q : TQ) (g : TM) (h : okM g) (hL : L.length ≤ 1000000) :
    ∀ (m i j : Nat), i + m = L.length → m < j → ∀ (w : Bool) (acc : List P3), acc.length ≤ i → flatQ (F_devq_Queue_chain.l3 k x L R0 R1 j w (i : Int) g.1 g.2.2 acc) q g.2.1 = .ok (match partsP g.1.length (L.drop i) w acc with | none => .inl (q, g) | some ps => .inr ((x, (L.length : Int), ps), (q, g))) := by
  intro m
  induction m with
  | zero =>
    intro i j hi hj w acc ha
    obtain ⟨j, rfl⟩ : ∃ i, j = i + 1 := ⟨j - 1, by omega⟩
    show F_devq_Queue_chain.l3_b k x L R0 R1 _ _ _ _ _ _ _ _ _ _ _ _ _ _ _ _ _ _ _ _ = _
    unfold F_devq_Queue_chain.l3_b
    rw [O.cond_neg (by omega), List.drop_eq_nil_of_le (by omega)]; rfl
  | succ m ih =>
    intro i j hi hj w acc ha
    obtain ⟨j, rfl⟩ : ∃ i, j = i + 1 := ⟨j - 1, by omega⟩
    show F_devq_Queue_chain.l3_b k x L R0 R1 _ _ _ _ _ _ _ _ _ _ _ _ _ _ _ _ _ _ _ _ = _
    unfold F_devq_Queue_chain.l3_b
    rw [O.cond_pos (by omega), O.chk_dec (by omega), O.chk_dec (by omega), gt_at _ _ _ (by omega), drop_at _ _ (by omega : i < L.length)]
    unfold partsP
    have e := part_S k L[i] q g h
    rw [show ((g.1, g.2.1, g.2.2) : TM) = g from rfl, show (((q.1.1, q.1.2.1, q.1.2.2.1, q.1.2.2.2), (q.2.1.1, q.2.1.2), (q.2.2.1.1, q.2.2.1.2), (q.2.2.2.1.1, q.2.2.2.1.2), q.2.2.2.2.1, q.2.2.2.2.2.1, q.2.2.2.2.2.2) : TQ) = q from rfl, e]
    cases hp : partP g.1.length L[i] with
    | none => simp only [O.sum_inl]
    | some p =>
      simp only [O.sum_inr]
      cases hw : p.2.2 with
      | true =>
        rw [O.cond_true, O.chk_dec (by simp; omega), i64_in _ (by omega), if_pos (Or.inl rfl)]
        have := ih (i + 1) j (by omega) (by omega) true (acc ++ [p]) (by simp; omega)
        rw [← this]; rfl
      | false =>
        rw [O.cond_false]
        cases w with
        | true =>
          show O.cond true _ _ = _
          rw [O.cond_true, if_neg (by simp)]
        | false =>
          show O.cond false _ _ = _
          rw [O.cond_false, O.chk_dec (by simp; omega), i64_in _ (by omega), if_pos (Or.inr rfl)]
          have := ih (i + 1) j (by omega) (by omega) false (acc ++ [p]) (by simp; omega)
          rw [← this]; rfl
theorem parts2_S (k : Nat) (x : Int) (L0 L : List D4) (q0 : TQ) (g0 : TM) (R0 : Int → Int → Int → Int → List D4 → Int → Bool → List Int → List (Int × Int × Int × Bool) → Int → OC) (R1 : Int → OC) (q : TQ) (g : TM) (h : okM g) (hL : L.length ≤ 1000000) :
    ∀ (m i j : Nat), i + m = L.length → m < j → ∀ (w : Bool) (acc : List P3), acc.length ≤ i → flatQ (F_devq_Queue_chain.l2 k x L0 (L, q0, g0) R0 R1 j w (i : Int) g.1 g.2.2 acc) q g.2.1 = .ok (match partsP g.1.length (L.drop i) w acc with | none => .inl (q, g) | some ps => .inr ((x, (L0.length : Int), ps), (q, g))) := by
  intro m
  induction m with
  | zero =>
    intro i j hi hj w acc ha
    obtain ⟨j, rfl⟩ : ∃ i, j = i + 1 := ⟨j - 1, by omega⟩
    show F_devq_Queue_chain.l2_b k x L0 (L, q0, g0) R0 R1 _ _ _ _ _ _ _ _ _ _ _ _ _ _ _ _ _ _ _ _ = _
    unfold F_devq_Queue_chain.l2_b
    rw [O.cond_neg (by simp; omega), List.drop_eq_nil_of_le (by omega)]; rfl
  | succ m ih =>
    intro i j hi hj w acc ha
    obtain ⟨j, rfl⟩ : ∃ i, j = i + 1 := ⟨j - 1, by omega⟩
    show F_devq_Queue_chain.l2_b k x L0 (L, q0, g0) R0 R1 _ _ _ _ _ _ _ _ _ _ _ _ _ _ _ _ _ _ _ _ = _
    unfold F_devq_Queue_chain.l2_b
    show O.cond (decide ((i : Int) < (L.length : Int))) (O.chk (decide (0 ≤ (i : Int) ∧ (i : Int) < (L.length : Int) ∧ (L.length : Int) ≤ (L.length : Int))) (O.chk (decide (0 ≤ (i : Int) ∧ (i : Int) < (L.length : Int))) (O.sum (F_devq_Queue_part.S k (gt ((0 : Int), (0 : Int), (0 : Int), (0 : Int)) L (i : Int)) q g) _ _))) _ = _
    rw [O.cond_pos (by omega), O.chk_dec (by omega), O.chk_dec (by omega), gt_at _ _ _ (by omega), drop_at _ _ (by omega : i < L.length)]
    unfold partsP
    rw [part_S k L[i] q g h]
    cases hp : partP g.1.length L[i] with
    | none => simp only [O.sum_inl]
    | some p =>
      simp only [O.sum_inr]
      cases hw : p.2.2 with
      | true =>
        rw [O.cond_true, O.chk_dec (by simp; omega), i64_in _ (by omega), if_pos (Or.inl rfl)]
        have := ih (i + 1) j (by omega) (by omega) true (acc ++ [p]) (by simp; omega)
        rw [← this]; rfl
      | false =>
        rw [O.cond_false]
        cases w with
        | true =>
          show O.cond true _ _ = _
          rw [O.cond_true, if_neg (by simp)]
        | false =>
          show O.cond false _ _ = _
          rw [O.cond_false, O.chk_dec (by simp; omega), i64_in _ (by omega), if_pos (Or.inr rfl)]
          have := ih (i + 1) j (by omega) (by omega) false (acc ++ [p]) (by simp; omega)
          rw [← this]; rfl
end Go.Proofs.Ytjdhepioehfmhaa
