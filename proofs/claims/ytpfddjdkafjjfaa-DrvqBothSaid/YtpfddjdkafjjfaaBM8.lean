/- Texts of this proof, joined (7 of them): BP15q, BP15r, BP15s, BP15t, BP15u, BP15v, BPureDrvqBoth.
   Conditions: none but those that stand at each theorem. -/
import Derived.Test.YtpfddjdkafjjfaaBM7
section
namespace Go.Proofs.Ytpfddjdkafjjfaa
open Go.Aq Go.IntWalk
set_option linter.unusedVariables false
abbrev TL := Int × Int × Int × Int
abbrev TQ := (Int × Int × Int × Int) × (Int × Bool) × (Int × Bool) × (Int × Bool) × Int × Int × Bool
structure OkL (l : TL) (n : Int) : Prop where
 lo : 1 ≤ l.2.1
 hi : l.2.1 ≤ 32768
 ring : 0 ≤ l.1 ∧ l.1 + 16 * l.2.1 ≤ n
 drv : 0 ≤ l.2.2.1 ∧ l.2.2.1 + 4 ≤ n
 dev : 0 ≤ l.2.2.2 ∧ l.2.2.2 + 4 ≤ n
abbrev P3 := Int × Int × Bool
theorem sameM_refl {g : TM} (h : okM g) : sameM g g := ⟨rfl, rfl, h.2⟩
theorem sameM_trans {a b c : TM} (h : sameM a b) (h2 : sameM b c) : sameM a c := ⟨h2.1.trans h.1, h2.2.1.trans h.2.1, h2.2.2⟩
theorem sameM_ok {a b : TM} (h : okM a) (h2 : sameM a b) : okM b := ⟨by rw [h2.1]; exact h.1, h2.2.2⟩
theorem sameM_rd {g : TM} (a n : Int) (h : okM g) : sameM g (rdM g a n) := ⟨rfl, rfl, noteM_len _ _ _ _ h.2⟩
theorem Read16_S (k : Nat) (a : Int) (g : TM) (h : okM g) (ha : 0 ≤ a ∧ a + 16 ≤ g.1.length) : F_gmem_Memory_Read.S k a 16 g = .ok ((Go.Aq.strOf (sub g.1 a 16), 0), rdM g a 16) := by
 rw [Read_S k a 16 g h, if_neg (by omega), if_pos (mayM_iff.2 (by omega))]
theorem Parse16_S (k : Nat) (hk : 9 ≤ k) (a : Int) (b : List Int) (ha : 0 ≤ a ∧ a + 16 ≤ b.length) : F_desc_Parse.S k (Go.Aq.strOf (sub b a 16)) = .ok (rdD b a, 0) := by
 rw [Parse_S k hk _ (by rw [size_strOf, sub_len _ _ _ (by omega)]; rfl)]; rfl
def partP (n : Int) (d : D4) : Option P3 :=
 if d.1 < 1048576 ∧ d.2.1 > 0 ∧ d.2.1 ≤ 1048576 ∧ mayM (IntKind.i64.wrap d.1) (IntKind.i64.wrap d.2.1) n = true then some (IntKind.i64.wrap d.1, IntKind.i64.wrap d.2.1, decide (bAnd .i64 d.2.2.2 2 ≠ 0)) else none
theorem part_S (k : Nat) (d : D4) (q : TQ) (g : TM) (h : okM g) : F_devq_Queue_part.S k d q g = .ok (match partP g.1.length d with | none => .inl (q, g) | some p => .inr (p, (q, g))) := by
 unfold F_devq_Queue_part.S partP
 by_cases h1 : d.1 < 1048576
 ·rw [O.cond_pos h1]
  by_cases h2 : d.2.1 > 0
  ·rw [O.cond_pos h2]
   by_cases h3 : d.2.1 ≤ 1048576
   ·rw [decide_eq_true h3, Bool.not_true, O.cond_false, May_S _ _ _ _ h.1, O.bind_ok]
    by_cases h4 : mayM (IntKind.i64.wrap d.1) (IntKind.i64.wrap d.2.1) g.1.length = true
    ·rw [h4, Bool.not_true, O.cond_false, if_pos ⟨h1, h2, h3, rfl⟩]
    ·rw [Bool.not_eq_true] at h4
     rw [h4, Bool.not_false, O.cond_true, if_neg (fun x => by have := x.2.2.2; simp at this)]
   ·rw [decide_eq_false h3, Bool.not_false, O.cond_true, if_neg (by omega)]
  ·rw [O.cond_neg h2, if_neg (by omega)]
 ·rw [O.cond_neg h1, if_neg (by omega)]
def partsP (n : Int) : List D4 → Bool → List P3 → Option (List P3)
 | [], _, acc => some acc
 | d :: r, w, acc => match partP n d with
  | none => none
  | some p => if p.2.2 = true ∨ w = false then partsP n r p.2.2 (acc ++ [p]) else none
def flatQ {α : Type} (P : Int → Int → Int → Int → Int → Bool → Int → Bool → Int → Bool → Int → Int → Bool → α) (q : TQ) : α := P q.1.1 q.1.2.1 q.1.2.2.1 q.1.2.2.2 q.2.1.1 q.2.1.2 q.2.2.1.1 q.2.2.1.2 q.2.2.2.1.1 q.2.2.2.1.2 q.2.2.2.2.1 q.2.2.2.2.2.1 q.2.2.2.2.2.2
abbrev OC := O ((TQ × TM) ⊕ ((Int × Int × List P3) × TQ × TM))
theorem drop_at {α : Type} (L : List α) (i : Nat) (h : i < L.length) : L.drop i = L[i] :: L.drop (i + 1) := List.drop_eq_getElem_cons h
theorem gt_at {α : Type} (z : α) (L : List α) (i : Nat) (h : i < L.length) : gt z L (i : Int) = L[i] := by unfold gt; rw [Int.toNat_natCast, List.getD_eq_getElem?_getD, List.getElem?_eq_getElem h]; rfl
theorem parts3_S (k : Nat) (x : Int) (L : List D4) (R0 : Int → Int → Int → Int → List D4 → Int → Bool → List Int → List (Int × Int × Int × Bool) → Int → OC) (R1 : Int → OC) (q : TQ) (g : TM) (h : okM g) (hL : L.length ≤ 1000000) :
  ∀ (m i j : Nat), i + m = L.length → m < j → ∀ (w : Bool) (acc : List P3), acc.length ≤ i → flatQ (F_devq_Queue_chain.l3 k x L R0 R1 j w (i : Int) g.1 g.2.2 acc) q g.2.1 = .ok (match partsP g.1.length (L.drop i) w acc with | none => .inl (q, g) | some ps => .inr ((x, (L.length : Int), ps), (q, g))) := by
 intro m
 induction m with
 | zero =>
  intro i j hi hj w acc ha
  obtain ⟨j, rfl⟩ : ∃ i, j = i + 1 := ⟨j - 1, by omega⟩
  show F_devq_Queue_chain.l3_b k x L R0 R1 _ _ _ _ _ _ _ _ _ _ _ _ _ _ _ _ _ _ _ _ = _
  unfold F_devq_Queue_chain.l3_b
  rw [O.cond_neg (by omega), List.drop_eq_nil_of_le (by omega)]; rfl
 | succ m ih =>
  intro i j hi hj w acc ha
  obtain ⟨j, rfl⟩ : ∃ i, j = i + 1 := ⟨j - 1, by omega⟩
  show F_devq_Queue_chain.l3_b k x L R0 R1 _ _ _ _ _ _ _ _ _ _ _ _ _ _ _ _ _ _ _ _ = _
  unfold F_devq_Queue_chain.l3_b
  rw [O.cond_pos (by omega), O.chk_dec (by omega), O.chk_dec (by omega), gt_at _ _ _ (by omega), drop_at _ _ (by omega : i < L.length)]
  unfold partsP
  have e := part_S k L[i] q g h
  rw [show ((g.1, g.2.1, g.2.2) : TM) = g from rfl, show (((q.1.1, q.1.2.1, q.1.2.2.1, q.1.2.2.2), (q.2.1.1, q.2.1.2), (q.2.2.1.1, q.2.2.1.2), (q.2.2.2.1.1, q.2.2.2.1.2), q.2.2.2.2.1, q.2.2.2.2.2.1, q.2.2.2.2.2.2) : TQ) = q from rfl, e]
  cases hp : partP g.1.length L[i] with
  | none => simp only [O.sum_inl]
  | some p =>
   simp only [O.sum_inr]
   cases hw : p.2.2 with
   | true =>
    rw [O.cond_true, O.chk_dec (by simp; omega), i64_in _ (by omega), if_pos (Or.inl rfl)]
    have := ih (i + 1) j (by omega) (by omega) true (acc ++ [p]) (by simp; omega)
    rw [← this]; rfl
   | false =>
    rw [O.cond_false]
    cases w with
    | true =>
     show O.cond true _ _ = _
     rw [O.cond_true, if_neg (by simp)]
    | false =>
     show O.cond false _ _ = _
     rw [O.cond_false, O.chk_dec (by simp; omega), i64_in _ (by omega), if_pos (Or.inr rfl)]
     have := ih (i + 1) j (by omega) (by omega) false (acc ++ [p]) (by simp; omega)
     rw [← this]; rfl
theorem parts2_S (k : Nat) (x : Int) (L0 L : List D4) (q0 : TQ) (g0 : TM) (R0 : Int → Int → Int → Int → List D4 → Int → Bool → List Int → List (Int × Int × Int × Bool) → Int → OC) (R1 : Int → OC) (q : TQ) (g : TM) (h : okM g) (hL : L.length ≤ 1000000) :
  ∀ (m i j : Nat), i + m = L.length → m < j → ∀ (w : Bool) (acc : List P3), acc.length ≤ i → flatQ (F_devq_Queue_chain.l2 k x L0 (L, q0, g0) R0 R1 j w (i : Int) g.1 g.2.2 acc) q g.2.1 = .ok (match partsP g.1.length (L.drop i) w acc with | none => .inl (q, g) | some ps => .inr ((x, (L0.length : Int), ps), (q, g))) := by
 intro m
 induction m with
 | zero =>
  intro i j hi hj w acc ha
  obtain ⟨j, rfl⟩ : ∃ i, j = i + 1 := ⟨j - 1, by omega⟩
  show F_devq_Queue_chain.l2_b k x L0 (L, q0, g0) R0 R1 _ _ _ _ _ _ _ _ _ _ _ _ _ _ _ _ _ _ _ _ = _
  unfold F_devq_Queue_chain.l2_b
  rw [O.cond_neg (by simp; omega), List.drop_eq_nil_of_le (by omega)]; rfl
 | succ m ih =>
  intro i j hi hj w acc ha
  obtain ⟨j, rfl⟩ : ∃ i, j = i + 1 := ⟨j - 1, by omega⟩
  show F_devq_Queue_chain.l2_b k x L0 (L, q0, g0) R0 R1 _ _ _ _ _ _ _ _ _ _ _ _ _ _ _ _ _ _ _ _ = _
  unfold F_devq_Queue_chain.l2_b
  show O.cond (decide ((i : Int) < (L.length : Int))) (O.chk (decide (0 ≤ (i : Int) ∧ (i : Int) < (L.length : Int) ∧ (L.length : Int) ≤ (L.length : Int))) (O.chk (decide (0 ≤ (i : Int) ∧ (i : Int) < (L.length : Int))) (O.sum (F_devq_Queue_part.S k (gt ((0 : Int), (0 : Int), (0 : Int), (0 : Int)) L (i : Int)) q g) _ _))) _ = _
  rw [O.cond_pos (by omega), O.chk_dec (by omega), O.chk_dec (by omega), gt_at _ _ _ (by omega), drop_at _ _ (by omega : i < L.length)]
  unfold partsP
  rw [part_S k L[i] q g h]
  cases hp : partP g.1.length L[i] with
  | none => simp only [O.sum_inl]
  | some p =>
   simp only [O.sum_inr]
   cases hw : p.2.2 with
   | true =>
    rw [O.cond_true, O.chk_dec (by simp; omega), i64_in _ (by omega), if_pos (Or.inl rfl)]
    have := ih (i + 1) j (by omega) (by omega) true (acc ++ [p]) (by simp; omega)
    rw [← this]; rfl
   | false =>
    rw [O.cond_false]
    cases w with
    | true =>
     show O.cond true _ _ = _
     rw [O.cond_true, if_neg (by simp)]
    | false =>
     show O.cond false _ _ = _
     rw [O.cond_false, O.chk_dec (by simp; omega), i64_in _ (by omega), if_pos (Or.inr rfl)]
     have := ih (i + 1) j (by omega) (by omega) false (acc ++ [p]) (by simp; omega)
     rw [← this]; rfl
def resP {α : Type} (o : Option α) (q : TQ) (g : TM) (r : (TQ × TM) ⊕ (α × TQ × TM)) : Prop :=
 match o with
 | none => ∃ g', r = .inl (q, g') ∧ sameM g g'
 | some a => ∃ g', r = .inr (a, (q, g')) ∧ sameM g g'
theorem resP_none {α : Type} {q : TQ} {g g' : TM} (h : sameM g g') : resP (none : Option α) q g (.inl (q, g')) := ⟨g', rfl, h⟩
theorem resP_some {α : Type} {a : α} {q : TQ} {g g' : TM} (h : sameM g g') : resP (some a) q g (.inr (a, (q, g'))) := ⟨g', rfl, h⟩
theorem resP_trans {α : Type} {o : Option α} {q : TQ} {g g1 : TM} {r : (TQ × TM) ⊕ (α × TQ × TM)} (h : sameM g g1) (hr : resP o q g1 r) : resP o q g r := by
 cases o with
 | none => obtain ⟨g', e, s⟩ := hr; exact ⟨g', e, sameM_trans h s⟩
 | some a => obtain ⟨g', e, s⟩ := hr; exact ⟨g', e, sameM_trans h s⟩
def tableP (b : List Int) : Int → Nat → List D4 → Option (List D4)
 | _, 0, acc => some acc
 | a, n + 1, acc => if bAnd .i64 (rdD b a).2.2.2 4 = 0 then tableP b (a + 16) n (acc ++ [rdD b a]) else none
theorem tableP_len (b : List Int) : ∀ (n : Nat) (a : Int) (acc l : List D4), tableP b a n acc = some l → l.length = acc.length + n
 | 0, a, acc, l, h => by simp [tableP] at h; rw [h]; rfl
 | n + 1, a, acc, l, h => by
  unfold tableP at h
  split at h
  ·rw [tableP_len b n _ _ _ h]; simp; omega
  ·cases h
def tabP (b : List Int) (d : D4) : Option (List D4) :=
 if d.2.1 ≤ 1024 ∧ d.2.1 > 0 ∧ Int.tmod d.2.1 16 = 0 ∧ d.1 < 1048576 ∧ mayM d.1 d.2.1 b.length = true then tableP b d.1 (d.2.1 / 16).toNat [] else none
theorem tableL_S (k : Nat) (hk : 9 ≤ k) (d : D4) (q : TQ) (c : Nat) (hr : rngD d) (h1 : d.1 < 1048576) (h2 : d.2.1 = 16 * (c : Int)) (hc : c ≤ 64) :
  ∀ (m i j : Nat), i + m = c → m < j → ∀ (acc : List D4), acc.length ≤ i → ∀ g : TM, okM g → d.1 + d.2.1 ≤ g.1.length →
   O.sat (F_devq_Queue_table.l0 k d q j (16 * (i : Int)) acc g.1 g.2.2 g.2.1) (resP (tableP g.1 (d.1 + 16 * (i : Int)) m acc) q g) := by
 obtain ⟨r1, r2, r3, _⟩ := hr
 intro m
 induction m with
 | zero =>
  intro i j hi hj acc ha g hg hl
  obtain ⟨j, rfl⟩ : ∃ i, j = i + 1 := ⟨j - 1, by omega⟩
  show O.sat (F_devq_Queue_table.l0_b k d q _ _ _ _ _ _) _
  unfold F_devq_Queue_table.l0_b
  rw [i64_in d.2.1 (by omega), O.cond_neg (by omega)]
  exact O.sat_ok (resP_some (sameM_refl hg))
 | succ m ih =>
  intro i j hi hj acc ha g hg hl
  obtain ⟨j, rfl⟩ : ∃ i, j = i + 1 := ⟨j - 1, by omega⟩
  show O.sat (F_devq_Queue_table.l0_b k d q _ _ _ _ _ _) _
  unfold F_devq_Queue_table.l0_b
  rw [i64_in d.2.1 (by omega), O.cond_pos (by omega), i64_in d.1 (by omega), i64_in (d.1 + _) (by omega), show ((g.1, g.2.1, g.2.2) : TM) = g from rfl]
  refine O.sat_eq (Read16_S k _ g hg (by omega)) ?_
  show O.sat (O.cond false _ _) _
  rw [O.cond_false]
  refine O.sat_eq (Parse16_S k hk _ _ (by omega)) ?_
  unfold tableP
  by_cases hf : bAnd .i64 (rdD g.1 (d.1 + 16 * (i : Int))).2.2.2 4 = 0
  ·rw [if_pos hf]
   show O.sat (O.cond (!decide (bAnd .i64 (rdD g.1 (d.1 + 16 * (i : Int))).2.2.2 4 = 0)) _ _) _
   rw [decide_eq_true hf, Bool.not_true, O.cond_false, O.chk_dec (by simp; omega), i64_in _ (by omega)]
   have := ih (i + 1) j (by omega) (by omega) (acc ++ [rdD g.1 (d.1 + 16 * (i : Int))]) (by simp; omega) (rdM g (d.1 + 16 * (i : Int)) 16) (sameM_ok hg (sameM_rd _ _ hg)) hl
   rw [show 16 * (i : Int) + 16 = 16 * ((i + 1 : Nat) : Int) by push_cast; omega, show d.1 + 16 * (i : Int) + 16 = d.1 + 16 * ((i + 1 : Nat) : Int) by push_cast; omega]
   exact O.sat_mono this fun r hr => resP_trans (sameM_rd _ _ hg) hr
  ·rw [if_neg hf]
   show O.sat (O.cond (!decide (bAnd .i64 (rdD g.1 (d.1 + 16 * (i : Int))).2.2.2 4 = 0)) _ _) _
   rw [decide_eq_false hf, Bool.not_false, O.cond_true]
   exact O.sat_ok (resP_none (sameM_rd _ _ hg))
theorem table_S (k : Nat) (hk : 70 ≤ k) (d : D4) (q : TQ) (hr : rngD d) (g : TM) (hg : okM g) : O.sat (F_devq_Queue_table.S k d q g) (resP (tabP g.1 d) q g) := by
 have hr' := hr
 obtain ⟨r1, r2, r3, _⟩ := hr'
 unfold F_devq_Queue_table.S F_devq_Queue_table.top
 rw [i64_in d.2.1 (by omega)]
 unfold tabP
 by_cases a1 : d.2.1 ≤ 1024
 ·rw [O.cond_pos a1]
  by_cases a2 : d.2.1 > 0
  ·rw [O.cond_pos a2]
   by_cases a3 : Int.tmod d.2.1 16 = 0
   ·rw [O.cond_pos a3]
    by_cases a4 : d.1 < 1048576
    ·rw [O.cond_pos a4, i64_in d.1 (by omega), May_S _ _ _ _ hg.1, O.bind_ok]
     by_cases a5 : mayM d.1 d.2.1 g.1.length = true
     ·rw [a5, Bool.not_true, O.cond_false, if_pos ⟨a1, a2, a3, a4, rfl⟩]
      have a5' := mayM_iff.1 a5
      rw [rem_in _ _ r2] at a3
      have := tableL_S k (by omega) d q (d.2.1 / 16).toNat hr a4 (by omega) (by omega) (d.2.1 / 16).toNat 0 k (by omega) (by omega) [] (by simp) g hg (by omega)
      rw [show d.1 + 16 * ((0 : Nat) : Int) = d.1 by omega] at this
      exact this
     ·rw [Bool.not_eq_true] at a5
      rw [a5, Bool.not_false, O.cond_true, if_neg (fun x => by have := x.2.2.2.2; simp at this)]
      exact O.sat_ok (resP_none (sameM_refl hg))
    ·rw [O.cond_neg a4, if_neg (by omega)]; exact O.sat_ok (resP_none (sameM_refl hg))
   ·rw [O.cond_neg a3, if_neg (by omega)]; exact O.sat_ok (resP_none (sameM_refl hg))
  ·rw [O.cond_neg a2, if_neg (by omega)]; exact O.sat_ok (resP_none (sameM_refl hg))
 ·rw [O.cond_neg a1, if_neg (by omega)]; exact O.sat_ok (resP_none (sameM_refl hg))
abbrev CH := Int × Int × List P3
def tailP (b : List Int) (L : List D4) (d : D4) : Option CH :=
 if bAnd .i64 d.2.2.2 4 ≠ 0 then match tabP b d with
  | none => none
  | some T => match partsP b.length T false [] with
   | none => none
   | some ps => some (d.2.2.1, (L.length : Int), ps)
 else match partsP b.length L false [] with
  | none => none
  | some ps => some (d.2.2.1, (L.length : Int), ps)
def loneP (n : Int) (L : List D4) : Bool := L.all fun x => decide (bAnd .i64 x.2.2.2 4 = 0) || decide (n = 1)
def endP (b : List Int) (L : List D4) (d : D4) : Option CH := if loneP L.length L = true then tailP b L d else none
def chainR (b : List Int) (q : TQ) : Nat → List D4 → D4 → Int × Bool → Option CH
 | 0, _, _, _ => none
 | m + 1, L, d, s =>
  if bAnd .i64 d.2.2.2 1 ≠ 0 then
   (if (L.length : Int) < min 64 (q.1.2.1 - q.2.2.2.2.2.1) then chainR b q m (L ++ [rdD b (q.1.1 + 16 * (nextSp s 1 q.1.2.1).1)]) (rdD b (q.1.1 + 16 * (nextSp s 1 q.1.2.1).1)) (nextSp s 1 q.1.2.1) else none)
  else endP b L d
theorem sameM_len {g g' : TM} (h : sameM g g') : g'.1.length = g.1.length := by rw [h.1]
theorem chain1_S (k : Nat) (hk : 80 ≤ k) (q : TQ) (d : D4) (hd : rngD d) (L : List D4) (hL : L.length ≤ 64) (g : TM) (hg : okM g) (R0 : Int → Int → Int → Int → List D4 → Int → Bool → List Int → List (Int × Int × Int × Bool) → Int → OC) :
  ∀ (m i j : Nat), i + m = L.length → m < j → O.sat (F_devq_Queue_chain.l1 k q d.1 d.2.1 d.2.2.1 d.2.2.2 L g.1 g.2.2 g.2.1 R0 j (i : Int)) (resP (if loneP L.length (L.drop i) = true then tailP g.1 L d else none) q g) := by
 intro m
 induction m with
 | zero =>
  intro i j hi hj
  obtain ⟨j, rfl⟩ : ∃ i, j = i + 1 := ⟨j - 1, by omega⟩
  show O.sat (F_devq_Queue_chain.l1_b k q d.1 d.2.1 d.2.2.1 d.2.2.2 L g.1 g.2.2 g.2.1 R0 _ _ _ _) _
  unfold F_devq_Queue_chain.l1_b
  rw [O.cond_neg (by omega), List.drop_eq_nil_of_le (by omega), if_pos (by rfl)]
  unfold tailP
  by_cases h4 : bAnd .i64 d.2.2.2 4 ≠ 0
  ·rw [O.cond_pos h4, if_pos h4]
   obtain ⟨r, hr, hp⟩ := table_S k (by omega) d q hd g hg
   rw [show ((d.1, d.2.1, d.2.2.1, d.2.2.2) : D4) = d from rfl, show ((g.1, g.2.1, g.2.2) : TM) = g from rfl, hr]
   cases ht : tabP g.1 d with
   | none =>
    rw [ht] at hp
    obtain ⟨g', rfl, hs⟩ := hp
    rw [O.sum_inl]; exact O.sat_ok (resP_none hs)
   | some T =>
    rw [ht] at hp
    obtain ⟨g', rfl, hs⟩ := hp
    have hT : T.length ≤ 64 := by
     unfold tabP at ht
     split at ht
     ·rw [tableP_len _ _ _ _ _ ht]; simp; omega
     ·cases ht
    rw [O.sum_inr]
    have := parts2_S k d.2.2.1 L T q g' R0 (F_devq_Queue_chain.l1 k q d.1 d.2.1 d.2.2.1 d.2.2.2 L g.1 g.2.2 g.2.1 R0 j) q g' (sameM_ok hg hs) (by omega) T.length 0 k (by omega) (by omega) false [] (by simp)
    rw [sameM_len hs, List.drop_zero] at this
    refine O.sat_mono ⟨_, this, rfl⟩ fun r hr => ?_
    subst hr
    show resP (match partsP g.1.length T false [] with | none => none | some ps => some (d.2.2.1, (L.length : Int), ps)) q g _
    cases partsP g.1.length T false [] with
    | none => exact resP_none hs
    | some ps => exact resP_some hs
  ·rw [O.cond_neg h4, if_neg h4]
   have := parts3_S k d.2.2.1 L R0 (F_devq_Queue_chain.l1 k q d.1 d.2.1 d.2.2.1 d.2.2.2 L g.1 g.2.2 g.2.1 R0 j) q g hg (by omega) L.length 0 k (by omega) (by omega) false [] (by simp)
   rw [List.drop_zero] at this
   refine O.sat_mono ⟨_, this, rfl⟩ fun r hr => ?_
   subst hr
   cases partsP g.1.length L false [] with
   | none => exact resP_none (sameM_refl hg)
   | some ps => exact resP_some (sameM_refl hg)
 | succ m ih =>
  intro i j hi hj
  obtain ⟨j, rfl⟩ : ∃ i, j = i + 1 := ⟨j - 1, by omega⟩
  show O.sat (F_devq_Queue_chain.l1_b k q d.1 d.2.1 d.2.2.1 d.2.2.2 L g.1 g.2.2 g.2.1 R0 _ _ _ _) _
  unfold F_devq_Queue_chain.l1_b
  rw [O.cond_pos (by omega), O.chk_dec (by omega), O.chk_dec (by omega), gt_at _ _ _ (by omega), drop_at _ _ (by omega : i < L.length)]
  have ih' := ih (i + 1) j (by omega) (by omega)
  unfold loneP at ih' ⊢
  rw [List.all_cons]
  by_cases h4 : bAnd .i64 L[i].2.2.2 4 = 0
  ·rw [O.cond_pos h4, decide_eq_true h4, Bool.true_or, Bool.true_and, i64_in _ (by omega)]
   exact ih'
  ·rw [O.cond_neg h4, decide_eq_false h4, Bool.false_or]
   by_cases h1 : (L.length : Int) = 1
   ·rw [decide_eq_true h1, Bool.true_and, Bool.not_true, O.cond_false, i64_in _ (by omega)]
    rw [decide_eq_true h1] at ih'
    exact ih'
   ·rw [decide_eq_false h1, Bool.false_and, Bool.not_false, O.cond_true, if_neg (by decide)]
    exact O.sat_ok (resP_none (sameM_refl hg))
structure OkQ (q : TQ) (n : Int) : Prop where
 l : OkL q.1 n
 next : 0 ≤ q.2.1.1 ∧ q.2.1.1 < q.1.2.1
 back : 0 ≤ q.2.2.1.1 ∧ q.2.2.1.1 < q.1.2.1
 told : 0 ≤ q.2.2.2.1.1 ∧ q.2.2.2.1.1 < q.1.2.1
 since : 0 ≤ q.2.2.2.2.1 ∧ q.2.2.2.2.1 ≤ 2 * q.1.2.1
 out : 0 ≤ q.2.2.2.2.2.1 ∧ q.2.2.2.2.2.1 ≤ q.1.2.1
theorem chain0_S (k : Nat) (hk : 80 ≤ k) (q : TQ) :
  ∀ (m j : Nat), m < j → ∀ (L : List D4) (d : D4) (s : Int × Bool) (g : TM), okM g → OkQ q g.1.length → rngD d → 0 ≤ s.1 ∧ s.1 < q.1.2.1 → L.length + m = 65 → L.length ≤ 64 →
   O.sat (F_devq_Queue_chain.l0 k q j d.1 d.2.1 d.2.2.1 d.2.2.2 L s.1 s.2 g.1 g.2.2 g.2.1) (resP (chainR g.1 q m L d s) q g) := by
 intro m
 induction m with
 | zero => intro j hj L d s g hg hq hd hs h1 h2; omega
 | succ m ih =>
  intro j hj L d s g hg hq hd hs h1 h2
  obtain ⟨j, rfl⟩ : ∃ i, j = i + 1 := ⟨j - 1, by omega⟩
  show O.sat (F_devq_Queue_chain.l0_b k q _ _ _ _ _ _ _ _ _ _ _ _) _
  unfold F_devq_Queue_chain.l0_b chainR
  by_cases hn : bAnd .i64 d.2.2.2 1 ≠ 0
  ·rw [O.cond_pos hn, if_pos hn]
   have ol := hq.l.lo; have oh := hq.l.hi; have or := hq.l.ring; have oo := hq.out
   rw [i64_in (q.1.2.1 - _) (by omega)]
   by_cases hm : (L.length : Int) < min 64 (q.1.2.1 - q.2.2.2.2.2.1)
   ·rw [decide_eq_true hm, Bool.not_true, O.cond_false, if_pos hm]
    refine O.sat_eq (spotNext_S k s 1 q.1.2.1 hs oh (by omega)) ?_
    have hs' := nextSp_in s 1 q.1.2.1 hs (by omega)
    have l1 := hg.1
    generalize nextSp s 1 q.1.2.1 = s' at hs' ⊢
    show O.sat (O.bind (F_gmem_Memory_Read.S k (IntKind.i64.wrap (q.1.1 + (IntKind.i64.wrap ((16 : Int) * s'.1)))) (16 : Int) g) _) _
    rw [i64_in (16 * s'.1) (by omega), i64_in _ (by omega)]
    refine O.sat_eq (Read16_S k _ g hg (by omega)) ?_
    show O.sat (O.cond false _ _) _
    rw [O.cond_false]
    refine O.sat_eq (Parse16_S k (by omega) _ _ (by omega)) ?_
    rw [O.chk_dec (by simp; omega)]
    have := ih j (by omega) (L ++ [rdD g.1 (q.1.1 + 16 * s'.1)]) (rdD g.1 (q.1.1 + 16 * s'.1)) s' (rdM g (q.1.1 + 16 * s'.1) 16) (sameM_ok hg (sameM_rd _ _ hg)) hq (rdD_rng _ _) hs' (by simp; omega) (by simp; omega)
    exact O.sat_mono this fun r hr => resP_trans (sameM_rd _ _ hg) hr
   ·rw [decide_eq_false hm, Bool.not_false, O.cond_true, if_neg hm]
    exact O.sat_ok (resP_none (sameM_refl hg))
  ·rw [O.cond_neg hn, if_neg hn]
   have := chain1_S k hk q d hd L h2 g hg (F_devq_Queue_chain.l0 k q j) L.length 0 k (by omega) (by omega)
   rw [List.drop_zero] at this
   exact this
theorem chain_S (k : Nat) (hk : 80 ≤ k) (d : D4) (q : TQ) (g : TM) (hg : okM g) (hq : OkQ q g.1.length) (hd : rngD d) : O.sat (F_devq_Queue_chain.S k d q g) (resP (chainR g.1 q 64 [d] d q.2.1) q g) := by
 unfold F_devq_Queue_chain.S F_devq_Queue_chain.top
 exact chain0_S k hk q 64 k (by omega) [d] d q.2.1 g hg hq hd hq.next rfl (by simp)
def availP (f : Int) (w : Bool) : Bool := (decide (bAnd .i64 f 128 ≠ 0) != decide (bAnd .i64 f 32768 ≠ 0)) && (decide (bAnd .i64 f 128 ≠ 0) == w)
theorem Avail_S (k : Nat) (f : Int) (w : Bool) : F_desc_Avail.S k f w = .ok (availP f w) := by
 unfold F_desc_Avail.S F_desc_says.S availP
 generalize decide (bAnd .i64 f 128 ≠ 0) = a
 generalize decide (bAnd .i64 f 32768 ≠ 0) = u
 cases a <;> cases u <;> cases w <;> simp
def zeroC : CH := (0, 0, [])
def nextR (q : TQ) (b : List Int) : (CH × Bool × Int) × TQ :=
 if q.2.2.2.2.2.2 = true then ((zeroC, false, 141), q)
 else if q.2.2.2.2.2.1 ≥ q.1.2.1 then ((zeroC, false, 0), q)
 else if availP (rdD b (q.1.1 + 16 * q.2.1.1)).2.2.2 q.2.1.2 = true then
  match chainR b q 64 [rdD b (q.1.1 + 16 * q.2.1.1)] (rdD b (q.1.1 + 16 * q.2.1.1)) q.2.1 with
  | none => ((zeroC, false, 141), (q.1, q.2.1, q.2.2.1, q.2.2.2.1, q.2.2.2.2.1, q.2.2.2.2.2.1, true))
  | some c => ((c, true, 0), (q.1, nextSp q.2.1 c.2.1 q.1.2.1, q.2.2.1, q.2.2.2.1, q.2.2.2.2.1, q.2.2.2.2.2.1 + c.2.1, q.2.2.2.2.2.2))
 else ((zeroC, false, 0), q)
theorem partsP_len (n : Int) : ∀ (L : List D4) (w : Bool) (acc ps : List P3), partsP n L w acc = some ps → ps.length = acc.length + L.length
 | [], w, acc, ps, h => by simp [partsP] at h; rw [h]; rfl
 | d :: r, w, acc, ps, h => by
  unfold partsP at h
  split at h
  ·cases h
  ·split at h
   ·rw [partsP_len n r _ _ _ h]; simp; omega
   ·cases h
theorem tabP_len {b : List Int} {d : D4} {T : List D4} (h : tabP b d = some T) : T.length ≤ 64 := by
 unfold tabP at h
 split at h
 ·rw [tableP_len _ _ _ _ _ h]; simp; omega
 ·cases h
theorem chainR_some (b : List Int) (q : TQ) : ∀ (m : Nat) (L : List D4) (d : D4) (s : Int × Bool) (c : CH), chainR b q m L d s = some c → 1 ≤ L.length → (L.length : Int) ≤ min 64 (q.1.2.1 - q.2.2.2.2.2.1) → 1 ≤ c.2.1 ∧ c.2.1 ≤ min 64 (q.1.2.1 - q.2.2.2.2.2.1) ∧ c.2.2.length ≤ 64
 | 0, L, d, s, c, h, _, _ => by cases h
 | m + 1, L, d, s, c, h, h1, h2 => by
  unfold chainR at h
  split at h
  ·split at h
   ·exact chainR_some b q m _ _ _ c h (by simp) (by simp; omega)
   ·cases h
  ·unfold endP tailP at h
   split at h
   ·split at h
    ·split at h
     ·cases h
     ·rename_i T hT
      split at h
      ·cases h
      ·rename_i ps hps
       cases h
       have := partsP_len _ _ _ _ _ hps
       have := tabP_len hT
       simp at *; omega
    ·split at h
     ·cases h
     ·rename_i ps hps
      cases h
      have := partsP_len _ _ _ _ _ hps
      simp at *; omega
   ·cases h
theorem DNext_S (k : Nat) (hk : 80 ≤ k) (q : TQ) (g : TM) (hg : okM g) (hq : OkQ q g.1.length) :
  O.sat (F_devq_Queue_Next.S k q g) fun r => r.1 = (nextR q g.1).1 ∧ r.2.1 = (nextR q g.1).2 ∧ sameM g r.2.2 := by
 unfold F_devq_Queue_Next.S F_devq_Queue_Next.top nextR
 have ol := hq.l.lo; have oh := hq.l.hi; have or := hq.l.ring; have oo := hq.out; have on := hq.next; have l1 := hg.1
 cases hb : q.2.2.2.2.2.2 with
 | true => rw [O.cond_true]; exact O.sat_ok ⟨rfl, rfl, sameM_refl hg⟩
 | false =>
  rw [O.cond_false, if_neg (by decide)]
  by_cases h1 : q.2.2.2.2.2.1 ≥ q.1.2.1
  ·rw [O.cond_pos h1, if_pos h1]; exact O.sat_ok ⟨rfl, rfl, sameM_refl hg⟩
  ·rw [O.cond_neg h1, if_neg h1]
   refine O.sat_twice ?_
   rw [i64_in (16 * _) (by omega), i64_in _ (by omega)]
   refine O.sat_eq (Read16_S k _ g hg (by omega)) ?_
   show O.sat (O.cond false _ _) _
   rw [O.cond_false]
   refine O.sat_eq (Parse16_S k (by omega) _ _ (by omega)) ?_
   have hm := sameM_rd (q.1.1 + 16 * q.2.1.1) 16 hg
   have hg' := sameM_ok hg hm
   show O.sat (F_devq_Queue_Next.j4_b k q _ _ _ _ _ _ _) _
   unfold F_devq_Queue_Next.j4_b
   refine O.sat_eq (Avail_S k _ _) ?_
   show O.sat (O.cond (!(availP (rdD g.1 (q.1.1 + 16 * q.2.1.1)).2.2.2 q.2.1.2)) _ _) _
   cases ha : availP (rdD g.1 (q.1.1 + 16 * q.2.1.1)).2.2.2 q.2.1.2 with
   | false => rw [Bool.not_false, O.cond_true, if_neg (by decide)]; exact O.sat_ok ⟨rfl, rfl, hm⟩
   | true =>
    rw [Bool.not_true, O.cond_false, if_pos rfl]
    obtain ⟨r, hr, hp⟩ := chain_S k hk (rdD g.1 (q.1.1 + 16 * q.2.1.1)) q (rdM g (q.1.1 + 16 * q.2.1.1) 16) hg' hq (rdD_rng _ _)
    rw [show F_devq_Queue_chain.S k _ _ _ = _ from hr]
    change resP (chainR g.1 q 64 [rdD g.1 (q.1.1 + 16 * q.2.1.1)] (rdD g.1 (q.1.1 + 16 * q.2.1.1)) q.2.1) q _ r at hp
    cases hc : chainR g.1 q 64 [rdD g.1 (q.1.1 + 16 * q.2.1.1)] (rdD g.1 (q.1.1 + 16 * q.2.1.1)) q.2.1 with
    | none =>
     rw [hc] at hp
     obtain ⟨g', rfl, hs⟩ := hp
     rw [O.sum_inl]; exact O.sat_ok ⟨rfl, rfl, sameM_trans hm hs⟩
    | some c =>
     rw [hc] at hp
     obtain ⟨g', rfl, hs⟩ := hp
     have hcs := chainR_some _ _ _ _ _ _ _ hc (by simp) (by simp; omega)
     rw [O.sum_inr]
     refine O.sat_eq (spotNext_S k q.2.1 c.2.1 q.1.2.1 on oh (by omega)) ?_
     refine O.sat_ok ⟨rfl, ?_, sameM_trans hm hs⟩
     show (q.1, _, q.2.2.1, q.2.2.2.1, q.2.2.2.2.1, IntKind.i64.wrap (q.2.2.2.2.2.1 + c.2.1), q.2.2.2.2.2.2) = _
     rw [i64_in _ (by omega), hb]
def leN (b : List Int) (x : Int) (m : Nat) : Int := bl (Go.Aq.strOf (sub b x m)) m m
theorem sub_sub (b : List Int) (x m y n : Int) (h : 0 ≤ x ∧ 0 ≤ y ∧ 0 ≤ n ∧ y + n ≤ m) : sub (sub b x m) y n = sub b (x + y) n := by
 unfold sub
 rw [List.drop_take, List.drop_drop, List.take_take]
 congr 1
 ·omega
 ·congr 1; omega
theorem rdD_fl (b : List Int) (x : Int) (h : 0 ≤ x ∧ x + 16 ≤ b.length) : (rdD b x).2.2.2 = leN b (x + 14) 2 := by
 unfold rdD descP leN
 show bl (Go.Aq.strOf (sub b x 16)) 16 2 = _
 have e := bl_ext (Go.Aq.strOf (sub b x 16)) 14 16 (by rw [size_strOf, sub_len _ _ _ (by omega)]; decide) 2 (by omega)
 rw [← e, strOf_sub, sub_sub _ _ _ _ _ (by omega)]; rfl
theorem revT_revT (s : ByteArray) : revT (revT s) = s := by
 apply list_eq; simp [revT]
theorem be_put (n : Nat) : ∀ v : Int, 0 ≤ v → v < 256 ^ n → be (putT v n) 0 n = v := by
  induction n with
  | zero => intro v h0 h; have : v = 0 := by rw [Int.pow_zero] at h; omega
            subst this; rfl
  | succ n ih =>
    intro v h0 h
    have e : putT v (n + 1) = putT (v / 256) n ++ Go.Aq.strOf [v % 256] := by unfold putT; rw [wb_snoc v h0 n, strOf_app]
    rw [Int.pow_succ] at h
    unfold be
    rw [e, be_app _ _ 0 n (by rw [putT_size]; omega), ih (v / 256) (by omega) (by omega), bt_app, if_neg (by rw [putT_size]; omega), putT_size]
    have : bt (Go.Aq.strOf [v % 256]) ((0 + n - n : Nat) : Int) = v % 256 := by
      rw [show 0 + n - n = 0 by omega, bt_strOf [v % 256] (by intro x hx; rw [List.mem_singleton] at hx; omega) 0]; rfl
    rw [this]; omega
theorem bl_putL (n : Nat) (v : Int) (h0 : 0 ≤ v) (h : v < 256 ^ n) : bl (putL v n) n n = v := by
 have e := be_rev (putL v n) n (by rw [putL_size]; exact Nat.le_refl n)
 rw [putL_size] at e
 rw [← e]
 unfold putL
 rw [revT_revT]; exact be_put n v h0 h
theorem ext_mid (a b c : ByteArray) (i j : Nat) (hi : a.size = i) (hj : a.size + b.size = j) : (a ++ (b ++ c)).extract i j = b := by
 apply list_eq
 rw [size_list] at hi hj
 rw [size_list] at hj
 rw [ext_list, app_list, app_list, List.drop_append_of_le_length (by omega), ← hi, List.drop_length, List.nil_append, List.take_append_of_le_length (by omega), show j - a.data.toList.length = b.data.toList.length by omega, List.take_length]
theorem app_nil (a : ByteArray) : a ++ ⟨#[]⟩ = a := by apply list_eq; rw [app_list]; simp
def inD (d : D4) : Prop := (0 ≤ d.1 ∧ d.1 < 18446744073709551616) ∧ (0 ≤ d.2.1 ∧ d.2.1 < 4294967296) ∧ (0 ≤ d.2.2.1 ∧ d.2.2.1 < 65536) ∧ (0 ≤ d.2.2.2 ∧ d.2.2.2 < 65536)
theorem descP_dscB (d : D4) (h : inD d) : descP (dscB d) = d := by
 obtain ⟨h1, h2, h3, h4⟩ := h
 have hz := dscB_size d
 have x1 : (dscB d).extract 0 8 = putL d.1 8 := by
  unfold dscB; rw [app_as, app_as]
  exact ext_mid ⟨#[]⟩ (putL d.1 8) _ 0 8 rfl (by rw [putL_size]; rfl)
 have x2 : (dscB d).extract 8 12 = putL d.2.1 4 := by
  unfold dscB; rw [app_as, app_as]
  exact ext_mid (putL d.1 8) (putL d.2.1 4) _ 8 12 (putL_size _ _) (by rw [putL_size, putL_size])
 have x3 : (dscB d).extract 12 14 = putL d.2.2.1 2 := by
  unfold dscB; rw [app_as]
  exact ext_mid (putL d.1 8 ++ putL d.2.1 4) (putL d.2.2.1 2) _ 12 14 (by rw [app_size, putL_size, putL_size]) (by rw [app_size, putL_size, putL_size, putL_size])
 have x4 : (dscB d).extract 14 16 = putL d.2.2.2 2 := by
  have := ext_mid (putL d.1 8 ++ putL d.2.1 4 ++ putL d.2.2.1 2) (putL d.2.2.2 2) ⟨#[]⟩ 14 16 (by rw [app_size, app_size, putL_size, putL_size, putL_size]) (by rw [app_size, app_size, putL_size, putL_size, putL_size, putL_size])
  rw [app_nil] at this; exact this
 have y1 := bl_ext (dscB d) 0 8 (by omega) 8 (by omega)
 have y2 := bl_ext (dscB d) 8 12 (by omega) 4 (by omega)
 have y3 := bl_ext (dscB d) 12 14 (by omega) 2 (by omega)
 have y4 := bl_ext (dscB d) 14 16 (by omega) 2 (by omega)
 rw [x1] at y1
 rw [x2] at y2
 rw [x3] at y3
 rw [x4] at y4
 unfold descP
 rw [← y1, ← y2, ← y3, ← y4]
 show (bl _ 8 8, bl _ 4 4, bl _ 2 2, bl _ 2 2) = d
 rw [bl_putL 8 _ h1.1 (by rw [show (256 : Int) ^ 8 = 18446744073709551616 from rfl]; exact h1.2), bl_putL 4 _ h2.1 (by rw [show (256 : Int) ^ 4 = 4294967296 from rfl]; exact h2.2), bl_putL 2 _ h3.1 (by rw [show (256 : Int) ^ 2 = 65536 from rfl]; exact h3.2), bl_putL 2 _ h4.1 (by rw [show (256 : Int) ^ 2 = 65536 from rfl]; exact h4.2)]
theorem rdD_put (b : List Int) (x : Int) (d : D4) (h : inD d) (hx : 0 ≤ x ∧ x + 16 ≤ b.length) : rdD (putAt b x (bytesOf (dscB d))) x = d := by
 have hl : (bytesOf (dscB d)).length = 16 := by rw [bytesOf_len, dscB_size]
 have := sub_put_same b (bytesOf (dscB d)) x (by omega)
 rw [hl] at this
 unfold rdD
 rw [show (16 : Int) = ((16 : Nat) : Int) from rfl, this, strOf_bytesOf]; exact descP_dscB d h
theorem rdD_off (b ys : List Int) (a x : Int) (h : 0 ≤ a ∧ a + ys.length ≤ b.length) (hx : 0 ≤ x ∧ (x + 16 ≤ a ∨ a + ys.length ≤ x)) : rdD (putAt b a ys) x = rdD b x := by
 unfold rdD; rw [sub_put_off b ys a x 16 h ⟨hx.1, by decide, hx.2⟩]
theorem leN_put (b : List Int) (x v : Int) (m : Nat) (hv : 0 ≤ v ∧ v < 256 ^ m) (hx : 0 ≤ x ∧ x + m ≤ b.length) : leN (putAt b x (bytesOf (putL v m))) x m = v := by
 have hl : (bytesOf (putL v m)).length = m := by rw [bytesOf_len, putL_size]
 have := sub_put_same b (bytesOf (putL v m)) x (by omega)
 rw [hl] at this
 unfold leN
 rw [this, strOf_bytesOf]; exact bl_putL m v hv.1 hv.2
theorem leN_off (b ys : List Int) (a x : Int) (m : Nat) (h : 0 ≤ a ∧ a + ys.length ≤ b.length) (hx : 0 ≤ x ∧ (x + m ≤ a ∨ a + ys.length ≤ x)) : leN (putAt b a ys) x m = leN b x m := by
 unfold leN; rw [sub_put_off b ys a x m h ⟨hx.1, by omega, hx.2⟩]
def usedF (wr w : Bool) : Int := (bif wr then 2 else 0) + (bif w then 32896 else 0)
theorem usedF_in (wr w : Bool) : 0 ≤ usedF wr w ∧ usedF wr w < 65536 := by cases wr <;> cases w <;> decide
theorem dMark_S (k : Nat) (wr w : Bool) : F_desc_Mark.S k (bif wr then 2 else 0) w true = .ok (usedF wr w) := by
 unfold F_desc_Mark.S
 cases wr <;> cases w <;> simp only [O.cond_true, O.cond_false, decide_true, decide_false, reduceCtorEq, cond_true, cond_false] <;> rfl
def doneQ (q : TQ) (c : Int) : TQ := (q.1, q.2.1, nextSp q.2.2.1 c q.1.2.1, q.2.2.2.1, min (q.2.2.2.2.1 + c) (2 * q.1.2.1), q.2.2.2.2.2.1 - c, q.2.2.2.2.2.2)
def doneB (b : List Int) (a wr id : Int) (w : Bool) : List Int :=
 putAt (putAt (putAt b (a + 8) (bytesOf (putL wr 4))) (a + 12) (bytesOf (putL id 2))) (a + 14) (bytesOf (putL (usedF (decide (wr > 0)) w) 2))
theorem doneB_len (b : List Int) (a wr id : Int) (u : Bool) (h : 0 ≤ a ∧ a + 16 ≤ b.length) : (doneB b a wr id u).length = b.length := by
 have l1 : (bytesOf (putL wr 4)).length = 4 := by rw [bytesOf_len, putL_size]
 have l2 : (bytesOf (putL id 2)).length = 2 := by rw [bytesOf_len, putL_size]
 have l3 : (bytesOf (putL (usedF (decide (wr > 0)) u) 2)).length = 2 := by rw [bytesOf_len, putL_size]
 have e1 := putAt_len b (bytesOf (putL wr 4)) (a + 8) (by omega) (by omega)
 have e2 := putAt_len (putAt b (a + 8) (bytesOf (putL wr 4))) (bytesOf (putL id 2)) (a + 12) (by omega) (by omega)
 have e3 := putAt_len (putAt (putAt b (a + 8) (bytesOf (putL wr 4))) (a + 12) (bytesOf (putL id 2))) (bytesOf (putL (usedF (decide (wr > 0)) u) 2)) (a + 14) (by omega) (by omega)
 unfold doneB; omega
def fl (nx wr rd : Bool) : Int := (bif nx then 1 else 0) + (bif wr then 2 else 0) + (bif rd then 128 else 32768)
theorem fl_in (nx wr rd : Bool) : 0 ≤ fl nx wr rd ∧ fl nx wr rd < 65536 := by cases nx <;> cases wr <;> cases rd <;> decide
theorem fl_1 (nx wr rd : Bool) : (bAnd .i64 (fl nx wr rd) 1 ≠ 0) ↔ nx = true := by cases nx <;> cases wr <;> cases rd <;> decide +kernel
theorem fl_2 (nx wr rd : Bool) : decide (bAnd .i64 (fl nx wr rd) 2 ≠ 0) = wr := by cases nx <;> cases wr <;> cases rd <;> decide +kernel
theorem fl_4 (nx wr rd : Bool) : bAnd .i64 (fl nx wr rd) 4 = 0 := by cases nx <;> cases wr <;> cases rd <;> decide +kernel
theorem fl_av (nx wr rd : Bool) : availP (fl nx wr rd) rd = true := by cases nx <;> cases wr <;> cases rd <;> decide +kernel
theorem fl_no (nx wr rd : Bool) : availP (fl nx wr rd) (!rd) = false := by cases nx <;> cases wr <;> cases rd <;> decide +kernel
theorem used_no (wr w r : Bool) : availP (usedF wr w) r = false := by cases wr <;> cases w <;> cases r <;> decide +kernel
theorem doneB_off (b : List Int) (a wr id x : Int) (u : Bool) (h : 0 ≤ a ∧ a + 16 ≤ b.length) (hx : 0 ≤ x ∧ (x + 16 ≤ a ∨ a + 16 ≤ x)) : rdD (doneB b a wr id u) x = rdD b x := by
 have l1 : (bytesOf (putL wr 4)).length = 4 := by rw [bytesOf_len, putL_size]
 have l2 : (bytesOf (putL id 2)).length = 2 := by rw [bytesOf_len, putL_size]
 have l3 : (bytesOf (putL (usedF (decide (wr > 0)) u) 2)).length = 2 := by rw [bytesOf_len, putL_size]
 have e1 := putAt_len b (bytesOf (putL wr 4)) (a + 8) (by omega) (by omega)
 have e2 := putAt_len (putAt b (a + 8) (bytesOf (putL wr 4))) (bytesOf (putL id 2)) (a + 12) (by omega) (by omega)
 unfold doneB
 rw [rdD_off _ _ _ _ (by omega) (by omega), rdD_off _ _ _ _ (by omega) (by omega), rdD_off _ _ _ _ (by omega) (by omega)]
theorem doneB_fl (b : List Int) (a wr id : Int) (u : Bool) (h : 0 ≤ a ∧ a + 16 ≤ b.length) : leN (doneB b a wr id u) (a + 14) 2 = usedF (decide (wr > 0)) u := by
 have l1 : (bytesOf (putL wr 4)).length = 4 := by rw [bytesOf_len, putL_size]
 have l2 : (bytesOf (putL id 2)).length = 2 := by rw [bytesOf_len, putL_size]
 have e1 := putAt_len b (bytesOf (putL wr 4)) (a + 8) (by omega) (by omega)
 have e2 := putAt_len (putAt b (a + 8) (bytesOf (putL wr 4))) (bytesOf (putL id 2)) (a + 12) (by omega) (by omega)
 have := usedF_in (decide (wr > 0)) u
 unfold doneB
 exact leN_put _ _ _ 2 (by rw [show (256 : Int) ^ 2 = 65536 from rfl]; exact this) (by push_cast; omega)
end Go.Proofs.Ytpfddjdkafjjfaa
end
section
namespace Go.Proofs.Ytpfddjdkafjjfaa
open Go.Aq Go.IntWalk
set_option linter.unusedVariables false
def spt (n a : Int) : Int × Bool := (a % n, decide (a / n % 2 = 0))
theorem spt_in (n a : Int) (hn : 1 ≤ n) : 0 ≤ (spt n a).1 ∧ (spt n a).1 < n := ⟨Int.emod_nonneg _ (by omega), Int.emod_lt_of_pos _ (by omega)⟩
theorem spt_is (n a q r : Int) (hr : 0 ≤ r ∧ r < n) (h : r + n * q = a) : spt n a = (r, decide (q % 2 = 0)) := by
 obtain ⟨h1, h2⟩ := Int.ediv_emod_unique (show 0 < n by omega) |>.2 ⟨h, hr.1, hr.2⟩
 unfold spt; rw [h1, h2]
theorem spt_next (n a c : Int) (hn : 1 ≤ n) (hc : 0 ≤ c ∧ c ≤ n) : nextSp (spt n a) c n = spt n (a + c) := by
 have hr := spt_in n a hn
 have hd := Int.emod_add_mul_ediv a n
 unfold nextSp
 by_cases h : (spt n a).1 + c ≥ n
 ·rw [if_pos h, spt_is n (a + c) (a / n + 1) ((spt n a).1 + c - n) (by omega) (by
   rw [Int.mul_add]; unfold spt; simp only; omega)]
  unfold spt
  simp only [Prod.mk.injEq, true_and]
  by_cases h2 : a / n % 2 = 0
  ·rw [decide_eq_true h2, decide_eq_false (by omega)]; rfl
  ·rw [decide_eq_false h2, decide_eq_true (by omega)]; rfl
 ·rw [if_neg h, spt_is n (a + c) (a / n) ((spt n a).1 + c) (by omega) (by unfold spt; simp only; omega)]
  rfl
theorem spt_lap (n a : Int) (hn : 1 ≤ n) : spt n (a + n) = ((spt n a).1, !(spt n a).2) := by
 have hr := spt_in n a hn
 rw [← spt_next n a n hn (by omega)]
 unfold nextSp
 rw [if_pos (by omega)]
 simp
theorem spt_inj (n a t u : Int) (hn : 1 ≤ n) (ht : a ≤ t ∧ t < a + n) (hu : a ≤ u ∧ u < a + n) (h : (spt n t).1 = (spt n u).1) : t = u := by
 have h' : t % n = u % n := h
 have e := Int.emod_eq_emod_iff_emod_sub_eq_zero.1 h'
 have e' := Int.emod_eq_emod_iff_emod_sub_eq_zero.1 h'.symm
 by_cases c : u ≤ t
 ·rw [Int.emod_eq_of_lt (by omega) (by omega)] at e; omega
 ·rw [Int.emod_eq_of_lt (by omega) (by omega)] at e'; omega
theorem spt_rep (n a t : Int) (hn : 1 ≤ n) : ∃ u, (a ≤ u ∧ u < a + n) ∧ (spt n u).1 = (spt n t).1 := by
 have h1 := Int.emod_nonneg (t - a) (show n ≠ 0 by omega)
 have h2 := Int.emod_lt_of_pos (t - a) (show 0 < n by omega)
 refine ⟨a + (t - a) % n, by omega, ?_⟩
 show (a + (t - a) % n) % n = t % n
 rw [Int.add_emod_emod]
 congr 1; omega
abbrev Ent := Int × Int × Int
def sumC : List CH → Int
 | [] => 0
 | c :: P => c.2.1 + sumC P
def sumE : List Ent → Int
 | [] => 0
 | e :: R => e.2.1 + sumE R
theorem sumC_app : ∀ (a b : List CH), sumC (a ++ b) = sumC a + sumC b
 | [], b => by simp [sumC]
 | c :: a, b => by simp only [List.cons_append, sumC, sumC_app a b]; omega
theorem sumE_app : ∀ (a b : List Ent), sumE (a ++ b) = sumE a + sumE b
 | [], b => by simp [sumE]
 | c :: a, b => by simp only [List.cons_append, sumE, sumE_app a b]; omega
structure ChOk (c : CH) : Prop where
 lo : 1 ≤ c.2.2.length
 hi : c.2.2.length ≤ 64
 cnt : c.2.1 = (c.2.2.length : Int)
 id : 0 ≤ c.1 ∧ c.1 ≤ 40000
 al : alF c.2.2 1024 c.2.2.length 0 = true
theorem sumC_nonneg : ∀ {P : List CH}, (∀ c ∈ P, ChOk c) → 0 ≤ sumC P
 | [], _ => by simp [sumC]
 | c :: P, h => by
  have := sumC_nonneg fun c hc => h c (List.mem_cons_of_mem _ hc)
  have h1 := h c List.mem_cons_self
  have := h1.cnt
  simp only [sumC]; omega
theorem sumE_nonneg : ∀ {R : List Ent}, (∀ e ∈ R, 1 ≤ e.2.1) → 0 ≤ sumE R
 | [], _ => by simp [sumE]
 | c :: P, h => by
  have := sumE_nonneg fun c hc => h c (List.mem_cons_of_mem _ hc)
  have h1 := h c List.mem_cons_self
  simp only [sumE]; omega
def rdP (n : Int) (b : List Int) (t : Int) : D4 := rdD b (16 * (spt n t).1)
def dOf (n : Int) (c : CH) (a : Int) (j : Nat) : D4 := ((paP c.2.2 j).1, (paP c.2.2 j).2.1, c.1, fl (decide (j + 1 < c.2.2.length)) (paP c.2.2 j).2.2 (spt n (a + (j : Int))).2)
def PosL (n : Int) (b : List Int) : Int → List CH → Prop
 | _, [] => True
 | a, c :: P => (∀ j : Nat, j < c.2.2.length → rdP n b (a + (j : Int)) = dOf n c a j) ∧ PosL n b (a + c.2.1) P
def RetL (n : Int) (b : List Int) : Int → List Ent → Prop
 | _, [] => True
 | a, e :: R => ((rdP n b a).2.1 = e.2.2 ∧ (rdP n b a).2.2.1 = e.1 ∧ (rdP n b a).2.2.2 = usedF (decide (e.2.2 > 0)) (spt n a).2) ∧ RetL n b (a + e.2.1) R
theorem PosL_congr {n : Int} {b b' : List Int} : ∀ {P : List CH} {a : Int}, (∀ c ∈ P, ChOk c) → (∀ t, a ≤ t → t < a + sumC P → rdP n b' t = rdP n b t) → PosL n b a P → PosL n b' a P
 | [], _, _, _, _ => trivial
 | c :: P, a, h, e, hp => by
  have h1 := h c List.mem_cons_self
  have h2 := sumC_nonneg fun c hc => h c (List.mem_cons_of_mem _ hc)
  have h3 := h1.cnt; have h4 := h1.lo
  refine ⟨fun j hj => ?_, PosL_congr (fun c hc => h c (List.mem_cons_of_mem _ hc)) (fun t t1 t2 => e t (by omega) (by simp only [sumC]; omega)) hp.2⟩
  rw [e _ (by omega) (by simp only [sumC]; omega)]; exact hp.1 j hj
theorem RetL_congr {n : Int} {b b' : List Int} : ∀ {R : List Ent} {a : Int}, (∀ e ∈ R, 1 ≤ e.2.1) → (∀ t, a ≤ t → t < a + sumE R → rdP n b' t = rdP n b t) → RetL n b a R → RetL n b' a R
 | [], _, _, _, _ => trivial
 | c :: P, a, h, e, hp => by
  have h1 := h c List.mem_cons_self
  have h2 := sumE_nonneg fun c hc => h c (List.mem_cons_of_mem _ hc)
  refine ⟨?_, RetL_congr (fun c hc => h c (List.mem_cons_of_mem _ hc)) (fun t t1 t2 => e t (by omega) (by simp only [sumE]; omega)) hp.2⟩
  rw [e _ (by omega) (by simp only [sumE]; omega)]; exact hp.1
theorem PosL_app {n : Int} {b : List Int} : ∀ {P Q : List CH} {a : Int}, PosL n b a P → PosL n b (a + sumC P) Q → PosL n b a (P ++ Q)
 | [], Q, a, _, h => by simpa [sumC] using h
 | c :: P, Q, a, h, h2 => ⟨h.1, PosL_app h.2 (by simpa only [sumC, Int.add_assoc] using h2)⟩
theorem RetL_app {n : Int} {b : List Int} : ∀ {P Q : List Ent} {a : Int}, RetL n b a P → RetL n b (a + sumE P) Q → RetL n b a (P ++ Q)
 | [], Q, a, _, h => by simpa [sumE] using h
 | c :: P, Q, a, h, h2 => ⟨h.1, RetL_app h.2 (by simpa only [sumE, Int.add_assoc] using h2)⟩
structure Ring (n : Int) (b : List Int) (a : Int) (R : List Ent) (o : Int) (P : List CH) : Prop where
 len : b.length = 1024
 o0 : 0 ≤ o
 fit : sumE R + o + sumC P ≤ n
 re : ∀ e ∈ R, 1 ≤ e.2.1
 pe : ∀ c ∈ P, ChOk c
 noav : ∀ t, a + sumE R + o + sumC P ≤ t → t < a + sumE R + o + sumC P + n → availP (rdP n b t).2.2.2 (spt n t).2 = false
 nous : ∀ t, a + sumE R ≤ t → t < a + sumE R + n → usP (rdP n b t).2.2.2 (spt n t).2 = false
 mid : ∀ t, a + sumE R ≤ t → t < a + sumE R + o + sumC P → ∃ nx wr, (rdP n b t).2.2.2 = fl nx wr (spt n t).2
 ret : RetL n b a R
 pos : PosL n b (a + sumE R + o) P
theorem fl_us (nx wr rd r : Bool) : usP (fl nx wr rd) r = false := by cases nx <;> cases wr <;> cases rd <;> cases r <;> decide +kernel
theorem used_us (wr w : Bool) : usP (usedF wr w) (!w) = false := by cases wr <;> cases w <;> decide +kernel
theorem used_is (wr w : Bool) : usP (usedF wr w) w = true := by cases wr <;> cases w <;> decide +kernel
theorem Ring.init (n : Int) (hn : 1 ≤ n ∧ n ≤ 32) (b : List Int) (hl : b.length = 1024) (h : ∀ x : Int, 0 ≤ x → x < n → (rdD b (16 * x)).2.2.2 = 0) : Ring n b 0 [] 0 [] := by
 have e : ∀ t, 0 ≤ t → t < n → (rdP n b t).2.2.2 = 0 ∧ (spt n t).2 = true := by
  intro t h0 h1
  have hs : spt n t = (t, true) := by
   rw [spt_is n t 0 t ⟨h0, h1⟩ (by omega)]; rfl
  unfold rdP
  rw [hs]
  exact ⟨h t h0 h1, rfl⟩
 refine ⟨hl, by omega, by simp [sumE, sumC]; omega, by simp, by simp, ?_, ?_, ?_, trivial, trivial⟩
 ·intro t h0 h1
  simp only [sumE, sumC] at h0 h1
  obtain ⟨e1, e2⟩ := e t (by omega) (by omega)
  rw [e1, e2]; decide +kernel
 ·intro t h0 h1
  simp only [sumE] at h0 h1
  obtain ⟨e1, e2⟩ := e t (by omega) (by omega)
  rw [e1, e2]; decide +kernel
 ·intro t h0 h1
  simp only [sumE, sumC] at h0 h1
  omega
theorem Ring.next {n : Int} {b : List Int} {a o : Int} {R : List Ent} {c : CH} {P : List CH} (h : Ring n b a R o (c :: P)) : Ring n b a R (o + c.2.1) P := by
 have h1 := h.pe c List.mem_cons_self
 have h2 := h1.cnt; have h3 := h1.lo; have h4 := h.o0; have h5 := h.fit
 have e : ∀ x : Int, x + o + sumC (c :: P) = x + (o + c.2.1) + sumC P := fun x => by simp only [sumC]; omega
 refine ⟨h.len, by omega, by simp only [sumC] at h5; omega, h.re, fun c hc => h.pe c (List.mem_cons_of_mem _ hc), ?_, h.nous, ?_, h.ret, ?_⟩
 ·intro t t1 t2; exact h.noav t (by rw [e]; exact t1) (by rw [e]; exact t2)
 ·intro t t1 t2; exact h.mid t t1 (by rw [e]; exact t2)
 ·have := h.pos.2
  rwa [show a + sumE R + o + c.2.1 = a + sumE R + (o + c.2.1) by omega] at this
theorem Ring.reap {n : Int} {b : List Int} {a o : Int} {R : List Ent} {e : Ent} {P : List CH} (h : Ring n b a (e :: R) o P) : Ring n b (a + e.2.1) R o P := by
 have h5 := h.fit
 have h6 := h.re e List.mem_cons_self
 have x : a + sumE (e :: R) = a + e.2.1 + sumE R := by simp only [sumE]; omega
 refine ⟨h.len, h.o0, by simp only [sumE] at h5; omega, fun c hc => h.re c (List.mem_cons_of_mem _ hc), h.pe, ?_, ?_, ?_, h.ret.2, ?_⟩
 ·intro t t1 t2; exact h.noav t (by rw [x]; exact t1) (by rw [x]; exact t2)
 ·intro t t1 t2; exact h.nous t (by rw [x]; exact t1) (by rw [x]; exact t2)
 ·intro t t1 t2; exact h.mid t (by rw [x]; exact t1) (by rw [x]; exact t2)
 ·rw [← x]; exact h.pos
end Go.Proofs.Ytpfddjdkafjjfaa
end
section
namespace Go.Proofs.Ytpfddjdkafjjfaa
open Go.Aq Go.IntWalk
set_option linter.unusedVariables false
theorem ChOk.at {c : CH} (h : ChOk c) (j : Nat) (hj : j < c.2.2.length) : 0 ≤ (paP c.2.2 j).1 ∧ 1 ≤ (paP c.2.2 j).2.1 ∧ (paP c.2.2 j).1 + (paP c.2.2 j).2.1 ≤ 1024 ∧ (j = 0 ∨ (paP c.2.2 j).2.2 = true ∨ (paP c.2.2 (j - 1)).2.2 = false) := by
 have h1 := alF_at c.2.2 1024 c.2.2.length 0 j h.al (by omega) (by omega)
 unfold pOk at h1
 simp only [Bool.and_eq_true, Bool.or_eq_true, decide_eq_true_eq, Bool.not_eq_true', mayM_iff] at h1
 obtain ⟨⟨h2, h3⟩, h4⟩ := h1
 refine ⟨by omega, by omega, by omega, ?_⟩
 rcases h4 with (h4 | h4) | h4
 ·exact .inl h4
 ·exact .inr (.inl h4)
 ·exact .inr (.inr h4)
theorem dOf_in (n : Int) {c : CH} (h : ChOk c) (a : Int) (j : Nat) (hj : j < c.2.2.length) : inD (dOf n c a j) := by
 have h1 := h.at j hj; have h2 := h.id
 have h3 := fl_in (decide (j + 1 < c.2.2.length)) (paP c.2.2 j).2.2 (spt n (a + (j : Int))).2
 unfold inD dOf
 simp only
 omega
theorem paP_all (p : List TP) : (List.range p.length).map (paP p) = p := by
 refine List.ext_getElem (by simp) fun i h1 h2 => ?_
 simp only [List.getElem_map, List.getElem_range]
 unfold paP
 exact gt_at _ p i h2
theorem part_at (n : Int) {c : CH} (h : ChOk c) (a : Int) (j : Nat) (hj : j < c.2.2.length) : partP 1024 (dOf n c a j) = some (paP c.2.2 j) := by
 have h1 := h.at j hj
 unfold partP dOf
 simp only
 rw [i64_in (paP c.2.2 j).1 (by omega), i64_in (paP c.2.2 j).2.1 (by omega), if_pos ⟨by omega, by omega, by omega, mayM_iff.2 (by omega)⟩, fl_2]
theorem parts_at (n : Int) {c : CH} (h : ChOk c) (a : Int) : ∀ (t j : Nat) (u : Bool) (acc : List P3), j + t = c.2.2.length → (j = 0 → u = false) → (0 < j → u = (paP c.2.2 (j - 1)).2.2) →
  partsP 1024 ((List.range' j t).map (dOf n c a)) u acc = some (acc ++ (List.range' j t).map (paP c.2.2)) := by
 intro t
 induction t with
 | zero => intro j u acc _ _ _; simp [partsP]
 | succ t ih =>
  intro j u acc hj h0 h1
  rw [List.range'_succ, List.map_cons]
  unfold partsP
  rw [part_at n h a j (by omega)]
  simp only
  have hc : (paP c.2.2 j).2.2 = true ∨ u = false := by
   rcases (h.at j (by omega)).2.2.2 with e | e | e
   ·exact .inr (h0 e)
   ·exact .inl e
   ·by_cases j0 : j = 0
    ·exact .inr (h0 j0)
    ·rw [h1 (by omega)]; exact .inr e
  rw [if_pos hc]
  have e := ih (j + 1) (paP c.2.2 j).2.2 (acc ++ [paP c.2.2 j]) (by omega) (by omega) (fun _ => rfl)
  rw [e]
  simp
theorem chain_at (n : Int) (hn : 1 ≤ n ∧ n ≤ 32) (b : List Int) (hl : b.length = 1024) {c : CH} (h : ChOk c) (a o : Int) (hp : ∀ j : Nat, j < c.2.2.length → rdP n b (a + (j : Int)) = dOf n c a j) (q : TQ) (hq : q.1 = layQ n) (ho : q.2.2.2.2.2.1 = o) (hf : o + c.2.1 ≤ n) :
  ∀ (t j m : Nat), j + 1 + t = c.2.2.length → t < m → chainR b q m ((List.range (j + 1)).map (dOf n c a)) (dOf n c a j) (spt n (a + (j : Int))) = some c := by
 have hcnt := h.cnt; have hhi := h.hi
 intro t
 induction t with
 | zero =>
  intro j m hj hm
  obtain ⟨m, rfl⟩ : ∃ i, m = i + 1 := ⟨m - 1, by omega⟩
  unfold chainR
  rw [if_neg (by unfold dOf; rw [fl_1]; simp; omega)]
  unfold endP
  rw [if_pos (by
   unfold loneP
   rw [List.all_eq_true]
   intro x hx
   obtain ⟨y, _, rfl⟩ := List.mem_map.1 hx
   rw [decide_eq_true (show bAnd .i64 (dOf n c a y).2.2.2 4 = 0 from fl_4 _ _ _)]; rfl)]
  unfold tailP
  have e := parts_at n h a (j + 1) 0 false [] (by omega) (fun _ => rfl) (by omega)
  rw [← List.range_eq_range', List.nil_append] at e
  rw [if_neg (by
   rw [show bAnd .i64 (dOf n c a j).2.2.2 4 = 0 from fl_4 _ _ _]; simp), hl]
  show (match partsP 1024 ((List.range (j + 1)).map (dOf n c a)) false [] with | none => none | some ps => some _) = _
  have hj' : j + 1 = c.2.2.length := by omega
  rw [e, hj', paP_all, List.length_map, List.length_range]
  show some (c.1, (c.2.2.length : Int), c.2.2) = some c
  rw [← hcnt]
 | succ t ih =>
  intro j m hj hm
  obtain ⟨m, rfl⟩ : ∃ i, m = i + 1 := ⟨m - 1, by omega⟩
  have e1 : nextSp (spt n (a + (j : Int))) 1 q.1.2.1 = spt n (a + ((j + 1 : Nat) : Int)) := by
   rw [hq]
   show nextSp _ 1 n = _
   rw [spt_next n _ 1 hn.1 (by omega)]
   congr 1; omega
  have e2 := hp (j + 1) (by omega)
  unfold rdP at e2
  unfold chainR
  rw [if_pos (by unfold dOf; rw [fl_1]; simp; omega), ho, List.length_map, List.length_range, if_pos (by
   rw [hq]
   show ((j + 1 : Nat) : Int) < min 64 (n - o)
   omega), e1]
  have e3 : q.1.1 + 16 * (spt n (a + ((j + 1 : Nat) : Int))).1 = 16 * (spt n (a + ((j + 1 : Nat) : Int))).1 := by
   rw [hq]; show 0 + _ = _; omega
  rw [e3, e2]
  have ih' := ih (j + 1) m (by omega) (by omega)
  rw [List.range_succ, List.map_append] at ih'
  exact ih'
theorem Ring.takes {n : Int} (hn : 1 ≤ n ∧ n ≤ 32) {b : List Int} {a o : Int} {R : List Ent} {c : CH} {P : List CH} (h : Ring n b a R o (c :: P)) (q : TQ) (hq : q.1 = layQ n) (hs : q.2.1 = spt n (a + sumE R + o)) (ho : q.2.2.2.2.2.1 = o) (hb : q.2.2.2.2.2.2 = false) :
  nextR q b = ((c, true, 0), (q.1, spt n (a + sumE R + o + c.2.1), q.2.2.1, q.2.2.2.1, q.2.2.2.2.1, o + c.2.1, false)) := by
 have h1 := h.pe c List.mem_cons_self
 have h2 := h1.cnt; have h3 := h1.lo; have h4 := h.o0; have h5 := h.fit
 have h6 := sumC_nonneg fun c hc => h.pe c (List.mem_cons_of_mem _ hc)
 have h7 := sumE_nonneg h.re
 simp only [sumC] at h5
 have p0 := h.pos.1 0 (by omega)
 unfold rdP at p0
 rw [show a + sumE R + o + ((0 : Nat) : Int) = a + sumE R + o by omega] at p0
 have e0 : rdD b (q.1.1 + 16 * q.2.1.1) = dOf n c (a + sumE R + o) 0 := by
  rw [hq, hs, ← p0]
  show rdD b (0 + _) = _
  rw [Int.zero_add]
 have ec := chain_at n hn b h.len h1 (a + sumE R + o) o h.pos.1 q hq ho (by omega) (c.2.2.length - 1) 0 64 (by omega) (by have := h1.hi; omega)
 rw [show a + sumE R + o + ((0 : Nat) : Int) = a + sumE R + o by omega] at ec
 unfold nextR
 rw [hb, if_neg (by decide), if_neg (by rw [ho, hq]; show ¬ o ≥ n; omega), e0, hs, if_pos (by
  unfold dOf
  rw [show a + sumE R + o + ((0 : Nat) : Int) = a + sumE R + o by omega]
  exact fl_av _ _ _)]
 have ec' : chainR b q 64 [dOf n c (a + sumE R + o) 0] (dOf n c (a + sumE R + o) 0) (spt n (a + sumE R + o)) = some c := ec
 rw [ec']
 simp only
 rw [show q.1.2.1 = n by rw [hq]; rfl, spt_next n _ _ hn.1 (by omega), ho]
theorem Ring.none {n : Int} (hn : 1 ≤ n ∧ n ≤ 32) {b : List Int} {a o : Int} {R : List Ent} (h : Ring n b a R o []) (q : TQ) (hq : q.1 = layQ n) (hs : q.2.1 = spt n (a + sumE R + o)) (ho : q.2.2.2.2.2.1 = o) (hb : q.2.2.2.2.2.2 = false) :
  nextR q b = ((zeroC, false, 0), q) := by
 unfold nextR
 rw [hb, if_neg (by decide)]
 by_cases h1 : q.2.2.2.2.2.1 ≥ q.1.2.1
 ·rw [if_pos h1]
 ·have e := h.noav (a + sumE R + o) (by simp only [sumC]; omega) (by simp only [sumC]; omega)
  unfold rdP at e
  rw [if_neg h1, hq, hs]
  show (if availP (rdD b (0 + 16 * (spt n (a + sumE R + o)).1)).2.2.2 (spt n (a + sumE R + o)).2 = true then _ else _) = _
  rw [Int.zero_add, e, if_neg (by decide)]
theorem bD_rd (n : Int) (hn : 1 ≤ n ∧ n ≤ 32) (b : List Int) (hl : b.length = 1024) {c : CH} (h : ChOk c) (a : Int) : ∀ m : Nat, m ≤ c.2.2.length → (m : Int) ≤ n →
  (bD c.2.2 (layQ n) (spt n a) c.1 b m).length = 1024 ∧ (∀ j : Nat, j < m → rdP n (bD c.2.2 (layQ n) (spt n a) c.1 b m) (a + (j : Int)) = dOf n c a j) ∧
   ∀ t, (∀ j : Nat, j < m → (spt n t).1 ≠ (spt n (a + (j : Int))).1) → rdP n (bD c.2.2 (layQ n) (spt n a) c.1 b m) t = rdP n b t
 | 0, _, _ => ⟨hl, fun j hj => absurd hj (by omega), fun t _ => rfl⟩
 | m + 1, h1, h2 => by
  obtain ⟨i1, i2, i3⟩ := bD_rd n hn b hl h a m (by omega) (by omega)
  have es : nextSp (spt n a) (m : Int) n = spt n (a + (m : Int)) := spt_next n a m hn.1 (by omega)
  have ep : plP (layQ n) (spt n a) m = 16 * (spt n (a + (m : Int))).1 := by
   unfold plP
   show 0 + 16 * (nextSp (spt n a) (m : Int) n).1 = _
   rw [es, Int.zero_add]
  have ed : dsP c.2.2 (layQ n) (spt n a) c.1 m = dscB (dOf n c a m) := by
   unfold dsP fgP dOf
   show dscB (_, _, _, flB _ _ (nextSp (spt n a) (m : Int) n).2) = _
   rw [es]; rfl
  have eb : bD c.2.2 (layQ n) (spt n a) c.1 b (m + 1) = putAt (bD c.2.2 (layQ n) (spt n a) c.1 b m) (16 * (spt n (a + (m : Int))).1) (bytesOf (dscB (dOf n c a m))) := by
   show putAt _ (plP _ _ _) (bytesOf (dsP _ _ _ _ _)) = _
   rw [ep, ed]
  have hy : (bytesOf (dscB (dOf n c a m))).length = 16 := by rw [bytesOf_len, dscB_size]
  have hin := spt_in n (a + (m : Int)) hn.1
  rw [eb]
  generalize bD c.2.2 (layQ n) (spt n a) c.1 b m = b1 at i1 i2 i3
  refine ⟨by rw [putAt_len _ _ _ (by omega) (by omega)]; exact i1, fun j hj => ?_, fun t ht => ?_⟩
  ·by_cases e : j = m
   ·subst e
    exact rdD_put _ _ _ (dOf_in n h a j (by omega)) (by omega)
   ·have hne : (spt n (a + (j : Int))).1 ≠ (spt n (a + (m : Int))).1 := fun he => by
     have := spt_inj n a _ _ hn.1 (by omega) (by omega) he
     omega
    have hj2 := spt_in n (a + (j : Int)) hn.1
    have := i2 j (by omega)
    unfold rdP at this ⊢
    rw [rdD_off _ _ _ _ (by omega) (by omega)]
    exact this
  ·have hne := ht m (by omega)
   have hj2 := spt_in n t hn.1
   have := i3 t fun j hj => ht j (by omega)
   unfold rdP at this ⊢
   rw [rdD_off _ _ _ _ (by omega) (by omega)]
   exact this
theorem Ring.post {n : Int} (hn : 1 ≤ n ∧ n ≤ 32) {b : List Int} {a o : Int} {R : List Ent} {P : List CH} (h : Ring n b a R o P) {c : CH} (hc : ChOk c) (hf : sumE R + o + sumC P + c.2.1 ≤ n) :
  Ring n (bD c.2.2 (layQ n) (spt n (a + sumE R + o + sumC P)) c.1 b c.2.2.length) a R o (P ++ [c]) := by
 have hcnt := hc.cnt; have hlo := hc.lo; have o0 := h.o0
 have r0 := sumE_nonneg h.re; have p0 := sumC_nonneg h.pe
 obtain ⟨x, hx⟩ : ∃ x, x = a + sumE R + o + sumC P := ⟨_, rfl⟩
 obtain ⟨l1, l2, l3⟩ := bD_rd n hn b h.len hc (a + sumE R + o + sumC P) c.2.2.length (Nat.le_refl _) (by omega)
 rw [← hx] at l1 l2 l3 ⊢
 generalize bD c.2.2 (layQ n) (spt n x) c.1 b c.2.2.length = b' at l1 l2 l3
 have es : sumC (P ++ [c]) = sumC P + c.2.1 := by rw [sumC_app]; simp [sumC]
 have off : ∀ t, a ≤ t → t < a + n → t < x ∨ x + (c.2.2.length : Int) ≤ t → rdP n b' t = rdP n b t := by
  intro t t1 t2 t3
  refine l3 t fun j hj he => ?_
  have := spt_inj n a t (x + (j : Int)) hn.1 ⟨t1, t2⟩ (by omega) he
  omega
 have any : ∀ t, rdP n b' t = rdP n b t ∨ ∃ nx wr w, (rdP n b' t).2.2.2 = fl nx wr w := by
  intro t
  obtain ⟨u, ⟨u1, u2⟩, u3⟩ := spt_rep n x t hn.1
  by_cases hu : u < x + (c.2.2.length : Int)
  ·right
   have := l2 (u - x).toNat (by omega)
   rw [show x + ((u - x).toNat : Int) = u by omega] at this
   have e : rdP n b' t = rdP n b' u := by unfold rdP; rw [u3]
   rw [e, this]
   exact ⟨_, _, _, rfl⟩
  ·left
   refine l3 t fun j hj he => ?_
   rw [← u3] at he
   have := spt_inj n x u (x + (j : Int)) hn.1 ⟨u1, u2⟩ (by omega) he
   omega
 refine ⟨l1, o0, by rw [es]; omega, h.re, ?_, ?_, ?_, ?_, ?_, ?_⟩
 ·intro d hd
  rcases List.mem_append.1 hd with hd | hd
  ·exact h.pe d hd
  ·rw [List.mem_singleton.1 hd]; exact hc
 ·intro t t1 t2
  rw [es] at t1 t2
  by_cases ht : t < x + n
  ·have e : rdP n b' t = rdP n b t := by
    refine l3 t fun j hj he => ?_
    have := spt_inj n x t (x + (j : Int)) hn.1 (by omega) (by omega) he
    omega
   rw [e]; exact h.noav t (by omega) (by omega)
  ·have := l2 (t - n - x).toNat (by omega)
   rw [show x + ((t - n - x).toNat : Int) = t - n by omega] at this
   have sl := spt_lap n (t - n) hn.1
   rw [show t - n + n = t by omega] at sl
   have e : rdP n b' t = rdP n b' (t - n) := by unfold rdP; rw [sl]
   rw [e, this, sl]
   unfold dOf
   simp only
   rw [show x + ((t - n - x).toNat : Int) = t - n by omega]
   exact fl_no _ _ _
 ·intro t t1 t2
  rcases any t with e | ⟨nx, wr, w, e⟩
  ·rw [e]; exact h.nous t t1 t2
  ·rw [e]; exact fl_us _ _ _ _
 ·intro t t1 t2
  rw [es] at t2
  by_cases ht : t < x
  ·rw [off t (by omega) (by omega) (.inl ht)]; exact h.mid t t1 (by omega)
  ·have := l2 (t - x).toNat (by omega)
   rw [show x + ((t - x).toNat : Int) = t by omega] at this
   rw [this]
   unfold dOf
   simp only
   rw [show x + ((t - x).toNat : Int) = t by omega]
   exact ⟨_, _, rfl⟩
 ·exact RetL_congr h.re (fun t t1 t2 => off t t1 (by omega) (.inl (by omega))) h.ret
 ·refine PosL_app (PosL_congr h.pe (fun t t1 t2 => off t (by omega) (by omega) (.inl (by omega))) h.pos) ?_
  rw [← hx]
  exact ⟨l2, trivial⟩
theorem rdD_ln (b : List Int) (x : Int) (h : 0 ≤ x ∧ x + 16 ≤ b.length) : (rdD b x).2.1 = leN b (x + 8) 4 := by
 unfold rdD descP leN
 show bl (Go.Aq.strOf (sub b x 16)) 12 4 = _
 have e := bl_ext (Go.Aq.strOf (sub b x 16)) 8 12 (by rw [size_strOf, sub_len _ _ _ (by omega)]; decide) 4 (by omega)
 rw [← e, strOf_sub, sub_sub _ _ _ _ _ (by omega)]; rfl
theorem rdD_id (b : List Int) (x : Int) (h : 0 ≤ x ∧ x + 16 ≤ b.length) : (rdD b x).2.2.1 = leN b (x + 12) 2 := by
 unfold rdD descP leN
 show bl (Go.Aq.strOf (sub b x 16)) 14 2 = _
 have e := bl_ext (Go.Aq.strOf (sub b x 16)) 12 14 (by rw [size_strOf, sub_len _ _ _ (by omega)]; decide) 2 (by omega)
 rw [← e, strOf_sub, sub_sub _ _ _ _ _ (by omega)]; rfl
theorem doneB_rd (b : List Int) (x wr id : Int) (u : Bool) (h : 0 ≤ x ∧ x + 16 ≤ b.length) (hw : 0 ≤ wr ∧ wr < 4294967296) (hi : 0 ≤ id ∧ id < 65536) :
  (rdD (doneB b x wr id u) x).2.1 = wr ∧ (rdD (doneB b x wr id u) x).2.2.1 = id ∧ (rdD (doneB b x wr id u) x).2.2.2 = usedF (decide (wr > 0)) u := by
 have hl := doneB_len b x wr id u h
 have l1 : (bytesOf (putL wr 4)).length = 4 := by rw [bytesOf_len, putL_size]
 have l2 : (bytesOf (putL id 2)).length = 2 := by rw [bytesOf_len, putL_size]
 have l3 : (bytesOf (putL (usedF (decide (wr > 0)) u) 2)).length = 2 := by rw [bytesOf_len, putL_size]
 have e1 := putAt_len b (bytesOf (putL wr 4)) (x + 8) (by omega) (by omega)
 have e2 := putAt_len (putAt b (x + 8) (bytesOf (putL wr 4))) (bytesOf (putL id 2)) (x + 12) (by omega) (by omega)
 rw [rdD_ln _ _ (by omega), rdD_id _ _ (by omega), rdD_fl _ _ (by omega)]
 refine ⟨?_, ?_, doneB_fl b x wr id u h⟩
 ·unfold doneB
  rw [leN_off _ _ _ _ _ (by omega) (by omega), leN_off _ _ _ _ _ (by omega) (by omega), leN_put _ _ _ _ (by rw [show (256 : Int) ^ 4 = 4294967296 from rfl]; omega) (by omega)]
 ·unfold doneB
  rw [leN_off _ _ _ _ _ (by omega) (by omega), leN_put _ _ _ _ (by rw [show (256 : Int) ^ 2 = 65536 from rfl]; omega) (by omega)]
theorem Ring.done {n : Int} (hn : 1 ≤ n ∧ n ≤ 32) {b : List Int} {a o : Int} {R : List Ent} {P : List CH} (h : Ring n b a R o P) (id cnt wr : Int) (hc : 1 ≤ cnt ∧ cnt ≤ o) (hi : 0 ≤ id ∧ id < 65536) (hw : 0 ≤ wr ∧ wr < 4294967296) :
  Ring n (doneB b (16 * (spt n (a + sumE R)).1) wr id (spt n (a + sumE R)).2) a (R ++ [(id, cnt, wr)]) (o - cnt) P := by
 have r0 := sumE_nonneg h.re; have p0 := sumC_nonneg h.pe; have hfit := h.fit; have hlen := h.len
 obtain ⟨x, hx⟩ : ∃ x, x = a + sumE R := ⟨_, rfl⟩
 have hin := spt_in n x hn.1
 have d1 := doneB_rd b (16 * (spt n x).1) wr id (spt n x).2 (by omega) hw hi
 have d2 : ∀ t, (spt n t).1 ≠ (spt n x).1 → rdP n (doneB b (16 * (spt n x).1) wr id (spt n x).2) t = rdP n b t := fun t ht => by
  have := spt_in n t hn.1
  exact doneB_off b (16 * (spt n x).1) wr id (16 * (spt n t).1) (spt n x).2 (by omega) (by omega)
 have d3 := doneB_len b (16 * (spt n x).1) wr id (spt n x).2 (by omega)
 rw [← hx]
 change (rdP n (doneB b (16 * (spt n x).1) wr id (spt n x).2) x).2.1 = _ ∧ (rdP n (doneB b (16 * (spt n x).1) wr id (spt n x).2) x).2.2.1 = _ ∧ (rdP n (doneB b (16 * (spt n x).1) wr id (spt n x).2) x).2.2.2 = _ at d1
 generalize doneB b (16 * (spt n x).1) wr id (spt n x).2 = b' at d1 d2 d3
 have es : sumE (R ++ [(id, cnt, wr)]) = sumE R + cnt := by rw [sumE_app]; simp [sumE]
 have off : ∀ t, a ≤ t → t < a + n → t ≠ x → rdP n b' t = rdP n b t := fun t t1 t2 t3 => d2 t fun he => t3 (spt_inj n a t x hn.1 ⟨t1, t2⟩ (by omega) he)
 have off2 : ∀ t, x ≤ t → t < x + n → t ≠ x → rdP n b' t = rdP n b t := fun t t1 t2 t3 => d2 t fun he => t3 (spt_inj n x t x hn.1 ⟨t1, t2⟩ (by omega) he)
 have same : ∀ t, (spt n t).1 = (spt n x).1 → rdP n b' t = rdP n b' x := fun t ht => by unfold rdP; rw [ht]
 refine ⟨by omega, by omega, by rw [es]; omega, ?_, h.pe, ?_, ?_, ?_, ?_, ?_⟩
 ·intro e he
  rcases List.mem_append.1 he with he | he
  ·exact h.re e he
  ·rw [List.mem_singleton.1 he]; exact hc.1
 ·intro t t1 t2
  rw [es] at t1 t2
  by_cases e : (spt n t).1 = (spt n x).1
  ·rw [same t e, d1.2.2]; exact used_no _ _ _
  ·rw [d2 t e]; exact h.noav t (by omega) (by omega)
 ·intro t t1 t2
  rw [es] at t1 t2
  by_cases ht : t < x + n
  ·rw [off2 t (by omega) ht (by omega)]; exact h.nous t (by omega) (by omega)
  ·have sl := spt_lap n (t - n) hn.1
   rw [show t - n + n = t by omega] at sl
   have e : rdP n b' t = rdP n b' (t - n) := by unfold rdP; rw [sl]
   rw [e, sl]
   by_cases hq : t - n = x
   ·rw [hq, d1.2.2]; exact used_us _ _
   ·rw [off2 (t - n) (by omega) (by omega) hq]
    obtain ⟨nx, w2, hm⟩ := h.mid (t - n) (by omega) (by omega)
    rw [hm]; exact fl_us _ _ _ _
 ·intro t t1 t2
  rw [es] at t1 t2
  rw [off2 t (by omega) (by omega) (by omega)]; exact h.mid t (by omega) (by omega)
 ·refine RetL_app (RetL_congr h.re (fun t t1 t2 => off t t1 (by omega) (by omega)) h.ret) ?_
  rw [← hx]
  exact ⟨d1, trivial⟩
 ·rw [es, show a + (sumE R + cnt) + (o - cnt) = a + sumE R + o by omega]
  exact PosL_congr h.pe (fun t t1 t2 => off2 t (by omega) (by omega) (by omega)) h.pos
end Go.Proofs.Ytpfddjdkafjjfaa
end
section
namespace Go.Proofs.Ytpfddjdkafjjfaa
open Go.Aq Go.IntWalk
set_option linter.unusedVariables false
theorem DDone_S (k : Nat) (hk : 9 ≤ k) (id c wr : Int) (q : TQ) (g : TM) (hg : okM g) (hq : OkQ q g.1.length) (hb : q.2.2.2.2.2.2 = false) (hi : 0 ≤ id ∧ id ≤ 65535) (hc : 1 ≤ c ∧ c ≤ q.2.2.2.2.2.1) (hw : 0 ≤ wr ∧ wr ≤ 4294967295) :
  ∃ r, F_devq_Queue_Done.S k id c wr q g = .ok (0, (doneQ q c, r)) ∧ r.1 = doneB g.1 (q.1.1 + 16 * q.2.2.1.1) wr id q.2.2.1.2 ∧ okM r ∧ r.1.length = g.1.length := by
 have ol := hq.l.lo; have oh := hq.l.hi; have or := hq.l.ring; have oo := hq.out; have ob := hq.back; have l1 := hg.1; have os := hq.since
 unfold F_devq_Queue_Done.S F_devq_Queue_Done.top
 rw [hb, O.cond_false, O.cond_neg (by omega), O.cond_neg (by omega), O.cond_neg (by omega), O.cond_neg (by omega), O.cond_neg (by omega), O.cond_neg (by omega)]
 have main : ∀ f : Int, f = (bif decide (wr > 0) then 2 else 0) → ∃ r, F_devq_Queue_Done.j4 k id c wr q g f = .ok (0, (doneQ q c, r)) ∧ r.1 = doneB g.1 (q.1.1 + 16 * q.2.2.1.1) wr id q.2.2.1.2 ∧ okM r ∧ r.1.length = g.1.length := by
  intro f hf
  unfold F_devq_Queue_Done.j4 F_devq_Queue_Done.j4_b
  rw [i64_in (16 * _) (by omega), i64_in (q.1.1 + _) (by omega), i64_in (q.1.1 + _ + 8) (by omega), i64_in (q.1.1 + _ + 12) (by omega), i64_in (q.1.1 + _ + 14) (by omega)]
  obtain ⟨g1, e1, k1, b1, n1⟩ := Store_at k hk (q.1.1 + 16 * q.2.2.1.1 + 8) 4 (by omega) wr (by rw [show (256 : Int) ^ 4 = 4294967296 from rfl]; omega) g hg (by omega)
  have e1' : F_gmem_Memory_Store.S k (q.1.1 + 16 * q.2.2.1.1 + 8) (4 : Int) (IntKind.u64.wrap wr) g = .ok (0, g1) := e1
  rw [e1', O.bind_ok]
  obtain ⟨g2, e2, k2, b2, n2⟩ := Store_at k hk (q.1.1 + 16 * q.2.2.1.1 + 12) 2 (by omega) id (by rw [show (256 : Int) ^ 2 = 65536 from rfl]; omega) g1 k1 (by omega)
  have e2' : F_gmem_Memory_Store.S k (q.1.1 + 16 * q.2.2.1.1 + 12) (2 : Int) (IntKind.u64.wrap id) g1 = .ok (0, g2) := e2
  rw [e2', O.bind_ok, hf, dMark_S, O.bind_ok]
  have fi := usedF_in (decide (wr > 0)) q.2.2.1.2
  obtain ⟨g3, e3, k3, b3, n3⟩ := Store_at k hk (q.1.1 + 16 * q.2.2.1.1 + 14) 2 (by omega) (usedF (decide (wr > 0)) q.2.2.1.2) (by rw [show (256 : Int) ^ 2 = 65536 from rfl]; omega) g2 k2 (by omega)
  have e3' : F_gmem_Memory_Store.S k (q.1.1 + 16 * q.2.2.1.1 + 14) (2 : Int) (IntKind.u64.wrap (usedF (decide (wr > 0)) q.2.2.1.2)) g2 = .ok (0, g3) := e3
  rw [e3', O.bind_ok, spotNext_S k _ _ _ ob oh (by omega), O.bind_ok, i64_in (q.2.2.2.2.1 + c) (by omega), i64_in (2 * _) (by omega), i64_in (q.2.2.2.2.2.1 - c) (by omega)]
  exact ⟨g3, rfl, by rw [b3, b2, b1]; rfl, k3, by omega⟩
 by_cases h0 : wr > 0
 ·rw [O.cond_pos h0]; exact main 2 (by rw [decide_eq_true h0]; rfl)
 ·rw [O.cond_neg h0]; exact main 0 (by rw [decide_eq_false h0]; rfl)
theorem Reap_is (k : Nat) (hk : 9 ≤ k) (q : TV) (g : TM) (hokg : okM g) (a : Int) (ha : a = q.1.1 + 16 * q.2.2.1.1) (hr : 0 ≤ q.1.1 ∧ 0 ≤ q.2.2.1.1) (hin : a + 16 ≤ (g.1.length : Int)) :
  F_drvq_Queue_Reap.S k q g = O.cond (!(usP (rdD g.1 a).2.2.2 q.2.2.1.2)) (.ok (((0 : Int), (0 : Int), false, (0 : Int)), (q, rdM g a 16))) (
   O.cond (!(mhas q.2.2.2.2.2.2 (rdD g.1 a).2.2.1)) (.ok (((0 : Int), (0 : Int), false, (150 : Int)), (q, rdM g a 16))) (
   O.bind (F_spot_Next.S k q.2.2.1 (mget (0 : Int) q.2.2.2.2.2.2 (rdD g.1 a).2.2.1) q.1.2.1) fun r7 =>
   .ok (((rdD g.1 a).2.2.1, (IntKind.i64.wrap (rdD g.1 a).2.1), true, (0 : Int)), ((q.1, q.2.1, r7.1, q.2.2.2.1, q.2.2.2.2.1, (IntKind.i64.wrap (q.2.2.2.2.2.1 + (mget (0 : Int) q.2.2.2.2.2.2 (rdD g.1 a).2.2.1))), (mdel q.2.2.2.2.2.2 (rdD g.1 a).2.2.1)), rdM g a 16)))) := by
 have h1 := hokg.1
 have ea : IntKind.i64.wrap (q.1.1 + (IntKind.i64.wrap ((16 : Int) * q.2.2.1.1))) = a := by
  rw [i64_in ((16 : Int) * q.2.2.1.1) (by omega), i64_in _ (by omega), ha]
 have es : (Go.Aq.strOf (sub g.1 a 16)).size = 16 := by rw [size_strOf, sub_len _ _ _ (by omega)]; rfl
 unfold F_drvq_Queue_Reap.S
 rw [ea, Read_S k _ 16 g hokg, if_neg (by omega), if_pos (mayM_iff.2 (by omega)), O.bind_ok]
 dsimp only
 rw [Parse_S k (by omega) _ es, O.bind_ok]
 show O.bind (F_desc_Used.S k (rdD g.1 a).2.2.2 q.2.2.1.2) _ = _
 rw [Used_is, O.bind_ok]
 rfl
end Go.Proofs.Ytpfddjdkafjjfaa
end
section
namespace Go.Proofs.Ytpfddjdkafjjfaa
open Go.Aq Go.IntWalk
set_option linter.unusedVariables false
theorem sm_perm {a b : EI} (h : a.Perm b) : sm a = sm b := by
 induction h with
 | nil => rfl
 | cons x _ ih => simp only [sm, ih]
 | swap x y l => simp only [sm]; omega
 | trans _ _ h1 h2 => exact h1.trans h2
theorem mdel_perm : ∀ (es : EI) (k : Int), mhas es k = true → es.Perm ((k, mget 0 es k) :: mdel es k)
 | [], k, h => by simp [mhas] at h
 | e :: es, k, h => by
  by_cases he : e.1 = k
  ·have e1 : mdel (e :: es) k = es := by simp [mdel, he]
   have e2 : mget 0 (e :: es) k = e.2 := by simp [mget, he]
   rw [e1, e2, ← he]
  ·have h' : mhas es k = true := by simpa [mhas, he] using h
   have e1 : mdel (e :: es) k = e :: mdel es k := by simp [mdel, he]
   have e2 : mget 0 (e :: es) k = mget 0 es k := by simp [mget, he]
   rw [e1, e2]
   exact ((mdel_perm es k h').cons e).trans (List.Perm.swap _ _ _)
theorem mget_mem : ∀ {es : EI} {k v : Int}, (es.map (·.1)).Nodup → (k, v) ∈ es → mget 0 es k = v
 | [], k, v, _, h => by cases h
 | e :: es, k, v, hn, h => by
  rw [mget_cons]
  rw [List.map_cons, List.nodup_cons] at hn
  rcases List.mem_cons.1 h with h | h
  ·rw [← h]; simp
  ·by_cases he : e.1 = k
   ·exact absurd (List.mem_map.2 ⟨(k, v), h, he.symm⟩) hn.1
   ·rw [if_neg he]; exact mget_mem hn.2 h
def ek (c : CH) : Int × Int := (c.1, c.2.1)
def er (e : Ent) : Int × Int := (e.1, e.2.1)
theorem sm_ek : ∀ P : List CH, sm (P.map ek) = sumC P
 | [] => rfl
 | c :: P => by simp only [List.map_cons, sm, sumC, sm_ek P]; rfl
theorem sm_er : ∀ P : List Ent, sm (P.map er) = sumE P
 | [] => rfl
 | c :: P => by simp only [List.map_cons, sm, sumE, sm_er P]; rfl
structure BI (n : Int) (q : TV) (d : TQ) (g : TM) (a : Int) (R : List Ent) (T P : List CH) : Prop where
 ri : RI (layQ n) 1024 q g
 ring : Ring n g.1 a R (sumC T) P
 tk : ∀ c ∈ T, ChOk c
 rid : ∀ e ∈ R, 0 ≤ e.2.2 ∧ e.2.2 < 4294967296
 qn : q.2.1 = spt n (a + sumE R + sumC T + sumC P)
 qb : q.2.2.1 = spt n a
 pm : q.2.2.2.2.2.2.Perm (R.map er ++ (T.map ek ++ P.map ek))
 dl : d.1 = layQ n
 dn : d.2.1 = spt n (a + sumE R + sumC T)
 db : d.2.2.1 = spt n (a + sumE R)
 dt : 0 ≤ d.2.2.2.1.1 ∧ d.2.2.2.1.1 < n
 dS : 0 ≤ d.2.2.2.2.1 ∧ d.2.2.2.2.1 ≤ 2 * n
 dq : d.2.2.2.2.2.1 = sumC T
 dk : d.2.2.2.2.2.2 = false
theorem BI.len {n : Int} {q : TV} {d : TQ} {g : TM} {a : Int} {R : List Ent} {T P : List CH} (h : BI n q d g a R T P) : (heldL q.2.2.2.2.2.2).length = R.length + (T.length + P.length) := by
 rw [heldL_len, h.pm.length_eq]; simp
theorem BI.sums {n : Int} {q : TV} {d : TQ} {g : TM} {a : Int} {R : List Ent} {T P : List CH} (h : BI n q d g a R T P) : q.2.2.2.2.2.1 + (sumE R + (sumC T + sumC P)) = n := by
 have h1 := h.ri.sum
 rw [sm_perm h.pm, sm_app, sm_app, sm_er, sm_ek, sm_ek] at h1
 exact h1
theorem BI.okd {n : Int} (hn : 1 ≤ n ∧ n ≤ 32) {q : TV} {d : TQ} {g : TM} {a : Int} {R : List Ent} {T P : List CH} (h : BI n q d g a R T P) : OkQ d g.1.length := by
 have hl : g.1.length = 1024 := h.ri.len
 have h1 := spt_in n (a + sumE R + sumC T) hn.1
 have h2 := spt_in n (a + sumE R) hn.1
 have h3 := sumC_nonneg h.tk
 have h4 := sumE_nonneg h.ring.re
 have h5 := sumC_nonneg h.ring.pe
 have h6 := h.ring.fit
 have e : d.1.2.1 = n := by rw [h.dl]; rfl
 rw [hl]
 refine ⟨?_, ?_, ?_, ?_, ?_, ?_⟩
 ·rw [h.dl]
  exact ⟨hn.1, by show n ≤ 32768; omega, ⟨Int.le_refl 0, by show 0 + 16 * n ≤ 1024; omega⟩, ⟨by show (0 : Int) ≤ 512; decide, by show (512 : Int) + 4 ≤ 1024; decide⟩, ⟨by show (0 : Int) ≤ 516; decide, by show (516 : Int) + 4 ≤ 1024; decide⟩⟩
 ·rw [h.dn, e]; exact h1
 ·rw [h.db, e]; exact h2
 ·rw [e]; exact h.dt
 ·rw [e]; exact h.dS
 ·rw [e, h.dq]; omega
theorem RI.mem {L : LAY} {len : Nat} {q : TV} {g g' : TM} (h : RI L len q g) (h1 : okM g') (h2 : g'.1.length = len) : RI L len q g' := ⟨h.lay, h.nx, h.bk, h.fr, h.sum, h.vals, h.keys, h.kin, h1, h2⟩
theorem BI.next {n : Int} (hn : 1 ≤ n ∧ n ≤ 32) (k : Nat) (hk : 80 ≤ k) {q : TV} {d : TQ} {g : TM} {a : Int} {R : List Ent} {T P : List CH} (h : BI n q d g a R T P) :
  ∃ r, F_devq_Queue_Next.S k d g = .ok r ∧ ((P = [] ∧ r.1 = (zeroC, false, 0) ∧ BI n q r.2.1 r.2.2 a R T []) ∨ ∃ c P', P = c :: P' ∧ r.1 = (c, true, 0) ∧ BI n q r.2.1 r.2.2 a R (T ++ [c]) P') := by
 obtain ⟨r, hr, r1, r2, r3⟩ := DNext_S k hk d g h.ri.okg (h.okd hn)
 have hm := sameM_ok h.ri.okg r3
 have hl : r.2.2.1.length = 1024 := by rw [r3.1]; exact h.ri.len
 refine ⟨r, hr, ?_⟩
 cases P with
 | nil =>
  left
  have e := Ring.none hn h.ring d h.dl h.dn h.dq h.dk
  rw [e] at r1 r2
  refine ⟨rfl, r1, ⟨h.ri.mem hm hl, by rw [r3.1]; exact h.ring, h.tk, h.rid, h.qn, h.qb, h.pm, ?_, ?_, ?_, ?_, ?_, ?_, ?_⟩⟩
  all_goals rw [r2]
  ·exact h.dl
  ·exact h.dn
  ·exact h.db
  ·exact h.dt
  ·exact h.dS
  ·exact h.dq
  ·exact h.dk
 | cons c P' =>
  right
  have e := Ring.takes hn h.ring d h.dl h.dn h.dq h.dk
  rw [e] at r1 r2
  have hc := h.ring.pe c List.mem_cons_self
  have es : sumC (T ++ [c]) = sumC T + c.2.1 := by rw [sumC_app]; simp [sumC]
  refine ⟨c, P', rfl, r1, ⟨h.ri.mem hm hl, ?_, ?_, h.rid, ?_, h.qb, ?_, ?_, ?_, ?_, ?_, ?_, ?_, ?_⟩⟩
  ·rw [r3.1, es]; exact h.ring.next
  ·intro x hx
   rcases List.mem_append.1 hx with hx | hx
   ·exact h.tk x hx
   ·rw [List.mem_singleton.1 hx]; exact hc
  ·rw [h.qn, es]; simp only [sumC]; congr 1; omega
  ·have := h.pm
   rw [List.map_cons] at this
   rw [List.map_append, List.append_assoc]
   exact this
  all_goals rw [r2]
  ·exact h.dl
  ·rw [es]; simp only; congr 1; omega
  ·exact h.db
  ·exact h.dt
  ·exact h.dS
  ·rw [es]
theorem BI.done {n : Int} (hn : 1 ≤ n ∧ n ≤ 32) (k : Nat) (hk : 80 ≤ k) {q : TV} {d : TQ} {g : TM} {a : Int} {R : List Ent} {T1 T2 P : List CH} {c : CH} (h : BI n q d g a R (T1 ++ c :: T2) P) (wr : Int) (hw : 0 ≤ wr ∧ wr ≤ 4294967295) :
  ∃ d' g', F_devq_Queue_Done.S k c.1 c.2.1 wr d g = .ok (0, (d', g')) ∧ BI n q d' g' a (R ++ [(c.1, c.2.1, wr)]) (T1 ++ T2) P := by
 have hc := h.tk c (by simp)
 have hcnt := hc.cnt; have hlo := hc.lo; have hid := hc.id
 have t1 : ∀ c ∈ T1 ++ T2, ChOk c := fun x hx => h.tk x (by rcases List.mem_append.1 hx with hx | hx <;> simp [hx])
 have t2 := sumC_nonneg t1
 have es : sumC (T1 ++ c :: T2) = sumC (T1 ++ T2) + c.2.1 := by simp only [sumC_app, sumC]; omega
 have er' : sumE (R ++ [(c.1, c.2.1, wr)]) = sumE R + c.2.1 := by rw [sumE_app]; simp [sumE]
 have hle := h.ring.fit
 have hr0 := sumE_nonneg h.ring.re
 have hp0 := sumC_nonneg h.ring.pe
 obtain ⟨g', e1, e2, e3, e4⟩ := DDone_S k (by omega) c.1 c.2.1 wr d g h.ri.okg (h.okd hn) h.dk (by omega) (by rw [h.dq]; omega) hw
 have hl : g.1.length = 1024 := h.ri.len
 have eb : d.1.1 + 16 * d.2.2.1.1 = 16 * (spt n (a + sumE R)).1 := by rw [h.dl, h.db]; show 0 + _ = _; omega
 rw [eb, h.db] at e2
 have en : d.1.2.1 = n := by rw [h.dl]; rfl
 refine ⟨doneQ d c.2.1, g', e1, ⟨h.ri.mem e3 (by omega), ?_, t1, ?_, ?_, h.qb, ?_, h.dl, ?_, ?_, h.dt, ?_, ?_, h.dk⟩⟩
 ·rw [e2]
  have := Ring.done hn h.ring c.1 c.2.1 wr (by omega) (by omega) (by omega)
  rw [es, show sumC (T1 ++ T2) + c.2.1 - c.2.1 = sumC (T1 ++ T2) by omega] at this
  exact this
 ·intro e he
  rcases List.mem_append.1 he with he | he
  ·exact h.rid e he
  ·rw [List.mem_singleton.1 he]; exact ⟨hw.1, by show wr < _; omega⟩
 ·rw [h.qn, es, er']; congr 1; omega
 ·refine h.pm.trans ?_
  simp only [List.map_append, List.map_cons, List.map_nil, List.append_assoc, List.cons_append, List.nil_append]
  refine List.Perm.append_left _ ?_
  show (T1.map ek ++ (er (c.1, c.2.1, wr) :: (T2.map ek ++ P.map ek))).Perm _
  exact List.perm_middle
 ·show d.2.1 = _
  rw [h.dn, es, er']; congr 1; omega
 ·show nextSp d.2.2.1 c.2.1 d.1.2.1 = _
  rw [h.db, en, spt_next n _ _ hn.1 (by omega), er']
  congr 1; omega
 ·show 0 ≤ min (d.2.2.2.2.1 + c.2.1) (2 * d.1.2.1) ∧ min (d.2.2.2.2.1 + c.2.1) (2 * d.1.2.1) ≤ 2 * n
  have := h.dS
  rw [en]; omega
 ·show d.2.2.2.2.2.1 - c.2.1 = _
  rw [h.dq, es]; omega
theorem layQ_in (n : Int) (hn : 1 ≤ n ∧ n ≤ 32) : LayIn (layQ n) 1024 := ⟨⟨hn.1, by show n ≤ 32768; omega⟩, ⟨Int.le_refl 0, by show 0 + 16 * n ≤ 1024; omega⟩, ⟨by show (0 : Int) ≤ 512; decide, by show (512 : Int) + 4 ≤ 1024; decide⟩, ⟨by show (0 : Int) ≤ 516; decide, by show (516 : Int) + 4 ≤ 1024; decide⟩⟩
theorem BI.post {n : Int} (hn : 1 ≤ n ∧ n ≤ 32) (k : Nat) (hk : 80 ≤ k) {q : TV} {d : TQ} {g : TM} {a : Int} {R : List Ent} {T P : List CH} (h : BI n q d g a R T P) (p : List TP) (hp : p = [] ∨ (p.length ≤ 64 ∧ alF p 1024 p.length 0 = true)) :
  ∃ r, F_drvq_Queue_Post.S k p q g = .ok r ∧ ((r.1.2 = 0 ∧ BI n r.2.1 d r.2.2 a R T (P ++ [(r.1.1, (p.length : Int), p)])) ∨ (r.1.2 ≠ 0 ∧ (r.1.2 = 151 → (p.length : Int) > r.2.1.2.2.2.2.2.1) ∧ BI n r.2.1 d r.2.2 a R T P)) := by
 have hl : g.1.length = 1024 := h.ri.len
 have hm := may_is k (by omega) p q g h.ri.okg
 rw [hl, show ((1024 : Nat) : Int) = 1024 from rfl] at hm
 by_cases hE : mayE p 1024 q.2.2.2.2.2.1 = 0
 ·have hin : 1 ≤ p.length ∧ p.length ≤ 64 ∧ alF p 1024 p.length 0 = true ∧ (p.length : Int) ≤ q.2.2.2.2.2.1 := by
   unfold mayE at hE
   by_cases c : 1 ≤ p.length ∧ p.length ≤ 64 ∧ alF p 1024 p.length 0 = true
   ·rw [if_pos c] at hE
    by_cases c2 : (p.length : Int) > q.2.2.2.2.2.1
    ·rw [if_pos c2] at hE; exact absurd hE (by decide)
    ·exact ⟨c.1, c.2.1, c.2.2, by omega⟩
   ·rw [if_neg c] at hE; exact absurd hE (by decide)
  have hm0 : F_drvq_Queue_may.S k p q g = .ok (0, (q, g)) := by rw [hm, hE]
  have hs := h.sums
  have hr0 := sumE_nonneg h.ring.re
  have hp0 := sumC_nonneg h.ring.pe
  have ht0 := sumC_nonneg h.tk
  obtain ⟨g', e1, e2, e3⟩ := Post_img k (by omega) p (PIn.of (len := 1024) (by omega) ⟨hin.1, hin.2.1⟩ hin.2.2.1) (len := 1024) (by omega) (layQ_in n hn) q g h.ri hm0 (by show (p.length : Int) ≤ n; omega)
  obtain ⟨r, f1, f2⟩ := Post_any k (by omega) (by show n ≤ 32768; omega) p q g h.ri
  rw [e1] at f1
  have f1 := O.ok.inj f1
  subst f1
  have hri := (f2.resolve_left fun x => x.1 rfl).2.1
  have hls := least_spec q.2.2.2.2.2.2
  have hle := held_le q.2.2.2.2.2.2 (leastN q.2.2.2.2.2.2) hls.1
  have hids := h.ri.ids
  have hids : (q.2.2.2.2.2.2.length : Int) ≤ n - q.2.2.2.2.2.1 := hids
  have hc : ChOk (((leastN q.2.2.2.2.2.2 : Nat) : Int), (p.length : Int), p) := ⟨hin.1, hin.2.1, rfl, by show 0 ≤ ((leastN q.2.2.2.2.2.2 : Nat) : Int) ∧ ((leastN q.2.2.2.2.2.2 : Nat) : Int) ≤ 40000; omega, hin.2.2.1⟩
  have esp : sumC (P ++ [(((leastN q.2.2.2.2.2.2 : Nat) : Int), (p.length : Int), p)]) = sumC P + (p.length : Int) := by rw [sumC_app]; simp [sumC]
  refine ⟨_, e1, .inl ⟨rfl, ⟨hri, ?_, h.tk, h.rid, ?_, h.qb, ?_, h.dl, h.dn, h.db, h.dt, h.dS, h.dq, h.dk⟩⟩⟩
  ·show Ring n g'.1 a R (sumC T) _
   rw [e3, h.qn]
   exact Ring.post hn h.ring hc (by show sumE R + sumC T + sumC P + (p.length : Int) ≤ n; omega)
  ·show nextSp q.2.1 (p.length : Int) n = _
   rw [h.qn, spt_next n _ _ hn.1 (by omega), esp]
   congr 1; omega
  ·show (mput q.2.2.2.2.2.2 _ _).Perm _
   rw [mput_newI _ hls.2, List.map_append]
   have := h.pm.append_right [(((leastN q.2.2.2.2.2.2 : Nat) : Int), (p.length : Int))]
   simpa [List.append_assoc, ek] using this
 ·refine ⟨((0, mayE p 1024 q.2.2.2.2.2.1), (q, g)), ?_, .inr ⟨hE, ?_, h⟩⟩
  ·unfold F_drvq_Queue_Post.S F_drvq_Queue_Post.top
   rw [hm, O.bind_ok]
   dsimp only
   rw [O.cond_pos hE]
  ·intro e
   change mayE p 1024 q.2.2.2.2.2.1 = 151 at e
   unfold mayE at e
   split at e
   ·split at e
    ·assumption
    ·exact absurd (show (0 : Int) = 151 from e) (by decide)
   ·exact absurd (show (150 : Int) = 151 from e) (by decide)
theorem BI.reap {n : Int} (hn : 1 ≤ n ∧ n ≤ 32) (k : Nat) (hk : 80 ≤ k) {q : TV} {d : TQ} {g : TM} {a : Int} {R : List Ent} {T P : List CH} (h : BI n q d g a R T P) :
  ∃ r, F_drvq_Queue_Reap.S k q g = .ok r ∧ ((R = [] ∧ r.1 = (0, 0, false, 0) ∧ BI n r.2.1 d r.2.2 a [] T P) ∨ ∃ e R', R = e :: R' ∧ r.1 = (e.1, e.2.2, true, 0) ∧ BI n r.2.1 d r.2.2 (a + e.2.1) R' T P) := by
 have hl : g.1.length = 1024 := h.ri.len
 have hin := spt_in n a hn.1
 obtain ⟨r, f1, f2, f3, _⟩ := Reap_any k (by omega) (len := 1024) (by omega) (layQ_in n hn) q g h.ri
 have hR := Reap_is k (by omega) q g h.ri.okg (16 * (spt n a).1) (by rw [h.ri.lay, h.qb]; show _ = 0 + _; omega) (by rw [h.ri.lay, h.qb]; exact ⟨Int.le_refl 0, hin.1⟩) (by omega)
 rw [f1] at hR
 change _ = O.cond (!(usP (rdP n g.1 a).2.2.2 q.2.2.1.2)) (.ok _) (O.cond (!(mhas q.2.2.2.2.2.2 (rdP n g.1 a).2.2.1)) (.ok _) (O.bind (F_spot_Next.S k q.2.2.1 (mget (0 : Int) q.2.2.2.2.2.2 (rdP n g.1 a).2.2.1) q.1.2.1) fun r7 => .ok (((rdP n g.1 a).2.2.1, (IntKind.i64.wrap (rdP n g.1 a).2.1), true, (0 : Int)), ((q.1, q.2.1, r7.1, q.2.2.2.1, q.2.2.2.2.1, (IntKind.i64.wrap (q.2.2.2.2.2.1 + (mget (0 : Int) q.2.2.2.2.2.2 (rdP n g.1 a).2.2.1))), (mdel q.2.2.2.2.2.2 (rdP n g.1 a).2.2.1)), rdM g (16 * (spt n a).1) 16)))) at hR
 refine ⟨r, f1, ?_⟩
 cases R with
 | nil =>
  left
  have hu := h.ring.nous a (by simp [sumE]) (by simp only [sumE]; omega)
  rw [h.qb, hu, Bool.not_false, O.cond_true] at hR
  have hR := O.ok.inj hR
  refine ⟨rfl, by rw [hR], ?_⟩
  have e1 : r.2.1 = q := by rw [hR]
  rw [e1]
  rw [e1] at f3
  exact ⟨f3, by rw [f2]; exact h.ring, h.tk, h.rid, h.qn, h.qb, h.pm, h.dl, h.dn, h.db, h.dt, h.dS, h.dq, h.dk⟩
 | cons e R' =>
  right
  obtain ⟨r1, r2, r3⟩ := h.ring.ret.1
  have hrid := h.rid e List.mem_cons_self
  have hcn := h.ring.re e List.mem_cons_self
  have hmem : (e.1, e.2.1) ∈ q.2.2.2.2.2.2 := h.pm.symm.subset (by simp [er])
  have hget := mget_mem h.ri.keys hmem
  have hhas : mhas q.2.2.2.2.2.2 e.1 = true := mhas_iff.2 (List.mem_map.2 ⟨_, hmem, rfl⟩)
  have hs := h.sums
  have hr0 := sumE_nonneg h.ring.re
  have hp0 := sumC_nonneg h.ring.pe
  have ht0 := sumC_nonneg h.tk
  have hfr := h.ri.fr
  simp only [sumE] at hs hr0
  have hr1 := sumE_nonneg (R := R') fun x hx => h.ring.re x (List.mem_cons_of_mem _ hx)
  have en : q.1.2.1 = n := by rw [h.ri.lay]; rfl
  have ex : ∀ x : Int, x + sumE (e :: R') = x + e.2.1 + sumE R' := fun x => by simp only [sumE]; omega
  rw [r3, h.qb, used_is, Bool.not_true, O.cond_false, r2, hhas, Bool.not_true, O.cond_false, hget, en, spotNext_S k _ _ _ hin (by omega) (by omega), O.bind_ok, spt_next n _ _ hn.1 (by omega), r1, i64_in e.2.2 (by omega)] at hR
  have hR := O.ok.inj hR
  have e1 : r.2.1 = (q.1, q.2.1, spt n (a + e.2.1), q.2.2.2.1, q.2.2.2.2.1, IntKind.i64.wrap (q.2.2.2.2.2.1 + e.2.1), mdel q.2.2.2.2.2.2 e.1) := by rw [hR]
  refine ⟨e, R', rfl, by rw [hR], ⟨f3, by rw [f2]; exact h.ring.reap, h.tk, fun x hx => h.rid x (List.mem_cons_of_mem _ hx), ?_, ?_, ?_, h.dl, ?_, ?_, h.dt, h.dS, h.dq, h.dk⟩⟩
  ·rw [e1, ← ex]; exact h.qn
  ·rw [e1]
  ·rw [e1]
   have h1 := (mdel_perm _ _ hhas).symm.trans h.pm
   rw [hget] at h1
   exact List.Perm.cons_inv (a := (e.1, e.2.1)) (by simpa [er] using h1)
  ·rw [← ex]; exact h.dn
  ·rw [← ex]; exact h.db
end Go.Proofs.Ytpfddjdkafjjfaa
end
section
namespace Go.Proofs.Ytpfddjdkafjjfaa
open Go.Aq Go.IntWalk
set_option linter.unusedVariables false
theorem bAnd_le (a : Int) (m : Nat) (hm : m < 1000000) : 0 ≤ bAnd .i64 a (m : Int) ∧ bAnd .i64 a (m : Int) ≤ m := by
 have e : (BitVec.ofInt 64 (m : Int)).toNat = m := natOf_ofInt .i64 m (by show m < 2 ^ 64; omega)
 have h : (BitVec.ofInt 64 a &&& BitVec.ofInt 64 (m : Int)).toNat ≤ m := by
  rw [BitVec.toNat_and, e]; exact Nat.and_le_right
 unfold bAnd
 rw [show IntKind.i64.bits = 64 from rfl, i64_in _ (by omega)]
 omega
theorem alF_of (p : List TP) (len : Int) : ∀ (m i : Nat), (∀ j, i ≤ j → j < i + m → pOk p len j = true) → alF p len m i = true
 | 0, i, _ => rfl
 | m + 1, i, h => by
  unfold alF
  rw [h i (Nat.le_refl _) (by omega), alF_of p len m (i + 1) fun j h1 h2 => h j (by omega) (by omega)]
  rfl
theorem paP_lt (p : List TP) (x : TP) (j : Nat) (h : j < p.length) : paP (p ++ [x]) j = paP p j := by
 unfold paP
 rw [gt_at _ _ j (by simp; omega), gt_at _ _ j h, List.getElem_append_left h]
theorem paP_end (p : List TP) (x : TP) : paP (p ++ [x]) p.length = x := by
 unfold paP
 rw [gt_at _ _ _ (by simp)]; simp
def okPs (p : List TP) : Prop := ∀ j, j < p.length → pOk p 1024 j = true
theorem okPs_add (p : List TP) (x : TP) (h : okPs p) (h1 : 0 < x.2.1) (h2 : mayM x.1 x.2.1 1024 = true) (h3 : p.length = 0 ∨ x.2.2 = true ∨ x.2.2 = (paP p (p.length - 1)).2.2) : okPs (p ++ [x]) := by
 intro j hj
 simp only [List.length_append, List.length_singleton] at hj
 by_cases e : j < p.length
 ·have := h j e
  unfold pOk at this ⊢
  rw [paP_lt p x j e]
  by_cases j0 : j = 0
  ·subst j0
   simpa using this
  ·rw [paP_lt p x (j - 1) (by omega)]; exact this
 ·obtain rfl : j = p.length := by omega
  unfold pOk
  rw [paP_end, decide_eq_true h1, h2]
  rcases h3 with h3 | h3 | h3
  ·rw [decide_eq_true h3]; rfl
  ·rw [h3]; simp
  ·by_cases j0 : p.length = 0
   ·rw [decide_eq_true j0]; rfl
   ·rw [paP_lt p x _ (by omega), h3]
    cases (paP p (p.length - 1)).2.2 <;> simp
theorem inside_S (k : Nat) (hk : 20 ≤ k) (l : List TP) (hl : l.length ≤ 9223372036854775807) : ∃ p, F_aqueductlaw15_inside.S k l = .ok p ∧ (p = [] ∨ (p.length ≤ 64 ∧ alF p 1024 p.length 0 = true)) := by
 have fin : ∀ p : List TP, okPs p → p.length ≤ 5 → p = [] ∨ (p.length ≤ 64 ∧ alF p 1024 p.length 0 = true) := fun p h1 h2 => .inr ⟨by omega, alF_of p 1024 p.length 0 fun j _ hj => h1 j (by omega)⟩
 have lp : ∀ (m i j : Nat) (p : List TP), i + m = 5 → m < j → p.length = i → okPs p → ∃ p', F_aqueductlaw15_inside.l0 k l j (i : Int) p = .ok p' ∧ (p' = [] ∨ (p'.length ≤ 64 ∧ alF p' 1024 p'.length 0 = true)) := by
  intro m
  induction m with
  | zero =>
   intro i j p hi hj hp ho
   obtain ⟨j, rfl⟩ : ∃ i, j = i + 1 := ⟨j - 1, by omega⟩
   show ∃ p', F_aqueductlaw15_inside.l0_b _ _ _ _ _ = .ok p' ∧ _
   unfold F_aqueductlaw15_inside.l0_b
   by_cases h1 : (i : Int) < l.length
   ·rw [O.cond_pos h1, O.cond_neg (by omega)]; exact ⟨p, rfl, fin p ho (by omega)⟩
   ·rw [O.cond_neg h1]; exact ⟨p, rfl, fin p ho (by omega)⟩
  | succ m ih =>
   intro i j p hi hj hp ho
   obtain ⟨j, rfl⟩ : ∃ i, j = i + 1 := ⟨j - 1, by omega⟩
   show ∃ p', F_aqueductlaw15_inside.l0_b _ _ _ _ _ = .ok p' ∧ _
   unfold F_aqueductlaw15_inside.l0_b
   by_cases h1 : (i : Int) < l.length
   ·have c1 : (0 : Int) ≤ (i : Int) ∧ (i : Int) < (l.length : Int) ∧ (l.length : Int) ≤ (l.length : Int) := by omega
    have c2 : (0 : Int) ≤ (i : Int) ∧ (i : Int) < (l.length : Int) := by omega
    have b1 : 0 ≤ bAnd .i64 (gt ((0 : Int), (0 : Int), false) l (i : Int)).1 (255 : Int) ∧ bAnd .i64 (gt ((0 : Int), (0 : Int), false) l (i : Int)).1 (255 : Int) ≤ 255 := bAnd_le _ 255 (by decide)
    have b2 : 0 ≤ bAnd .i64 (gt ((0 : Int), (0 : Int), false) l (i : Int)).2.1 (127 : Int) ∧ bAnd .i64 (gt ((0 : Int), (0 : Int), false) l (i : Int)).2.1 (127 : Int) ≤ 127 := bAnd_le _ 127 (by decide)
    rw [O.cond_pos h1, O.cond_pos (by omega), O.chk_dec c1, O.chk_dec c2, O.chk_dec c1, O.chk_dec c2, O.chk_dec c1, O.chk_dec c2]
    generalize bAnd .i64 (gt ((0 : Int), (0 : Int), false) l (i : Int)).1 (255 : Int) = x1 at b1
    generalize bAnd .i64 (gt ((0 : Int), (0 : Int), false) l (i : Int)).2.1 (127 : Int) = x2 at b2
    rw [i64_in (520 + x1) (by omega), i64_in (1 + x2) (by omega), i64_in ((i : Int) + 1) (by omega)]
    have nxt : ∀ w : Bool, (p.length = 0 ∨ w = true ∨ w = (paP p (p.length - 1)).2.2) → ∃ p', F_aqueductlaw15_inside.l0 k l j ((i : Int) + 1) (p ++ [(520 + x1, 1 + x2, w)]) = .ok p' ∧ (p' = [] ∨ (p'.length ≤ 64 ∧ alF p' 1024 p'.length 0 = true)) := fun w hw =>
     ih (i + 1) j _ (by omega) (by omega) (by simp [hp]) (okPs_add p _ ho (by show 0 < 1 + x2; omega) (mayM_iff.2 (by show 0 ≤ 520 + x1 ∧ 0 ≤ 1 + x2 ∧ 1 + x2 ≤ 1024 ∧ 520 + x1 ≤ 1024 - (1 + x2); omega)) hw)
    cases (gt ((0 : Int), (0 : Int), false) l (i : Int)).2.2 with
    | true =>
     rw [O.cond_true, O.chk_dec (by simp; omega)]
     exact nxt true (.inr (.inl rfl))
    | false =>
     rw [O.cond_false]
     by_cases i0 : (i : Int) > 0
     ·rw [O.cond_pos i0, i64_in ((i : Int) - 1) (by omega), O.chk_dec (by omega), O.chk_dec (by omega), O.chk_dec (by simp; omega)]
      refine nxt _ (.inr (.inr ?_))
      unfold paP
      rw [hp, show ((i - 1 : Nat) : Int) = (i : Int) - 1 by omega]
     ·rw [O.cond_neg i0, O.chk_dec (by simp; omega)]
      exact nxt false (.inl (by omega))
   ·rw [O.cond_neg h1]; exact ⟨p, rfl, fin p ho (by omega)⟩
 exact lp 5 0 k [] (by omega) (by omega) rfl (fun j hj => by cases hj)
theorem without_S (k : Nat) (T : List CH) (x : Nat) (hx : x < T.length) (hk : T.length < k) (hT : T.length ≤ 1000) : F_aqueductlaw15_without.S k T (x : Int) = .ok (T.take x ++ T.drop (x + 1)) := by
 have lp : ∀ (m i j : Nat) (p : List CH), i + m = T.length → m < j → p.length ≤ i → F_aqueductlaw15_without.l0 k T (x : Int) j (i : Int) p = .ok (p ++ (if i ≤ x then (T.drop i).take (x - i) ++ T.drop (x + 1) else T.drop i)) := by
  intro m
  induction m with
  | zero =>
   intro i j p hi hj hp
   obtain ⟨j, rfl⟩ : ∃ i, j = i + 1 := ⟨j - 1, by omega⟩
   show F_aqueductlaw15_without.l0_b _ _ _ _ _ _ = _
   unfold F_aqueductlaw15_without.l0_b
   rw [O.cond_neg (by omega), if_neg (by omega), List.drop_eq_nil_of_le (by omega), List.append_nil]
  | succ m ih =>
   intro i j p hi hj hp
   obtain ⟨j, rfl⟩ : ∃ i, j = i + 1 := ⟨j - 1, by omega⟩
   show F_aqueductlaw15_without.l0_b _ _ _ _ _ _ = _
   unfold F_aqueductlaw15_without.l0_b
   rw [O.cond_pos (by omega), i64_in ((i : Int) + 1) (by omega)]
   by_cases e : i = x
   ·subst e
    rw [O.cond_neg (by simp)]
    have := ih (i + 1) j p (by omega) (by omega) (by omega)
    refine this.trans ?_
    rw [if_neg (by omega), if_pos (Nat.le_refl _)]; simp
   ·rw [O.cond_pos (by omega), O.chk_dec (by omega), O.chk_dec (by omega), O.chk_dec (by omega), gt_at _ T i (by omega)]
    have := ih (i + 1) j (p ++ [T[i]'(by omega)]) (by omega) (by omega) (by simp; omega)
    refine this.trans ?_
    rw [List.append_assoc]
    by_cases h : i ≤ x
    ·rw [if_pos (by omega), if_pos h, List.drop_eq_getElem_cons (show i < T.length by omega), show x - i = (x - (i + 1)) + 1 by omega, List.take_succ_cons]; rfl
    ·rw [if_neg (by omega), if_neg h, List.drop_eq_getElem_cons (show i < T.length by omega)]; rfl
 have := lp T.length 0 k [] (by omega) hk (by simp)
 unfold F_aqueductlaw15_without.S F_aqueductlaw15_without.top
 refine this.trans ?_
 rw [if_pos (Nat.zero_le _)]; simp
theorem Same14_S (k : Nat) (c : CH) (hc : c.2.2.length ≤ 1000) (hk : c.2.2.length < k) : F_aqueductref14_Same.S k c c = .ok true := by
 have lp : ∀ (m i j : Nat), i + m = c.2.2.length → m < j → F_aqueductref14_Same.l0 k c c j (i : Int) = .ok true := by
  intro m
  induction m with
  | zero =>
   intro i j hi hj
   obtain ⟨j, rfl⟩ : ∃ i, j = i + 1 := ⟨j - 1, by omega⟩
   show F_aqueductref14_Same.l0_b _ _ _ _ _ = _
   unfold F_aqueductref14_Same.l0_b
   rw [O.cond_neg (by omega)]
  | succ m ih =>
   intro i j hi hj
   obtain ⟨j, rfl⟩ : ∃ i, j = i + 1 := ⟨j - 1, by omega⟩
   show F_aqueductref14_Same.l0_b _ _ _ _ _ = _
   unfold F_aqueductref14_Same.l0_b
   rw [O.cond_pos (by omega), O.chk_dec (by omega), O.chk_dec (by omega), O.chk_dec (by omega), O.chk_dec (by omega), i64_in ((i : Int) + 1) (by omega)]
   simp only [decide_true, Bool.and_self, Bool.not_true, O.cond_false]
   exact ih (i + 1) j (by omega) (by omega)
 unfold F_aqueductref14_Same.S F_aqueductref14_Same.top
 rw [O.cond_neg (by simp), O.cond_neg (by simp), O.cond_neg (by simp)]
 exact lp _ 0 k (by omega) hk
theorem len_sumC : ∀ {P : List CH}, (∀ c ∈ P, ChOk c) → (P.length : Int) ≤ sumC P
 | [], _ => by simp [sumC]
 | c :: P, h => by
  have := len_sumC fun c hc => h c (List.mem_cons_of_mem _ hc)
  have h1 := (h c List.mem_cons_self).cnt
  have h2 := (h c List.mem_cons_self).lo
  simp only [sumC, List.length_cons]; omega
theorem len_sumE : ∀ {P : List Ent}, (∀ c ∈ P, 1 ≤ c.2.1) → (P.length : Int) ≤ sumE P
 | [], _ => by simp [sumE]
 | c :: P, h => by
  have := len_sumE fun c hc => h c (List.mem_cons_of_mem _ hc)
  have h1 := h c List.mem_cons_self
  simp only [sumE, List.length_cons]; omega
theorem BI.lens {n : Int} {q : TV} {d : TQ} {g : TM} {a : Int} {R : List Ent} {T P : List CH} (h : BI n q d g a R T P) : (R.length : Int) + T.length + P.length ≤ n := by
 have h1 := len_sumE h.ring.re; have h2 := len_sumC h.tk; have h3 := len_sumC h.ring.pe; have h4 := h.ring.fit
 omega
theorem dr_l3 {n : Int} (hn : 1 ≤ n ∧ n ≤ 32) (k : Nat) (hk : 300 ≤ k) (a2 : Nat) (ha : a2 ≤ 32) (R0) (d : TQ) : ∀ (m i j : Nat), i + m = a2 → m < j → ∀ (q : TV) (g : TM) (a : Int) (R : List Ent), BI n q d g a R [] [] → R.length = m →
  ∃ z, F_aqueductlaw15_drained.l3 k (a2 : Int) d.1.1 d.1.2.1 d.1.2.2.1 d.1.2.2.2 d.2.1.1 d.2.1.2 d.2.2.1.1 d.2.2.1.2 d.2.2.2.1.1 d.2.2.2.1.2 d.2.2.2.2.1 d.2.2.2.2.2.1 d.2.2.2.2.2.2 R0 j (i : Int) q.2.2.2.2.2.2 g.1 g.2.2 q.1.1 q.1.2.1 q.1.2.2.1 q.1.2.2.2 q.2.1.1 q.2.1.2 q.2.2.1.1 q.2.2.1.2 q.2.2.2.1.1 q.2.2.2.1.2 q.2.2.2.2.1 q.2.2.2.2.2.1 g.2.1 = .ok (true, z) := by
 intro m
 induction m with
 | zero =>
  intro i j hi hj q g a R h hR
  obtain ⟨j, rfl⟩ : ∃ i, j = i + 1 := ⟨j - 1, by omega⟩
  obtain ⟨r, hr, hr2⟩ := BI.reap hn k (by omega) h
  have hR0 : R = [] := List.length_eq_zero_iff.1 hR
  obtain ⟨_, r1, r2⟩ : R = [] ∧ r.1 = (0, 0, false, 0) ∧ BI n r.2.1 d r.2.2 a [] [] [] := by
   rcases hr2 with h1 | ⟨e, R', h1, _⟩
   ·exact h1
   ·rw [hR0] at h1; cases h1
  have hh := r2.ri.held (by show n ≤ 32768; omega)
  have hl := r2.len
  have hq := r2.dq
  show ∃ z, F_aqueductlaw15_drained.l3_b _ _ _ _ _ _ _ _ _ _ _ _ _ _ _ _ _ _ _ _ _ _ _ _ _ _ _ _ _ _ _ _ _ _ = .ok (true, z)
  unfold F_aqueductlaw15_drained.l3_b
  rw [O.cond_neg (by omega)]
  show ∃ z, O.bind (F_drvq_Queue_Reap.S k q g) _ = .ok (true, z)
  rw [hr, O.bind_ok, r1]
  dsimp only
  rw [Bool.not_false, O.cond_true, O.cond_pos rfl, hh, O.chk_true, O.cond_pos (by rw [hl]; rfl), O.cond_pos (by rw [hq]; rfl), r2.dk]
  exact ⟨_, rfl⟩
 | succ m ih =>
  intro i j hi hj q g a R h hR
  obtain ⟨j, rfl⟩ : ∃ i, j = i + 1 := ⟨j - 1, by omega⟩
  obtain ⟨r, hr, hr2⟩ := BI.reap hn k (by omega) h
  obtain ⟨e, R', h1, r1, r2⟩ : ∃ e R', R = e :: R' ∧ r.1 = (e.1, e.2.2, true, 0) ∧ BI n r.2.1 d r.2.2 (a + e.2.1) R' [] [] := by
   rcases hr2 with ⟨h1, _⟩ | h1
   ·rw [h1] at hR; cases hR
   ·exact h1
  show ∃ z, F_aqueductlaw15_drained.l3_b _ _ _ _ _ _ _ _ _ _ _ _ _ _ _ _ _ _ _ _ _ _ _ _ _ _ _ _ _ _ _ _ _ _ = .ok (true, z)
  unfold F_aqueductlaw15_drained.l3_b
  rw [O.cond_pos (by omega)]
  show ∃ z, O.bind (F_drvq_Queue_Reap.S k q g) _ = .ok (true, z)
  rw [hr, O.bind_ok, r1]
  dsimp only
  rw [Bool.not_true, O.cond_false, O.cond_neg (by simp), i64_in ((i : Int) + 1) (by omega)]
  exact ih (i + 1) j (by omega) (by omega) r.2.1 r.2.2 _ R' r2 (by rw [h1] at hR; simpa using hR)
theorem dr_l1 {n : Int} (hn : 1 ≤ n ∧ n ≤ 32) (k : Nat) (hk : 300 ≤ k) (a2 : Nat) (ha : a2 ≤ 32) (R0) (q : TV) : ∀ (m i j : Nat), i + m < 200 → m < j → ∀ (d : TQ) (g : TM) (a : Int) (R : List Ent) (P : List CH), BI n q d g a R [] P → P.length = m → R.length + P.length = a2 →
  ∃ z, flatQ (F_aqueductlaw15_drained.l1 k (a2 : Int) q R0 j (i : Int) g.1 g.2.2 g.2.1) d = .ok (true, z) := by
 have fin : ∀ (d : TQ) (g : TM) (a : Int) (R : List Ent), BI n q d g a R [] [] → R.length = a2 → ∃ z, flatQ (F_aqueductlaw15_drained.j3 k (a2 : Int) q R0 g.1 g.2.2 g.2.1) d = .ok (true, z) := fun d g a R h hR => dr_l3 hn k hk a2 ha R0 d a2 0 k (by omega) (by omega) q g a R h hR
 intro m
 induction m with
 | zero =>
  intro i j hi hj d g a R P h hP hR
  obtain ⟨j, rfl⟩ : ∃ i, j = i + 1 := ⟨j - 1, by omega⟩
  have hP0 : P = [] := List.length_eq_zero_iff.1 hP
  subst hP0
  obtain ⟨r, hr, hr2⟩ := BI.next hn k (by omega) h
  obtain ⟨_, r1, r2⟩ : ([] : List CH) = [] ∧ r.1 = (zeroC, false, 0) ∧ BI n q r.2.1 r.2.2 a R [] [] := by
   rcases hr2 with h1 | ⟨e, R', h1, _⟩
   ·exact h1
   ·cases h1
  unfold flatQ
  show ∃ z, F_aqueductlaw15_drained.l1_b _ _ _ _ _ _ _ _ _ _ _ _ _ _ _ _ _ _ _ _ _ _ _ = .ok (true, z)
  unfold F_aqueductlaw15_drained.l1_b
  rw [O.cond_pos (by omega)]
  show ∃ z, O.bind (F_devq_Queue_Next.S k d g) _ = .ok (true, z)
  rw [hr, O.bind_ok, r1]
  dsimp only
  rw [O.cond_neg (by simp), Bool.not_false, O.cond_true]
  exact fin r.2.1 r.2.2 a R r2 (by simpa using hR)
 | succ m ih =>
  intro i j hi hj d g a R P h hP hR
  obtain ⟨j, rfl⟩ : ∃ i, j = i + 1 := ⟨j - 1, by omega⟩
  obtain ⟨r, hr, hr2⟩ := BI.next hn k (by omega) h
  obtain ⟨c, P', h1, r1, r2⟩ : ∃ c P', P = c :: P' ∧ r.1 = (c, true, 0) ∧ BI n q r.2.1 r.2.2 a R ([] ++ [c]) P' := by
   rcases hr2 with ⟨h1, _⟩ | h1
   ·rw [h1] at hP; cases hP
   ·exact h1
  obtain ⟨d', g', e1, e2⟩ := BI.done (T1 := []) (T2 := []) hn k (by omega) r2 0 (by omega)
  unfold flatQ
  show ∃ z, F_aqueductlaw15_drained.l1_b _ _ _ _ _ _ _ _ _ _ _ _ _ _ _ _ _ _ _ _ _ _ _ = .ok (true, z)
  unfold F_aqueductlaw15_drained.l1_b
  rw [O.cond_pos (by omega)]
  show ∃ z, O.bind (F_devq_Queue_Next.S k d g) _ = .ok (true, z)
  rw [hr, O.bind_ok, r1]
  dsimp only
  rw [O.cond_neg (by simp), Bool.not_true, O.cond_false, e1, O.bind_ok]
  dsimp only
  rw [O.cond_neg (by simp), i64_in ((i : Int) + 1) (by omega)]
  exact ih (i + 1) j (by omega) (by omega) d' g' a _ P' e2 (by rw [h1] at hP; simpa using hP) (by rw [h1] at hR; simp at hR ⊢; omega)
theorem dr_l0 {n : Int} (hn : 1 ≤ n ∧ n ≤ 32) (k : Nat) (hk : 300 ≤ k) (a2 : Nat) (ha : a2 ≤ 32) (q : TV) (T : List CH) (hT : T.length ≤ 100) : ∀ (m i j : Nat), i + m = T.length → m < j → ∀ (d : TQ) (g : TM) (a : Int) (R : List Ent) (P : List CH), BI n q d g a R (T.drop i) P → R.length + (m + P.length) = a2 →
  ∃ z, flatQ (F_aqueductlaw15_drained.l0 k (a2 : Int) T q j (i : Int) g.1 g.2.2 g.2.1) d = .ok (true, z) := by
 intro m
 induction m with
 | zero =>
  intro i j hi hj d g a R P h hR
  obtain ⟨j, rfl⟩ : ∃ i, j = i + 1 := ⟨j - 1, by omega⟩
  rw [List.drop_eq_nil_of_le (by omega)] at h
  unfold flatQ
  show ∃ z, F_aqueductlaw15_drained.l0_b _ _ _ _ _ _ _ _ _ _ _ _ _ _ _ _ _ _ _ _ _ _ _ = .ok (true, z)
  unfold F_aqueductlaw15_drained.l0_b
  rw [O.cond_neg (by omega)]
  have hl := h.lens
  exact dr_l1 hn k hk a2 ha _ q P.length 0 k (by omega) (by omega) d g a R P h rfl (by omega)
 | succ m ih =>
  intro i j hi hj d g a R P h hR
  obtain ⟨j, rfl⟩ : ∃ i, j = i + 1 := ⟨j - 1, by omega⟩
  have hl := h.lens
  rw [List.length_drop] at hl
  rw [List.drop_eq_getElem_cons (show i < T.length by omega)] at h
  obtain ⟨d', g', e1, e2⟩ := BI.done (T1 := []) hn k (by omega) h 1 (by omega)
  unfold flatQ
  show ∃ z, F_aqueductlaw15_drained.l0_b _ _ _ _ _ _ _ _ _ _ _ _ _ _ _ _ _ _ _ _ _ _ _ = .ok (true, z)
  unfold F_aqueductlaw15_drained.l0_b
  rw [O.cond_pos (by omega), O.chk_dec (by omega), O.chk_dec (by omega), O.chk_dec (by omega), O.chk_dec (by omega), gt_at _ T i (by omega)]
  show ∃ z, O.bind (F_devq_Queue_Done.S k (T[i]'(by omega)).1 (T[i]'(by omega)).2.1 1 d g) _ = .ok (true, z)
  rw [e1, O.bind_ok]
  dsimp only
  rw [O.cond_neg (by simp), i64_in ((i : Int) + 1) (by omega)]
  exact ih (i + 1) j (by omega) (by omega) d' g' a _ P e2 (by simp; omega)
theorem drained_S {n : Int} (hn : 1 ≤ n ∧ n ≤ 32) (k : Nat) (hk : 300 ≤ k) (q : TV) (d : TQ) (g : TM) (a : Int) (R : List Ent) (T P : List CH) (h : BI n q d g a R T P) (a2 : Int) (ha : a2 = (P.length : Int) + T.length + R.length) :
  ∃ z, F_aqueductlaw15_drained.S k a2 T q g d = .ok (true, z) := by
 have hl := h.lens
 have := dr_l0 hn k hk (R.length + (T.length + P.length)) (by omega) q T (by omega) T.length 0 k (by omega) (by omega) d g a R P h rfl
 rw [show a2 = ((R.length + (T.length + P.length) : Nat) : Int) by omega]
 exact this
end Go.Proofs.Ytpfddjdkafjjfaa
end
section
namespace Go.Proofs.Ytpfddjdkafjjfaa
open Go.Aq Go.IntWalk
set_option linter.unusedVariables false
theorem max_len : maxLen = 9223372036854775807 := by decide
def flatV {α : Type} (F : Int → Int → Int → Int → Int → Bool → Int → Bool → Int → Bool → Int → Int → α) (q : TV) : α := F q.1.1 q.1.2.1 q.1.2.2.1 q.1.2.2.2 q.2.1.1 q.2.1.2 q.2.2.1.1 q.2.2.1.2 q.2.2.2.1.1 q.2.2.2.1.2 q.2.2.2.2.1 q.2.2.2.2.2.1
def MI (n : Int) (q : TV) (d : TQ) (g : TM) (P T : List CH) (I W : List Int) : Prop := ∃ a R, BI n q d g a R T P ∧ I = R.map (·.1) ∧ W = R.map (·.2.2)
theorem chkA (l : Nat) : (decide (0 ≤ (min (1 : Int) (l : Int)) ∧ (min (1 : Int) (l : Int)) ≤ (l : Int)) && (decide (0 ≤ (l : Int) ∧ (l : Int) ≤ (l : Int)))) = true := by
 rw [decide_eq_true (by omega), decide_eq_true (by omega)]; rfl
theorem chkB (l : Nat) : (posI [(min (1 : Int) (l : Int))] && decide (0 ≤ ((l : Int) - (min (1 : Int) (l : Int))) ∧ sumI [(min (1 : Int) (l : Int))] + ((l : Int) - (min (1 : Int) (l : Int))) ≤ (l : Int))) = true := by
 have e1 : posI [(min (1 : Int) (l : Int))] = true := by simp [posI]; omega
 rw [e1, decide_eq_true (by simp only [sumI]; omega)]; rfl
theorem sub_one (l : List Int) : sub l (sumI [(min (1 : Int) (l.length : Int))]) ((l.length : Int) - (min (1 : Int) (l.length : Int))) = l.drop 1 := by
 unfold sub
 simp only [sumI]
 cases l with
 | nil => rfl
 | cons x r =>
  have e1 : (min (1 : Int) ((x :: r).length : Int)) = 1 := by simp only [List.length_cons]; omega
  rw [e1]
  have e2 : (((x :: r).length : Int) - 1).toNat = r.length := by simp only [List.length_cons]; omega
  rw [e2]
  show List.take r.length r = r
  exact List.take_length
abbrev TYR := Int → Int → Int → Int → Int → Int → Bool → Int → Bool → Int → Bool → Int → Int → Int → Int → Int → Int → Int → Bool → Int → Bool → Int → Bool → Int → Int → Bool → List CH → List CH → List Int → List Int → Int → EI → List Int → List (Int × Int × Int × Bool) → O Bool
section
variable (k : Nat) (a1 : List ((List (Int × Int × Bool)) × Bool × Bool × Bool × Int × Int × Int)) (n : Int)
theorem both_j16 (hk : 300 ≤ k) (hn : 1 ≤ n ∧ n ≤ 32) (i : Nat) (hi : i < 100) (r333 : (Int × Int) × TV × TM) (R : TYR)
  (HR : ∀ (q : TV) (d : TQ) (g : TM) (P T : List CH) (I W : List Int), MI n q d g P T I W → flatQ (flatV (R ((i : Int) + 1)) q) d P T I W g.2.1 q.2.2.2.2.2.2 g.1 g.2.2 = .ok true)
  (d : TQ) (g : TM) (T P : List CH) (I W : List Int) (h : MI n r333.2.1 d g P T I W) :
  flatQ (F_aqueductlaw15_DrvqBoth.j16 k a1 (i : Int) r333 P R) d T I W g.2.1 g.1 g.2.2 = .ok true := by
 obtain ⟨a, S, hb, hI, hW⟩ := h
 have hls := hb.lens
 have hlI : I.length = S.length := by rw [hI, List.length_map]
 have hlW : W.length = S.length := by rw [hW, List.length_map]
 unfold flatQ
 show F_aqueductlaw15_DrvqBoth.j16_b _ _ _ _ _ _ _ _ _ _ _ _ _ _ _ _ _ _ _ _ _ _ _ _ _ = _
 unfold F_aqueductlaw15_DrvqBoth.j16_b
 have hdk : ∀ x y : O Bool, O.cond d.2.2.2.2.2.2 x y = y := fun x y => by rw [hb.dk, O.cond_false]
 cases (gt ([], false, false, false, (0 : Int), (0 : Int), (0 : Int)) a1 (i : Int)).2.2.2.1 with
 | false =>
  have hh := hb.ri.held (by show n ≤ 32768; omega)
  have hl := hb.len
  rw [O.cond_false, hdk, hh, O.chk_true, i64_in ((P.length : Int) + (T.length : Int)) (by omega), i64_in _ (by omega), O.cond_neg (by omega), i64_in ((i : Int) + 1) (by omega)]
  exact HR r333.2.1 d g P T I W ⟨a, S, hb, hI, hW⟩
 | true =>
  obtain ⟨r, hr, hr2⟩ := BI.reap hn k (by omega) hb
  rw [O.cond_true]
  show O.bind (F_drvq_Queue_Reap.S k r333.2.1 g) _ = _
  rw [hr, O.bind_ok]
  rcases hr2 with ⟨h0, r1, r2⟩ | ⟨e, S', h0, r1, r2⟩
  ·subst h0
   have hh := r2.ri.held (by show n ≤ 32768; omega)
   have hl := r2.len
   have hI0 : I = [] := hI
   have hW0 : W = [] := hW
   rw [r1]
   dsimp only
   rw [O.cond_neg (by simp), hI0, hW0, O.cond_neg (by simp), O.cond_false, chkA, O.chk_true, O.chk_true, hdk, hh, O.chk_true, chkB, O.chk_true, i64_in ((P.length : Int) + (T.length : Int)) (by omega), i64_in _ (by simp; omega), O.cond_neg (by simp at hl ⊢; omega), O.chk_true, O.chk_true, i64_in ((i : Int) + 1) (by omega), sub_one]
   exact HR r.2.1 d r.2.2 P T [] [] ⟨a, [], r2, rfl, rfl⟩
  ·have hh := r2.ri.held (by show n ≤ 32768; omega)
   have hl := r2.len
   subst h0
   have gI : gt (0 : Int) I (0 : Int) = e.1 := by rw [hI]; rfl
   have gW : gt (0 : Int) W (0 : Int) = e.2.2 := by rw [hW]; rfl
   simp only [List.length_cons] at hlI hlW hls
   rw [r1]
   dsimp only
   rw [O.cond_neg (by simp), O.cond_neg (by
    rw [decide_eq_true (show (I.length : Int) > 0 by omega)]; simp), O.cond_true, O.chk_dec (by omega), O.chk_dec (by omega), gI, O.cond_neg (by simp), O.chk_dec (by omega), O.chk_dec (by omega), gW, O.cond_neg (by simp), chkA I.length, O.chk_true, chkA W.length, O.chk_true, hdk, hh, O.chk_true, chkB I.length, O.chk_true, i64_in ((P.length : Int) + (T.length : Int)) (by omega), i64_in _ (by omega), O.cond_neg (by omega), O.chk_true, chkB W.length, O.chk_true, i64_in ((i : Int) + 1) (by omega), sub_one, sub_one]
   exact HR r.2.1 d r.2.2 P T (I.drop 1) (W.drop 1) ⟨_, S', r2, by rw [hI]; rfl, by rw [hW]; rfl⟩
theorem both_j15 (hk : 300 ≤ k) (hn : 1 ≤ n ∧ n ≤ 32) (i : Nat) (hi : i < 100) (r333 : (Int × Int) × TV × TM) (R : TYR)
  (HR : ∀ (q : TV) (d : TQ) (g : TM) (P T : List CH) (I W : List Int), MI n q d g P T I W → flatQ (flatV (R ((i : Int) + 1)) q) d P T I W g.2.1 q.2.2.2.2.2.2 g.1 g.2.2 = .ok true)
  (d : TQ) (g : TM) (T P : List CH) (I W : List Int) (h : MI n r333.2.1 d g P T I W) :
  flatQ (F_aqueductlaw15_DrvqBoth.j15 k a1 (i : Int) I W r333 R) d P T g.2.1 g.1 g.2.2 = .ok true := by
 have skip := both_j16 k a1 n hk hn i hi r333 R HR d g T P I W h
 obtain ⟨a, S, hb, hI, hW⟩ := h
 have hls := hb.lens
 have hlI : I.length = S.length := by rw [hI, List.length_map]
 have hlW : W.length = S.length := by rw [hW, List.length_map]
 unfold flatQ
 show F_aqueductlaw15_DrvqBoth.j15_b _ _ _ _ _ _ _ _ _ _ _ _ _ _ _ _ _ _ _ _ _ _ _ _ _ _ = _
 unfold F_aqueductlaw15_DrvqBoth.j15_b
 cases (gt ([], false, false, false, (0 : Int), (0 : Int), (0 : Int)) a1 (i : Int)).2.2.1 with
 | false => rw [O.cond_false]; exact skip
 | true =>
  rw [O.cond_true]
  by_cases h0 : (T.length : Int) > 0
  ·have b1 : 0 ≤ bAnd .i64 (gt ([], false, false, false, (0 : Int), (0 : Int), (0 : Int)) a1 (i : Int)).2.2.2.2.1 (65535 : Int) ∧ bAnd .i64 (gt ([], false, false, false, (0 : Int), (0 : Int), (0 : Int)) a1 (i : Int)).2.2.2.2.1 (65535 : Int) ≤ 65535 := bAnd_le _ 65535 (by decide)
   have b2 : 0 ≤ bAnd .i64 (gt ([], false, false, false, (0 : Int), (0 : Int), (0 : Int)) a1 (i : Int)).2.2.2.2.2.1 (65535 : Int) ∧ bAnd .i64 (gt ([], false, false, false, (0 : Int), (0 : Int), (0 : Int)) a1 (i : Int)).2.2.2.2.2.1 (65535 : Int) ≤ 65535 := bAnd_le _ 65535 (by decide)
   generalize bAnd .i64 (gt ([], false, false, false, (0 : Int), (0 : Int), (0 : Int)) a1 (i : Int)).2.2.2.2.1 (65535 : Int) = x at b1
   generalize bAnd .i64 (gt ([], false, false, false, (0 : Int), (0 : Int), (0 : Int)) a1 (i : Int)).2.2.2.2.2.1 (65535 : Int) = wr at b2
   have m1 := Int.emod_nonneg x (show (T.length : Int) ≠ 0 by omega)
   have m2 := Int.emod_lt_of_pos x h0
   rw [rem_in x _ b1.1]
   obtain ⟨t, ht⟩ : ∃ t : Nat, x % (T.length : Int) = (t : Int) := ⟨(x % (T.length : Int)).toNat, by omega⟩
   rw [ht] at m2 ⊢
   have htl : t < T.length := by omega
   have hT : T = T.take t ++ T[t] :: T.drop (t + 1) := by rw [← List.drop_eq_getElem_cons htl, List.take_append_drop]
   have hb' := hb
   rw [hT] at hb'
   obtain ⟨d', g', e1, e2⟩ := BI.done hn k (by omega) hb' wr (by omega)
   rw [O.cond_pos h0, O.chk_dec (by omega), O.chk_dec (by omega), O.chk_dec (by omega), O.chk_dec (by omega), O.chk_dec (by omega), gt_at _ T t htl]
   show O.bind (F_devq_Queue_Done.S k T[t].1 T[t].2.1 wr d g) _ = _
   rw [e1, O.bind_ok]
   dsimp only
   rw [O.cond_neg (by simp), O.chk_dec (by omega), O.chk_dec (by omega), O.chk_dec (by simp; omega), O.chk_dec (by simp; omega), without_S k T t htl (by omega) (by omega), O.bind_ok]
   exact both_j16 k a1 n hk hn i hi r333 R HR d' g' _ P _ _ ⟨a, _, e2, by rw [hI, List.map_append]; rfl, by rw [hW, List.map_append]; rfl⟩
  ·rw [O.cond_neg h0]; exact skip
theorem both_j14 (hk : 300 ≤ k) (hn : 1 ≤ n ∧ n ≤ 32) (i : Nat) (hi : i < 100) (r333 : (Int × Int) × TV × TM) (R : TYR)
  (HR : ∀ (q : TV) (d : TQ) (g : TM) (P T : List CH) (I W : List Int), MI n q d g P T I W → flatQ (flatV (R ((i : Int) + 1)) q) d P T I W g.2.1 q.2.2.2.2.2.2 g.1 g.2.2 = .ok true)
  (d : TQ) (T P : List CH) (I W : List Int) (h : MI n r333.2.1 d r333.2.2 P T I W) :
  flatQ (F_aqueductlaw15_DrvqBoth.j14 k a1 (i : Int)) d T I W r333 R P = .ok true := by
 have skip := both_j15 k a1 n hk hn i hi r333 R HR d r333.2.2 T P I W h
 obtain ⟨a, S, hb, hI, hW⟩ := h
 have hls := hb.lens
 unfold flatQ
 show F_aqueductlaw15_DrvqBoth.j14_b _ _ _ _ _ _ _ _ _ _ _ _ _ _ _ _ _ _ _ _ _ _ _ = _
 unfold F_aqueductlaw15_DrvqBoth.j14_b
 cases (gt ([], false, false, false, (0 : Int), (0 : Int), (0 : Int)) a1 (i : Int)).2.1 with
 | false => rw [O.cond_false]; exact skip
 | true =>
  obtain ⟨r, hr, hr2⟩ := BI.next hn k (by omega) hb
  rw [O.cond_true]
  show O.bind (F_devq_Queue_Next.S k d r333.2.2) _ = _
  rw [hr, O.bind_ok]
  rcases hr2 with ⟨h0, r1, r2⟩ | ⟨c, P', h0, r1, r2⟩
  ·subst h0
   rw [r1]
   dsimp only
   rw [O.cond_neg (by simp), O.cond_neg (by simp), O.cond_false]
   exact both_j15 k a1 n hk hn i hi r333 R HR r.2.1 r.2.2 T [] I W ⟨a, S, r2, hI, hW⟩
  ·subst h0
   have hc := hb.ring.pe c List.mem_cons_self
   have hhi := hc.hi
   have g0 : gt ((0 : Int), (0 : Int), []) (c :: P') (0 : Int) = c := rfl
   rw [r1]
   dsimp only
   simp only [List.length_cons] at hls
   rw [O.cond_neg (by simp), O.cond_neg (by rw [decide_eq_true (show ((c :: P').length : Int) > 0 by simp only [List.length_cons]; omega)]; simp), O.cond_true, O.chk_dec (by simp only [List.length_cons]; omega), O.twice_eq, O.chk_dec (by simp only [List.length_cons]; omega), g0, Same14_S k c (by omega) (by omega), O.bind_ok, Bool.not_true, O.cond_false, O.chk_dec (by simp only [List.length_cons]; omega), O.chk_dec (by omega)]
   exact both_j15 k a1 n hk hn i hi r333 R HR r.2.1 r.2.2 (T ++ [c]) P' I W ⟨a, S, r2, hI, hW⟩
theorem both_l0 (hk : 300 ≤ k) (fx : F_aqueductlaw15_fixed.S k = .ok true) (hn : 1 ≤ n ∧ n ≤ 32) (hl : ∀ x ∈ a1, x.1.length ≤ 9223372036854775807) : ∀ (m i j : Nat), i + m = 100 → m < j → ∀ (q : TV) (d : TQ) (g : TM) (P T : List CH) (I W : List Int), MI n q d g P T I W →
      flatQ (flatV (F_aqueductlaw15_DrvqBoth.l0 k a1 j (i : Int)) q) d P T I W g.2.1 q.2.2.2.2.2.2 g.1 g.2.2 = .ok true := by
  have fin : ∀ (q : TV) (d : TQ) (g : TM) (P T : List CH) (I W : List Int), MI n q d g P T I W → O.bind (F_aqueductlaw15_drained.S k (IntKind.i64.wrap ((IntKind.i64.wrap ((List.length P : Int) + (List.length T : Int))) + (List.length I : Int))) T q g d) (fun r383 =>
      O.cond r383.1 (O.bind (F_aqueductlaw15_fixed.S k) fun r384 => .ok r384) (.ok false)) = .ok true := by
    rintro q d g P T I W ⟨a, S, hb, hI, hW⟩
    have hls := hb.lens
    have hlI : I.length = S.length := by rw [hI, List.length_map]
    obtain ⟨z, hz⟩ := drained_S hn k hk q d g a S T P hb (IntKind.i64.wrap ((IntKind.i64.wrap ((List.length P : Int) + (List.length T : Int))) + (List.length I : Int))) (by rw [i64_in ((P.length : Int) + _) (by omega), i64_in _ (by omega), hlI])
    rw [hz, O.bind_ok]
    dsimp only
    rw [O.cond_true, fx, O.bind_ok]
  intro m
  induction m with
  | zero =>
    intro i j hi hj q d g P T I W h
    obtain ⟨j, rfl⟩ : ∃ i, j = i + 1 := ⟨j - 1, by omega⟩
    unfold flatQ flatV
    show F_aqueductlaw15_DrvqBoth.l0_b _ _ _ _ _ _ _ _ _ _ _ _ _ _ _ _ _ _ _ _ _ _ _ _ _ _ _ _ _ _ _ _ _ _ _ _ _ _ = _
    unfold F_aqueductlaw15_DrvqBoth.l0_b
    by_cases h1 : (i : Int) < a1.length
    · rw [O.cond_pos h1, O.cond_neg (by omega)]; exact fin q d g P T I W h
    · rw [O.cond_neg h1]; exact fin q d g P T I W h
  | succ m ih =>
    intro i j hi hj q d g P T I W h
    obtain ⟨j, rfl⟩ : ∃ i, j = i + 1 := ⟨j - 1, by omega⟩
    unfold flatQ flatV
    show F_aqueductlaw15_DrvqBoth.l0_b _ _ _ _ _ _ _ _ _ _ _ _ _ _ _ _ _ _ _ _ _ _ _ _ _ _ _ _ _ _ _ _ _ _ _ _ _ _ = _
    unfold F_aqueductlaw15_DrvqBoth.l0_b
    by_cases h1 : (i : Int) < a1.length
    · have hil : i < a1.length := by omega
      have hlp : (gt ([], false, false, false, (0 : Int), (0 : Int), (0 : Int)) a1 (i : Int)).1.length ≤ 9223372036854775807 := by
        rw [gt_at _ a1 i hil]; exact hl _ (List.getElem_mem hil)
      obtain ⟨p, hp, hp2⟩ := inside_S k (by omega) _ hlp
      obtain ⟨a, S, hb, hI, hW⟩ := h
      have hls := hb.lens
      obtain ⟨r, hr, hr2⟩ := BI.post hn k (by omega) hb p hp2
      rw [O.cond_pos h1, O.cond_pos (by omega), O.chk_dec (by omega), O.chk_dec (by omega), hp, O.bind_ok]
      show O.bind (F_drvq_Queue_Post.S k p q g) _ = _
      rw [hr, O.bind_ok]
      rcases hr2 with ⟨h2, h3⟩ | ⟨h2, h4, h3⟩
      · rw [O.cond_pos h2, O.chk_dec (by omega)]
        exact both_j14 k a1 n hk hn i (by omega) r _ (fun q d g P T I W h => ih (i + 1) j (by omega) (by omega) q d g P T I W h) d T _ I W ⟨a, S, h3, hI, hW⟩
      · have nxt := both_j14 k a1 n hk hn i (by omega) r _ (fun q d g P T I W h => ih (i + 1) j (by omega) (by omega) q d g P T I W h) d T P I W ⟨a, S, h3, hI, hW⟩
        rw [O.cond_neg h2]
        by_cases h5 : r.1.2 = 151
        · have h6 := h4 h5
          rw [O.cond_pos h5, O.cond_neg (by omega)]; exact nxt
        · rw [O.cond_neg h5]; exact nxt
    · rw [O.cond_neg h1]; exact fin q d g P T I W h
end
theorem chkL_lay (n : Int) (hn : 1 ≤ n ∧ n ≤ 32) : chkL (layQ n) 1024 = 0 := by
 unfold chkL layQ
 simp only
 rw [if_neg (by omega), if_neg (by omega), if_neg (by decide), if_neg (by decide), if_neg (by decide), if_pos (mayM_iff.2 (by omega)), if_pos (by decide), if_pos (by decide)]
theorem rd_zero (b : List Int) (hl : b.length = 1024) (hz : ∀ x ∈ b, x = 0) (x : Int) (hx : 0 ≤ x ∧ x < 32) : (rdD b (16 * x)).2.2.2 = 0 := by
 rw [rdD_fl _ _ (by omega)]
 unfold leN
 have : sub b (16 * x + 14) ((2 : Nat) : Int) = [0, 0] := by
  have h1 : (sub b (16 * x + 14) ((2 : Nat) : Int)).length = 2 := by rw [sub_len _ _ _ (by omega)]; rfl
  have h2 : ∀ y ∈ sub b (16 * x + 14) ((2 : Nat) : Int), y = 0 := fun y hy => hz y (List.mem_of_mem_drop (List.mem_of_mem_take hy))
  match hs : sub b (16 * x + 14) ((2 : Nat) : Int), h1, h2 with
  | [u, v], _, h2 => rw [h2 u (by simp), h2 v (by simp)]
 rw [this]; rfl
theorem zer_all (b ys : List Int) (a : Int) (hb : ∀ x ∈ b, x = 0) (hy : ∀ x ∈ ys, x = 0) : ∀ x ∈ putAt b a ys, x = 0 := by
 intro x hx
 unfold putAt at hx
 rcases List.mem_append.1 hx with h | h
 ·exact hb x (List.mem_of_mem_take h)
 ·rcases List.mem_append.1 h with h | h
  ·exact hy x h
  ·exact hb x (List.mem_of_mem_drop h)
theorem rep_zero (n : Int) : ∀ x ∈ bytesOf (repT zb n), x = 0 := by
 intro x hx
 have e : repT zb n = Go.Aq.strOf (List.replicate n.toNat (0 : Int)) := rep_str n
 rw [e] at hx
 unfold bytesOf at hx
 obtain ⟨y, hy, rfl⟩ := List.mem_map.1 hx
 unfold Go.Aq.strOf at hy
 simp at hy
 obtain ⟨_, rfl⟩ := hy
 rfl
theorem Pure.DrvqBoth : ∀ (a0 : Int) (a1 : List ((List (Int × Int × Bool)) × Bool × Bool × Bool × Int × Int × Int)), (Lit.int .i64 a0).wf = true → okS (.tab false 71 (.cons (.row false 56 [.int .i64, .int .i64, .bool]) (.cons (.leaf .bool) (.cons (.leaf .bool) (.cons (.leaf .bool) (.cons (.leaf (.int .i64)) (.cons (.leaf (.int .i64)) (.one (.leaf (.int .i64)) [])))))))) a1 → ∃ k, F_aqueductlaw15_DrvqBoth.S k a0 a1 = .ok true := by
 intro a0 a1 _ h1
 have hl : ∀ x ∈ a1, x.1.length ≤ 9223372036854775807 := fun x hx => by
  have := (h1.2 x hx).1.1
  rw [max_len] at this
  exact this
 obtain ⟨k, hk, fx⟩ : ∃ k : Nat, 400 ≤ k ∧ F_aqueductlaw15_fixed.S k = .ok true := ⟨400 + 60, by omega, fixed15 400⟩
 refine ⟨k, ?_⟩
 have hN : 0 ≤ bAnd .i64 a0 (31 : Int) ∧ bAnd .i64 a0 (31 : Int) ≤ 31 := bAnd_le a0 31 (by decide)
 obtain ⟨n, en⟩ : ∃ n : Int, IntKind.i64.wrap ((1 : Int) + (bAnd .i64 a0 (31 : Int))) = n := ⟨_, rfl⟩
 have hn : 1 ≤ n ∧ n ≤ 32 := by rw [i64_in _ (by omega)] at en; omega
 obtain ⟨b, eb⟩ : ∃ b : List Int, List.replicate (1024 : Int).toNat (0 : Int) = b := ⟨_, rfl⟩
 have hb : b.length = 1024 := by rw [← eb, List.length_replicate]; rfl
 have hbz : ∀ x ∈ b, x = 0 := fun x hx => by rw [← eb] at hx; exact (List.mem_replicate.1 hx).2
 have h0 : okM (b, (0 : Int), []) := ⟨by show b.length ≤ _; omega, by simp⟩
 have hz := zerL_ok (b, (0 : Int), []) (layQ n) h0 (by show LayIn (layQ n) b.length; rw [hb]; exact layQ_in n hn)
 have hzz : ∀ x ∈ (zerL (b, (0 : Int), []) (layQ n)).1, x = 0 := zer_all _ _ _ (zer_all _ _ _ (zer_all _ _ _ hbz (rep_zero _)) (rep_zero _)) (rep_zero _)
 have hN2 := drvNew_g k (layQ n) (b, (0 : Int), []) h0
 rw [show ((b, (0 : Int), []) : TM).1.length = 1024 from hb, show ((1024 : Nat) : Int) = 1024 from rfl, chkL_lay n hn, if_pos rfl] at hN2
 have hlz : (zerL (b, (0 : Int), []) (layQ n)).1.length = 1024 := hz.2.trans hb
 generalize zerL (b, (0 : Int), []) (layQ n) = g at hz hzz hN2 hlz
 have hC := Check_g k (layQ n) g hz.1.1
 rw [hlz, show ((1024 : Nat) : Int) = 1024 from rfl, chkL_lay n hn] at hC
 have hs0 : spt n 0 = ((0 : Int), true) := spt_is n 0 0 0 (by omega) (by omega)
 have hring : Ring n g.1 0 [] 0 [] := Ring.init n hn g.1 hlz fun x x0 x1 => rd_zero g.1 hlz hzz x (by omega)
 have hBI : BI n (q0L (layQ n)) (layQ n, ((0 : Int), true), ((0 : Int), true), ((0 : Int), true), (0 : Int), (0 : Int), false) g 0 [] [] [] :=
  ⟨⟨rfl, ⟨Int.le_refl 0, by show (0 : Int) < n; omega⟩, ⟨Int.le_refl 0, by show (0 : Int) < n; omega⟩, (by show (0 : Int) ≤ n; omega), (by show n + 0 = n; omega), (by intro e he; cases he), List.nodup_nil, (by intro e he; cases he), hz.1, hlz⟩,
   hring, (by intro e he; cases he), (by intro e he; cases he), (by show ((0 : Int), true) = spt n (0 + 0 + 0 + 0); rw [← hs0]; rfl), (by show ((0 : Int), true) = spt n 0; rw [hs0]), List.Perm.refl _, rfl, (by show ((0 : Int), true) = spt n (0 + 0 + 0); rw [← hs0]; rfl), (by show ((0 : Int), true) = spt n (0 + 0); rw [← hs0]; rfl),
   ⟨Int.le_refl 0, by show (0 : Int) < n; omega⟩, ⟨Int.le_refl 0, by show (0 : Int) ≤ 2 * n; omega⟩, rfl, rfl⟩
 unfold F_aqueductlaw15_DrvqBoth.S F_aqueductlaw15_DrvqBoth.top
 rw [en, gNew_g k 1024 (by omega), O.sum_inr, eb, show ((0 : Int), n, (512 : Int), (516 : Int)) = layQ n from rfl]
 dsimp only
 rw [O.cond_neg (by simp), hN2, O.sum_inr]
 dsimp only
 rw [hC, O.bind_ok, O.cond_neg (by simp), O.cond_neg (by simp), O.cond_false]
 exact both_l0 k a1 n (by omega) fx hn hl 100 0 k (by omega) (by omega) (q0L (layQ n)) (layQ n, ((0 : Int), true), ((0 : Int), true), ((0 : Int), true), (0 : Int), (0 : Int), false) g [] [] [] [] ⟨0, [], hBI, rfl, rfl⟩
end Go.Proofs.Ytpfddjdkafjjfaa
end
