/- What devq.Queue.Next comes to (on): tables, chains. -/
import Derived.Test.YtjdhepioehfmhaaEP14b
namespace Go.Proofs.Ytjdhepioehfmhaa
open Go.Aq Go.IntWalk
set_option linter.unusedVariables false
/-- Something, or a panic that breaks the queue; memory is read alone. -/
def resP {α : Type} (o : Option α) (q : TQ) (g : TM) (r : (TQ × TM) ⊕ (α × TQ × TM)) : Prop :=
  match o with
  | none => ∃ g', r = .inl (q, g') ∧ sameM g g'
  | some a => ∃ g', r = .inr (a, (q, g')) ∧ sameM g g'
theorem resP_none {α : Type} {q : TQ} {g g' : TM} (h : sameM g g') : resP (none : Option α) q g (.inl (q, g')) := ⟨g', rfl, h⟩
theorem resP_some {α : Type} {a : α} {q : TQ} {g g' : TM} (h : sameM g g') : resP (some a) q g (.inr (a, (q, g'))) := ⟨g', rfl, h⟩
theorem resP_trans {α : Type} {o : Option α} {q : TQ} {g g1 : TM} {r : (TQ × TM) ⊕ (α × TQ × TM)} (h : sameM g g1) (hr : resP o q g1 r) : resP o q g r := by
  cases o with
  | none => obtain ⟨g', e, s⟩ := hr; exact ⟨g', e, sameM_trans h s⟩
  | some a => obtain ⟨g', e, s⟩ := hr; exact ⟨g', e, sameM_trans h s⟩
def rngD (d : D4) : Prop := 0 ≤ d.1 ∧ 0 ≤ d.2.1 ∧ d.2.1 < 4294967296 ∧ 0 ≤ d.2.2.1 ∧ d.2.2.1 ≤ 65535 ∧ 0 ≤ d.2.2.2 ∧ d.2.2.2 ≤ 65535
theorem rdD_rng (b : List Int) (a : Int) : rngD (rdD b a) := by
  unfold rdD descP
  generalize strOf _ = s
  have b1 := bl_lo s 8 8; have b2 := bl_lo s 12 4; have b3 := bl_lo s 14 2; have b4 := bl_lo s 16 2
  rw [show (256 : Int) ^ 4 = 4294967296 from rfl] at b2
  rw [show (256 : Int) ^ 2 = 65536 from rfl] at b3 b4
  exact ⟨b1.1, b2.1, b2.2, b3.1, Int.le_of_lt_add_one b3.2, b4.1, Int.le_of_lt_add_one b4.2⟩
/-! ### Tables -/
def tableP (b : List Int) : Int → Nat → List D4 → Option (List D4)
  | _, 0, acc => some acc
  | a, n + 1, acc => if bAnd .i64 (rdD b a).2.2.2 4 = 0 then tableP b (a + 16) n (acc ++ [rdD b a]) else none
theorem tableP_len (b : List Int) : ∀ (n : Nat) (a : Int) (acc l : List D4), tableP b a n acc = some l → l.length = acc.length + n
  | 0, a, acc, l, h => by simp [tableP] at h; rw [h]; rfl
  | n + 1, a, acc, l, h => by
    unfold tableP at h
    split at h
    · rw [tableP_len b n _ _ _ h]; simp; omega
    · cases h
def tabP (b : List Int) (d : D4) : Option (List D4) :=
  if d.2.1 ≤ 1024 ∧ d.2.1 > 0 ∧ Int.tmod d.2.1 16 = 0 ∧ d.1 < 1048576 ∧ mayM d.1 d.2.1 b.length = true then tableP b d.1 (d.2.1 / 16).toNat [] else none
theorem tableL_S (k : Nat) (hk : 9 ≤ k) (d : D4) (q : TQ) (c : Nat) (hr : rngD d) (h1 : d.1 < 1048576) (h2 : d.2.1 = 16 * (c : Int)) (hc : c ≤ 64) :
    ∀ (m i j : Nat), i + m = c → m < j → ∀ (acc : List D4), acc.length ≤ i → ∀ g : TM, okM g → d.1 + d.2.1 ≤ g.1.length →
      O.sat (F_devq_Queue_table.l0 k d q j (16 * (i : Int)) acc g.1 g.2.2 g.2.1) (resP (tableP g.1 (d.1 + 16 * (i : Int)) m acc) q g) := by
  obtain ⟨r1, r2, r3, _⟩ := hr
  intro m
  induction m with
  | zero =>
    intro i j hi hj acc ha g hg hl
    obtain ⟨j, rfl⟩ : ∃ i, j = i + 1 := ⟨j - 1, by omega⟩
    show O.sat (F_devq_Queue_table.l0_b k d q _ _ _ _ _ _) _
    unfold F_devq_Queue_table.l0_b
    rw [i64_in d.2.1 (by omega), O.cond_neg (by omega)]
    exact O.sat_ok (resP_some (sameM_refl hg))
  | succ m ih =>
    intro i j hi hj acc ha g hg hl
    obtain ⟨j, rfl⟩ : ∃ i, j = i + 1 := ⟨j - 1, by omega⟩
    show O.sat (F_devq_Queue_table.l0_b k d q _ _ _ _ _ _) _
    unfold F_devq_Queue_table.l0_b
    rw [i64_in d.2.1 (by omega), O.cond_pos (by omega), i64_in d.1 (by omega), i64_in (d.1 + _) (by omega), show ((g.1, g.2.1, g.2.2) : TM) = g from rfl]
    refine O.sat_eq (Read16_S k _ g hg (by omega)) ?_
    show O.sat (O.cond false _ _) _
    rw [O.cond_false]
    refine O.sat_eq (Parse16_S k hk _ _ (by omega)) ?_
    unfold tableP
    by_cases hf : bAnd .i64 (rdD g.1 (d.1 + 16 * (i : Int))).2.2.2 4 = 0
    · rw [if_pos hf]
      show O.sat (O.cond (!decide (bAnd .i64 (rdD g.1 (d.1 + 16 * (i : Int))).2.2.2 4 = 0)) _ _) _
      rw [decide_eq_true hf, Bool.not_true, O.cond_false, O.chk_dec (by simp; omega), i64_in _ (by omega)]
      have := ih (i + 1) j (by omega) (by omega) (acc ++ [rdD g.1 (d.1 + 16 * (i : Int))]) (by simp; omega) (rdM g (d.1 + 16 * (i : Int)) 16) (sameM_ok hg (sameM_rd _ _ hg)) hl
      rw [show 16 * (i : Int) + 16 = 16 * ((i + 1 : Nat) : Int) by push_cast; omega, show d.1 + 16 * (i : Int) + 16 = d.1 + 16 * ((i + 1 : Nat) : Int) by push_cast; omega]
      exact O.sat_mono this fun r hr => resP_trans (sameM_rd _ _ hg) hr
    · rw [if_neg hf]
      show O.sat (O.cond (!decide (bAnd .i64 (rdD g.1 (d.1 + 16 * (i : Int))).2.2.2 4 = 0)) _ _) _
      rw [decide_eq_false hf, Bool.not_false, O.cond_true]
      exact O.sat_ok (resP_none (sameM_rd _ _ hg))
theorem table_S (k : Nat) (hk : 70 ≤ k) (d : D4) (q : TQ) (hr : rngD d) (g : TM) (hg : okM g) : O.sat (F_devq_Queue_table.S k d q g) (resP (tabP g.1 d) q g) := by
  have hr' := hr
  obtain ⟨r1, r2, r3, _⟩ := hr'
  unfold F_devq_Queue_table.S F_devq_Queue_table.top
  rw [i64_in d.2.1 (by omega)]
  unfold tabP
  by_cases a1 : d.2.1 ≤ 1024
  · rw [O.cond_pos a1]
    by_cases a2 : d.2.1 > 0
    · rw [O.cond_pos a2]
      by_cases a3 : Int.tmod d.2.1 16 = 0
      · rw [O.cond_pos a3]
        by_cases a4 : d.1 < 1048576
        · rw [O.cond_pos a4, i64_in d.1 (by omega), May_S _ _ _ _ hg.1, O.bind_ok]
          by_cases a5 : mayM d.1 d.2.1 g.1.length = true
          · rw [a5, Bool.not_true, O.cond_false, if_pos ⟨a1, a2, a3, a4, rfl⟩]
            have a5' := mayM_iff.1 a5
            rw [rem_in _ _ r2] at a3
            have := tableL_S k (by omega) d q (d.2.1 / 16).toNat hr a4 (by omega) (by omega) (d.2.1 / 16).toNat 0 k (by omega) (by omega) [] (by simp) g hg (by omega)
            rw [show d.1 + 16 * ((0 : Nat) : Int) = d.1 by omega] at this
            exact this
          · rw [Bool.not_eq_true] at a5
            rw [a5, Bool.not_false, O.cond_true, if_neg (fun x => by have := x.2.2.2.2; simp at this)]
            exact O.sat_ok (resP_none (sameM_refl hg))
        · rw [O.cond_neg a4, if_neg (by omega)]; exact O.sat_ok (resP_none (sameM_refl hg))
      · rw [O.cond_neg a3, if_neg (by omega)]; exact O.sat_ok (resP_none (sameM_refl hg))
    · rw [O.cond_neg a2, if_neg (by omega)]; exact O.sat_ok (resP_none (sameM_refl hg))
  · rw [O.cond_neg a1, if_neg (by omega)]; exact O.sat_ok (resP_none (sameM_refl hg))
/-! ### Chains -/
abbrev CH := Int × Int × List P3
/-- The chain's end: the descriptors are there. -/
def tailP (b : List Int) (L : List D4) (d : D4) : Option CH :=
  if bAnd .i64 d.2.2.2 4 ≠ 0 then match tabP b d with
    | none => none
    | some T => match partsP b.length T false [] with
      | none => none
      | some ps => some (d.2.2.1, (L.length : Int), ps)
  else match partsP b.length L false [] with
    | none => none
    | some ps => some (d.2.2.1, (L.length : Int), ps)
def loneP (n : Int) (L : List D4) : Bool := L.all fun x => decide (bAnd .i64 x.2.2.2 4 = 0) || decide (n = 1)
def endP (b : List Int) (L : List D4) (d : D4) : Option CH := if loneP L.length L = true then tailP b L d else none
def chainR (b : List Int) (q : TQ) : Nat → List D4 → D4 → Int × Bool → Option CH
  | 0, _, _, _ => none
  | m + 1, L, d, s =>
    if bAnd .i64 d.2.2.2 1 ≠ 0 then
      (if (L.length : Int) < min 64 (q.1.2.1 - q.2.2.2.2.2.1) then chainR b q m (L ++ [rdD b (q.1.1 + 16 * (nextSp s 1 q.1.2.1).1)]) (rdD b (q.1.1 + 16 * (nextSp s 1 q.1.2.1).1)) (nextSp s 1 q.1.2.1) else none)
    else endP b L d
theorem sameM_len {g g' : TM} (h : sameM g g') : g'.1.length = g.1.length := by rw [h.1]
theorem chain1_S (k : Nat) (hk : 80 ≤ k) (q : TQ) (d : D4) (hd : rngD d) (L : List D4) (hL : L.length ≤ 64) (g : TM) (hg : okM g) (R0 : Int → Int → Int → Int → List D4 → Int → Bool → List Int → List (Int × Int × Int × Bool) → Int → OC) :
    ∀ (m i j : Nat), i + m = L.length → m < j → O.sat (F_devq_Queue_chain.l1 k q d.1 d.2.1 d.2.2.1 d.2.2.2 L g.1 g.2.2 g.2.1 R0 j (i : Int)) (resP (if loneP L.length (L.drop i) = true then tailP g.1 L d else none) q g) := by
  intro m
  induction m with
  | zero =>
    intro i j hi hj
    obtain ⟨j, rfl⟩ : ∃ i, j = i + 1 := ⟨j - 1, by omega⟩
    show O.sat (F_devq_Queue_chain.l1_b k q d.1 d.2.1 d.2.2.1 d.2.2.2 L g.1 g.2.2 g.2.1 R0 _ _ _ _) _
    unfold F_devq_Queue_chain.l1_b
    rw [O.cond_neg (by omega), List.drop_eq_nil_of_le (by omega), if_pos (by rfl)]
    unfold tailP
    by_cases h4 : bAnd .i64 d.2.2.2 4 ≠ 0
    · rw [O.cond_pos h4, if_pos h4]
      obtain ⟨r, hr, hp⟩ := table_S k (by omega) d q hd g hg
      rw [show ((d.1, d.2.1, d.2.2.1, d.2.2.2) : D4) = d from rfl, show ((g.1, g.2.1, g.2.2) : TM) = g from rfl, hr]
      cases ht : tabP g.1 d with
      | none =>
        rw [ht] at hp
        obtain ⟨g', rfl, hs⟩ := hp
        rw [O.sum_inl]; exact O.sat_ok (resP_none hs)
      | some T =>
        rw [ht] at hp
        obtain ⟨g', rfl, hs⟩ := hp
        have hT : T.length ≤ 64 := by
          unfold tabP at ht
          split at ht
          · rw [tableP_len _ _ _ _ _ ht]; simp; omega
          · cases ht
        rw [O.sum_inr]
        have := parts2_S k d.2.2.1 L T q g' R0 (F_devq_Queue_chain.l1 k q d.1 d.2.1 d.2.2.1 d.2.2.2 L g.1 g.2.2 g.2.1 R0 j) q g' (sameM_ok hg hs) (by omega) T.length 0 k (by omega) (by omega) false [] (by simp)
        rw [sameM_len hs, List.drop_zero] at this
        refine O.sat_mono ⟨_, this, rfl⟩ fun r hr => ?_
        subst hr
        show resP (match partsP g.1.length T false [] with | none => none | some ps => some (d.2.2.1, (L.length : Int), ps)) q g _
        cases partsP g.1.length T false [] with
        | none => exact resP_none hs
        | some ps => exact resP_some hs
    · rw [O.cond_neg h4, if_neg h4]
      have := parts3_S k d.2.2.1 L R0 (F_devq_Queue_chain.l1 k q d.1 d.2.1 d.2.2.1 d.2.2.2 L g.1 g.2.2 g.2.1 R0 j) q g hg (by omega) L.length 0 k (by omega) (by omega) false [] (by simp)
      rw [List.drop_zero] at this
      refine O.sat_mono ⟨_, this, rfl⟩ fun r hr => ?_
      subst hr
      cases partsP g.1.length L false [] with
      | none => exact resP_none (sameM_refl hg)
      | some ps => exact resP_some (sameM_refl hg)
  | succ m ih =>
    intro i j hi hj
    obtain ⟨j, rfl⟩ : ∃ i, j = i + 1 := ⟨j - 1, by omega⟩
    show O.sat (F_devq_Queue_chain.l1_b k q d.1 d.2.1 d.2.2.1 d.2.2.2 L g.1 g.2.2 g.2.1 R0 _ _ _ _) _
    unfold F_devq_Queue_chain.l1_b
    rw [O.cond_pos (by omega), O.chk_dec (by omega), O.chk_dec (by omega), gt_at _ _ _ (by omega), drop_at _ _ (by omega : i < L.length)]
    have ih' := ih (i + 1) j (by omega) (by omega)
    unfold loneP at ih' ⊢
    rw [List.all_cons]
    by_cases h4 : bAnd .i64 L[i].2.2.2 4 = 0
    · rw [O.cond_pos h4, decide_eq_true h4, Bool.true_or, Bool.true_and, i64_in _ (by omega)]
      exact ih'
    · rw [O.cond_neg h4, decide_eq_false h4, Bool.false_or]
      by_cases h1 : (L.length : Int) = 1
      · rw [decide_eq_true h1, Bool.true_and, Bool.not_true, O.cond_false, i64_in _ (by omega)]
        rw [decide_eq_true h1] at ih'
        exact ih'
      · rw [decide_eq_false h1, Bool.false_and, Bool.not_false, O.cond_true, if_neg (by decide)]
        exact O.sat_ok (resP_none (sameM_refl hg))
/-- A queue over memory. -/
structure OkQ (q : TQ) (n : Int) : Prop where
  l : OkL q.1 n
  next : 0 ≤ q.2.1.1 ∧ q.2.1.1 < q.1.2.1
  back : 0 ≤ q.2.2.1.1 ∧ q.2.2.1.1 < q.1.2.1
  told : 0 ≤ q.2.2.2.1.1 ∧ q.2.2.2.1.1 < q.1.2.1
  since : 0 ≤ q.2.2.2.2.1 ∧ q.2.2.2.2.1 ≤ 2 * q.1.2.1
  out : 0 ≤ q.2.2.2.2.2.1 ∧ q.2.2.2.2.2.1 ≤ q.1.2.1
theorem chain0_S (k : Nat) (hk : 80 ≤ k) (q : TQ) :
    ∀ (m j : Nat), m < j → ∀ (L : List D4) (d : D4) (s : Int × Bool) (g : TM), okM g → OkQ q g.1.length → rngD d → 0 ≤ s.1 ∧ s.1 < q.1.2.1 → L.length + m = 65 → L.length ≤ 64 →
      O.sat (F_devq_Queue_chain.l0 k q j d.1 d.2.1 d.2.2.1 d.2.2.2 L s.1 s.2 g.1 g.2.2 g.2.1) (resP (chainR g.1 q m L d s) q g) := by
  intro m
  induction m with
  | zero => intro j hj L d s g hg hq hd hs h1 h2; omega
  | succ m ih =>
    intro j hj L d s g hg hq hd hs h1 h2
    obtain ⟨j, rfl⟩ : ∃ i, j = i + 1 := ⟨j - 1, by omega⟩
    show O.sat (F_devq_Queue_chain.l0_b k q _ _ _ _ _ _ _ _ _ _ _ _) _
    unfold F_devq_Queue_chain.l0_b chainR
    by_cases hn : bAnd .i64 d.2.2.2 1 ≠ 0
    · rw [O.cond_pos hn, if_pos hn]
      have ol := hq.l.lo; have oh := hq.l.hi; have or := hq.l.ring; have oo := hq.out
      rw [i64_in (q.1.2.1 - _) (by omega)]
      by_cases hm : (L.length : Int) < min 64 (q.1.2.1 - q.2.2.2.2.2.1)
      · rw [decide_eq_true hm, Bool.not_true, O.cond_false, if_pos hm]
        refine O.sat_eq (spotNext_S k s 1 q.1.2.1 hs oh (by omega)) ?_
        have hs' := nextSp_in s 1 q.1.2.1 hs (by omega)
        have l1 := hg.1
        generalize nextSp s 1 q.1.2.1 = s' at hs' ⊢
        show O.sat (O.bind (F_gmem_Memory_Read.S k (IntKind.i64.wrap (q.1.1 + (IntKind.i64.wrap ((16 : Int) * s'.1)))) (16 : Int) g) _) _
        rw [i64_in (16 * s'.1) (by omega), i64_in _ (by omega)]
        refine O.sat_eq (Read16_S k _ g hg (by omega)) ?_
        show O.sat (O.cond false _ _) _
        rw [O.cond_false]
        refine O.sat_eq (Parse16_S k (by omega) _ _ (by omega)) ?_
        rw [O.chk_dec (by simp; omega)]
        have := ih j (by omega) (L ++ [rdD g.1 (q.1.1 + 16 * s'.1)]) (rdD g.1 (q.1.1 + 16 * s'.1)) s' (rdM g (q.1.1 + 16 * s'.1) 16) (sameM_ok hg (sameM_rd _ _ hg)) hq (rdD_rng _ _) hs' (by simp; omega) (by simp; omega)
        exact O.sat_mono this fun r hr => resP_trans (sameM_rd _ _ hg) hr
      · rw [decide_eq_false hm, Bool.not_false, O.cond_true, if_neg hm]
        exact O.sat_ok (resP_none (sameM_refl hg))
    · rw [O.cond_neg hn, if_neg hn]
      have := chain1_S k hk q d hd L h2 g hg (F_devq_Queue_chain.l0 k q j) L.length 0 k (by omega) (by omega)
      rw [List.drop_zero] at this
      exact this
theorem chain_S (k : Nat) (hk : 80 ≤ k) (d : D4) (q : TQ) (g : TM) (hg : okM g) (hq : OkQ q g.1.length) (hd : rngD d) : O.sat (F_devq_Queue_chain.S k d q g) (resP (chainR g.1 q 64 [d] d q.2.1) q g) := by
  unfold F_devq_Queue_chain.S F_devq_Queue_chain.top
  exact chain0_S k hk q 64 k (by omega) [d] d q.2.1 g hg hq hd hq.next rfl (by simp)
/-! ### Next -/
def availP (f : Int) (w : Bool) : Bool := (decide (bAnd .i64 f 128 ≠ 0) != decide (bAnd .i64 f 32768 ≠ 0)) && (decide (bAnd .i64 f 128 ≠ 0) == w)
theorem Avail_S (k : Nat) (f : Int) (w : Bool) : F_desc_Avail.S k f w = .ok (availP f w) := by
  unfold F_desc_Avail.S F_desc_says.S availP
  generalize decide (bAnd .i64 f 128 ≠ 0) = a
  generalize decide (bAnd .i64 f 32768 ≠ 0) = u
  cases a <;> cases u <;> cases w <;> simp
def zeroC : CH := (0, 0, [])
def nextR (q : TQ) (b : List Int) : (CH × Bool × Int) × TQ :=
  if q.2.2.2.2.2.2 = true then ((zeroC, false, 141), q)
  else if q.2.2.2.2.2.1 ≥ q.1.2.1 then ((zeroC, false, 0), q)
  else if availP (rdD b (q.1.1 + 16 * q.2.1.1)).2.2.2 q.2.1.2 = true then
    match chainR b q 64 [rdD b (q.1.1 + 16 * q.2.1.1)] (rdD b (q.1.1 + 16 * q.2.1.1)) q.2.1 with
    | none => ((zeroC, false, 141), (q.1, q.2.1, q.2.2.1, q.2.2.2.1, q.2.2.2.2.1, q.2.2.2.2.2.1, true))
    | some c => ((c, true, 0), (q.1, nextSp q.2.1 c.2.1 q.1.2.1, q.2.2.1, q.2.2.2.1, q.2.2.2.2.1, q.2.2.2.2.2.1 + c.2.1, q.2.2.2.2.2.2))
  else ((zeroC, false, 0), q)
theorem partsP_len (n : Int) : ∀ (L : List D4) (w : Bool) (acc ps : List P3), partsP n L w acc = some ps → ps.length = acc.length + L.length
  | [], w, acc, ps, h => by simp [partsP] at h; rw [h]; rfl
  | d :: r, w, acc, ps, h => by
    unfold partsP at h
    split at h
    · cases h
    · split at h
      · rw [partsP_len n r _ _ _ h]; simp; omega
      · cases h
theorem tabP_len {b : List Int} {d : D4} {T : List D4} (h : tabP b d = some T) : T.length ≤ 64 := by
  unfold tabP at h
  split at h
  · rw [tableP_len _ _ _ _ _ h]; simp; omega
  · cases h
theorem chainR_some (b : List Int) (q : TQ) : ∀ (m : Nat) (L : List D4) (d : D4) (s : Int × Bool) (c : CH), chainR b q m L d s = some c → 1 ≤ L.length → (L.length : Int) ≤ min 64 (q.1.2.1 - q.2.2.2.2.2.1) → 1 ≤ c.2.1 ∧ c.2.1 ≤ min 64 (q.1.2.1 - q.2.2.2.2.2.1) ∧ c.2.2.length ≤ 64
  | 0, L, d, s, c, h, _, _ => by cases h
  | m + 1, L, d, s, c, h, h1, h2 => by
    unfold chainR at h
    split at h
    · split at h
      · exact chainR_some b q m _ _ _ c h (by simp) (by simp; omega)
      · cases h
    · unfold endP tailP at h
      split at h
      · split at h
        · split at h
          · cases h
          · rename_i T hT
            split at h
            · cases h
            · rename_i ps hps
              cases h
              have := partsP_len _ _ _ _ _ hps
              have := tabP_len hT
              simp at *; omega
        · split at h
          · cases h
          · rename_i ps hps
            cases h
            have := partsP_len _ _ _ _ _ hps
            simp at *; omega
      · cases h
theorem Next_S (k : Nat) (hk : 80 ≤ k) (q : TQ) (g : TM) (hg : okM g) (hq : OkQ q g.1.length) :
    O.sat (F_devq_Queue_Next.S k q g) fun r => r.1 = (nextR q g.1).1 ∧ r.2.1 = (nextR q g.1).2 ∧ sameM g r.2.2 := by
  unfold F_devq_Queue_Next.S F_devq_Queue_Next.top nextR
  have ol := hq.l.lo; have oh := hq.l.hi; have or := hq.l.ring; have oo := hq.out; have on := hq.next; have l1 := hg.1
  cases hb : q.2.2.2.2.2.2 with
  | true => rw [O.cond_true]; exact O.sat_ok ⟨rfl, rfl, sameM_refl hg⟩
  | false =>
    rw [O.cond_false, if_neg (by decide)]
    by_cases h1 : q.2.2.2.2.2.1 ≥ q.1.2.1
    · rw [O.cond_pos h1, if_pos h1]; exact O.sat_ok ⟨rfl, rfl, sameM_refl hg⟩
    · rw [O.cond_neg h1, if_neg h1]
      refine O.sat_twice ?_
      rw [i64_in (16 * _) (by omega), i64_in _ (by omega)]
      refine O.sat_eq (Read16_S k _ g hg (by omega)) ?_
      show O.sat (O.cond false _ _) _
      rw [O.cond_false]
      refine O.sat_eq (Parse16_S k (by omega) _ _ (by omega)) ?_
      have hm := sameM_rd (q.1.1 + 16 * q.2.1.1) 16 hg
      have hg' := sameM_ok hg hm
      show O.sat (F_devq_Queue_Next.j4_b k q _ _ _ _ _ _ _) _
      unfold F_devq_Queue_Next.j4_b
      refine O.sat_eq (Avail_S k _ _) ?_
      show O.sat (O.cond (!(availP (rdD g.1 (q.1.1 + 16 * q.2.1.1)).2.2.2 q.2.1.2)) _ _) _
      cases ha : availP (rdD g.1 (q.1.1 + 16 * q.2.1.1)).2.2.2 q.2.1.2 with
      | false => rw [Bool.not_false, O.cond_true, if_neg (by decide)]; exact O.sat_ok ⟨rfl, rfl, hm⟩
      | true =>
        rw [Bool.not_true, O.cond_false, if_pos rfl]
        obtain ⟨r, hr, hp⟩ := chain_S k hk (rdD g.1 (q.1.1 + 16 * q.2.1.1)) q (rdM g (q.1.1 + 16 * q.2.1.1) 16) hg' hq (rdD_rng _ _)
        rw [show F_devq_Queue_chain.S k _ _ _ = _ from hr]
        change resP (chainR g.1 q 64 [rdD g.1 (q.1.1 + 16 * q.2.1.1)] (rdD g.1 (q.1.1 + 16 * q.2.1.1)) q.2.1) q _ r at hp
        cases hc : chainR g.1 q 64 [rdD g.1 (q.1.1 + 16 * q.2.1.1)] (rdD g.1 (q.1.1 + 16 * q.2.1.1)) q.2.1 with
        | none =>
          rw [hc] at hp
          obtain ⟨g', rfl, hs⟩ := hp
          rw [O.sum_inl]; exact O.sat_ok ⟨rfl, rfl, sameM_trans hm hs⟩
        | some c =>
          rw [hc] at hp
          obtain ⟨g', rfl, hs⟩ := hp
          have hcs := chainR_some _ _ _ _ _ _ _ hc (by simp) (by simp; omega)
          rw [O.sum_inr]
          refine O.sat_eq (spotNext_S k q.2.1 c.2.1 q.1.2.1 on oh (by omega)) ?_
          refine O.sat_ok ⟨rfl, ?_, sameM_trans hm hs⟩
          show (q.1, _, q.2.2.1, q.2.2.2.1, q.2.2.2.2.1, IntKind.i64.wrap (q.2.2.2.2.2.1 + c.2.1), q.2.2.2.2.2.2) = _
          rw [i64_in _ (by omega), hb]
theorem nextR_ok (q : TQ) (b : List Int) (hq : OkQ q b.length) : OkQ (nextR q b).2 b.length ∧ (nextR q b).2.1 = q.1 ∧ (nextR q b).1.1.2.2.length ≤ 64 := by
  have oo := hq.out; have on := hq.next
  unfold nextR
  split
  · exact ⟨hq, rfl, by simp [zeroC]⟩
  · split
    · exact ⟨hq, rfl, by simp [zeroC]⟩
    · split
      · split
        · exact ⟨⟨hq.l, hq.next, hq.back, hq.told, hq.since, hq.out⟩, rfl, by simp [zeroC]⟩
        · rename_i c hc
          have hcs := chainR_some _ _ _ _ _ _ _ hc (by simp) (by simp; omega)
          exact ⟨⟨hq.l, nextSp_in _ _ _ on (by omega), hq.back, hq.told, hq.since, by show 0 ≤ q.2.2.2.2.2.1 + c.2.1 ∧ q.2.2.2.2.2.1 + c.2.1 ≤ q.1.2.1; omega⟩, rfl, hcs.2.2⟩
      · exact ⟨hq, rfl, by simp [zeroC]⟩
end Go.Proofs.Ytjdhepioehfmhaa
