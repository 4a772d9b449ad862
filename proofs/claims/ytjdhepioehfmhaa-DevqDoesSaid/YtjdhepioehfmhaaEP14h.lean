/- Layer 14: what the document's Queue.Next comes to (on): rings, chains, Next. -/
import Derived.Test.YtjdhepioehfmhaaEP14g
namespace Go.Proofs.Ytjdhepioehfmhaa
open Go.Aq Go.IntWalk
set_option linter.unusedVariables false
theorem and1_mod (f : Int) (h : 0 ≤ f ∧ f ≤ 65535) : (Int.tmod f 2 = 0) ↔ ¬ (bAnd .i64 f 1 ≠ 0) := by
  have := bit_and f 0 (by omega) h
  rw [show (2 : Int) ^ 0 = 1 from rfl, Int.ediv_one] at this
  rw [rem_in _ _ h.1]
  by_cases e : bAnd .i64 f 1 ≠ 0
  · rw [decide_eq_true e] at this
    have := of_decide_eq_true this.symm
    constructor
    · intro; omega
    · intro x; exact absurd e x
  · rw [decide_eq_false e] at this
    have := of_decide_eq_false this.symm
    constructor
    · intro _; exact e
    · intro _; omega
structure OkR (q : TQ) (b : List Int) : Prop where
  l : OkL q.1 b.length
  hi : b.length ≤ 1048576
  next : 0 ≤ q.2.1.1 ∧ q.2.1.1 < q.1.2.1
  out : 0 ≤ q.2.2.2.2.2.1 ∧ q.2.2.2.2.2.1 ≤ q.1.2.1
theorem ring_S (k : Nat) (hk : 100 ≤ k) (q : TQ) (b : List Int) (h : TR) (hb : h.1 = strOf b) (hq : OkR q b) :
    ∀ (m j : Nat), m < j → ∀ (L0 : List D4) (s : Int × Bool), L0.length + m = 64 → 1 ≤ m → (∀ x ∈ L0, rngD x) → 0 ≤ s.1 ∧ s.1 < q.1.2.1 →
      O.sat (F_aqueductref14_Queue_ring.l1 k q h j L0 s.1 s.2) fun r => r.2 = (q, h) ∧
        ((∃ L d, r.1 = (L ++ [d], true) ∧ (L ++ [d]).length ≤ 64 ∧ (∀ x ∈ L ++ [d], rngD x) ∧ chainR b q m (L0 ++ [rdD b (q.1.1 + 16 * s.1)]) (rdD b (q.1.1 + 16 * s.1)) s = endP b (L ++ [d]) d) ∨
         (r.1.2 = false ∧ chainR b q m (L0 ++ [rdD b (q.1.1 + 16 * s.1)]) (rdD b (q.1.1 + 16 * s.1)) s = none)) := by
  have hz : (h.1.size : Int) = b.length := by rw [hb, size_strOf]
  have ol := hq.l.lo; have oh := hq.l.hi; have or := hq.l.ring; have oo := hq.out; have bh := hq.hi
  intro m
  induction m with
  | zero => intro j hj L0 s h1 h2; omega
  | succ m ih =>
    intro j hj L0 s h1 h2 hR hs
    obtain ⟨j, rfl⟩ : ∃ i, j = i + 1 := ⟨j - 1, by omega⟩
    show O.sat (F_aqueductref14_Queue_ring.l1_b k q h _ _ _ _) _
    unfold F_aqueductref14_Queue_ring.l1_b
    refine O.sat_twice ?_
    rw [i64_in (16 * s.1) (by omega), i64_in (q.1.1 + _) (by omega), i64_in (q.1.1 + _ + 16) (by omega), hz]
    refine O.sat_chk (by omega) ?_
    rw [hb]
    refine O.sat_eq (rAt_S k (by omega) _ _ (by omega)) ?_
    have hd := rdD_rng b (q.1.1 + 16 * s.1)
    have hR2 : ∀ x ∈ L0 ++ [rdD b (q.1.1 + 16 * s.1)], rngD x := by
      intro x hx
      rcases List.mem_append.1 hx with hx | hx
      · exact hR x hx
      · rw [List.mem_singleton] at hx; subst hx; exact hd
    have hfl := hd.2.2.2.2.2
    unfold chainR
    show O.sat (O.chk (decide (L0.length + [rdD b (q.1.1 + 16 * s.1)].length ≤ 1073741824)) (O.cond (decide (Int.tmod (rdD b (q.1.1 + 16 * s.1)).2.2.2 2 = 0)) (.ok ((L0 ++ [rdD b (q.1.1 + 16 * s.1)], true), (q, h))) _)) _
    generalize rdD b (q.1.1 + 16 * s.1) = d at *
    rw [O.chk_dec (by simp; omega)]
    have hl : (L0 ++ [d]).length = L0.length + 1 := by simp
    by_cases hn : bAnd .i64 d.2.2.2 1 ≠ 0
    · rw [O.cond_neg (fun x => (and1_mod _ hfl).1 x hn), if_pos hn, hl, i64_in (q.1.2.1 - _) (by omega)]
      by_cases c1 : ((L0.length + 1 : Nat) : Int) ≥ 64
      · rw [O.cond_pos c1, if_neg (by omega)]
        exact O.sat_ok ⟨rfl, Or.inr ⟨rfl, rfl⟩⟩
      · rw [O.cond_neg c1]
        by_cases c2 : ((L0.length + 1 : Nat) : Int) ≥ q.1.2.1 - q.2.2.2.2.2.1
        · rw [O.cond_pos c2, if_neg (by omega)]
          exact O.sat_ok ⟨rfl, Or.inr ⟨rfl, rfl⟩⟩
        · rw [O.cond_neg c2, if_pos (by omega)]
          refine O.sat_twice ?_
          have e := rSpNext_S k s 1 q.1.2.1 hs oh (by omega) (by omega)
          refine O.sat_eq e ?_
          exact ih j (by omega) (L0 ++ [d]) (nextSp s ((1 : Nat) : Int) q.1.2.1) (by omega) (by omega) hR2 (nextSp_in s _ _ hs (by omega))
    · rw [O.cond_pos ((and1_mod _ hfl).2 hn), if_neg hn]
      exact O.sat_ok ⟨rfl, Or.inl ⟨L0, d, rfl, by omega, hR2, rfl⟩⟩
theorem gt_last {α : Type} (z : α) (L : List α) (d : α) : gt z (L ++ [d]) (((L ++ [d]).length : Int) - 1) = d := by
  have : (((L ++ [d]).length : Int) - 1) = ((L.length : Nat) : Int) := by simp
  rw [this, gt_at _ _ _ (by simp)]; simp
def rC (o : Option CH) (r : CH × Bool) : Prop := match o with | none => r.2 = false | some c => r = (c, true)
section
variable (k : Nat) (hk : 100 ≤ k) (q : TQ) (b : List Int) (h : TR) (hb : h.1 = strOf b) (bh : b.length ≤ 1048576) (L : List D4) (d : D4) (hL : (L ++ [d]).length ≤ 64) (hR : ∀ x ∈ L ++ [d], rngD x)
include hk hb bh hL hR
theorem rfin_S (T : List D4) (hT : T.length ≤ 64) (hRT : ∀ x ∈ T, rngD x) : O.sat (O.bind (F_aqueductref14_Queue_parts.S k T q h) fun r23 => .ok ((((gt ((0 : Int), (0 : Int), (0 : Int), (0 : Int)) (L ++ [d]) (IntKind.i64.wrap (((L ++ [d]).length : Int) - (1 : Int)))).2.2.1, ((L ++ [d]).length : Int), r23.1.1), r23.1.2), (r23.2.1, r23.2.2)))
    fun r => r.2 = (q, h) ∧ rC (match partsP b.length T false [] with | none => none | some ps => some (d.2.2.1, ((L ++ [d]).length : Int), ps)) r.1 := by
  have hz : h.1.size = b.length := by rw [hb, size_strOf]
  have _ := hR
  refine O.sat_eq (rparts_S k q h (by omega) T hT (by omega) hRT) ?_
  rw [hz, i64_in _ (by omega), gt_last]
  cases partsP b.length T false [] with
  | none => exact O.sat_ok ⟨rfl, rfl⟩
  | some ps => exact O.sat_ok ⟨rfl, rfl⟩
theorem rtable_S (hd : d.1 < 1048576) (c : Nat) (h2 : d.2.1 = 16 * (c : Int)) (hc : c ≤ 64) (hm : d.1 + d.2.1 ≤ b.length) (h0 : gt ((0 : Int), (0 : Int), (0 : Int), (0 : Int)) (L ++ [d]) 0 = d)
    (R0 : Bool → Int → O ((CH × Bool) × TQ × TR)) : ∀ (m i j : Nat), i + m = c → m < j → ∀ acc : List D4, acc.length ≤ i → (∀ x ∈ acc, rngD x) →
      O.sat (F_aqueductref14_Queue_chain.l2 k (((L ++ [d]), true), (q, h)) R0 j (16 * (i : Int)) acc) fun r => r.2 = (q, h) ∧ rC (match tableP b (d.1 + 16 * (i : Int)) m acc with
        | none => none
        | some T => match partsP b.length T false [] with
          | none => none
          | some ps => some (d.2.2.1, ((L ++ [d]).length : Int), ps)) r.1 := by
  have hz : (h.1.size : Int) = b.length := by rw [hb, size_strOf]
  have hdr := hR d (by simp)
  obtain ⟨r1, r2, r3, _⟩ := hdr
  intro m
  induction m with
  | zero =>
    intro i j hi hj acc ha hra
    obtain ⟨j, rfl⟩ : ∃ i, j = i + 1 := ⟨j - 1, by omega⟩
    show O.sat (F_aqueductref14_Queue_chain.l2_b k _ R0 _ _ _) _
    unfold F_aqueductref14_Queue_chain.l2_b
    show O.sat (O.cond (decide (16 * (i : Int) < IntKind.i64.wrap (gt ((0 : Int), (0 : Int), (0 : Int), (0 : Int)) (L ++ [d]) 0).2.1)) _ _) _
    rw [h0, i64_in d.2.1 (by omega), O.cond_neg (by omega)]
    exact rfin_S k hk q b h hb bh L d hL hR acc (by omega) hra
  | succ m ih =>
    intro i j hi hj acc ha hra
    obtain ⟨j, rfl⟩ : ∃ i, j = i + 1 := ⟨j - 1, by omega⟩
    show O.sat (F_aqueductref14_Queue_chain.l2_b k _ R0 _ _ _) _
    unfold F_aqueductref14_Queue_chain.l2_b
    show O.sat (O.cond (decide (16 * (i : Int) < IntKind.i64.wrap (gt ((0 : Int), (0 : Int), (0 : Int), (0 : Int)) (L ++ [d]) 0).2.1)) (O.chk (decide (0 ≤ (IntKind.i64.wrap ((IntKind.i64.wrap (gt ((0 : Int), (0 : Int), (0 : Int), (0 : Int)) (L ++ [d]) (0 : Int)).1) + 16 * (i : Int))) ∧ (IntKind.i64.wrap ((IntKind.i64.wrap (gt ((0 : Int), (0 : Int), (0 : Int), (0 : Int)) (L ++ [d]) (0 : Int)).1) + 16 * (i : Int))) ≤ (IntKind.i64.wrap ((IntKind.i64.wrap ((IntKind.i64.wrap (gt ((0 : Int), (0 : Int), (0 : Int), (0 : Int)) (L ++ [d]) (0 : Int)).1) + 16 * (i : Int))) + (16 : Int))) ∧ (IntKind.i64.wrap ((IntKind.i64.wrap ((IntKind.i64.wrap (gt ((0 : Int), (0 : Int), (0 : Int), (0 : Int)) (L ++ [d]) (0 : Int)).1) + 16 * (i : Int))) + (16 : Int))) ≤ (h.1.size : Int))) (O.bind (F_aqueductref12_Parse.S k (h.1.extract (IntKind.i64.wrap ((IntKind.i64.wrap (gt ((0 : Int), (0 : Int), (0 : Int), (0 : Int)) (L ++ [d]) (0 : Int)).1) + 16 * (i : Int))).toNat (IntKind.i64.wrap ((IntKind.i64.wrap ((IntKind.i64.wrap (gt ((0 : Int), (0 : Int), (0 : Int), (0 : Int)) (L ++ [d]) (0 : Int)).1) + 16 * (i : Int))) + (16 : Int))).toNat)) _)) _) _
    rw [h0, i64_in d.2.1 (by omega), O.cond_pos (by omega), i64_in d.1 (by omega), i64_in (d.1 + _) (by omega), i64_in (d.1 + _ + 16) (by omega), O.chk_dec (by omega), hb]
    refine O.sat_eq (rAt_S k (by omega) _ _ (by omega)) ?_
    have hx := rdD_rng b (d.1 + 16 * (i : Int))
    unfold tableP
    show O.sat (O.bind (F_aqueductref14_bit.S k (rdD b (d.1 + 16 * (i : Int))) 4) _) _
    refine O.sat_eq (rbit_S k _ hx 2 (by omega)) ?_
    show O.sat (O.cond (decide (bAnd .i64 (rdD b (d.1 + 16 * (i : Int))).2.2.2 4 ≠ 0)) _ _) _
    by_cases hf : bAnd .i64 (rdD b (d.1 + 16 * (i : Int))).2.2.2 4 = 0
    · rw [O.cond_neg (by simp [hf]), if_pos hf, O.chk_dec (by simp; omega), i64_in _ (by omega)]
      have := ih (i + 1) j (by omega) (by omega) (acc ++ [rdD b (d.1 + 16 * (i : Int))]) (by simp; omega) (by
        intro x hx'
        rcases List.mem_append.1 hx' with hx' | hx'
        · exact hra x hx'
        · rw [List.mem_singleton] at hx'; subst hx'; exact hx)
      rw [show 16 * (i : Int) + 16 = 16 * ((i + 1 : Nat) : Int) by push_cast; omega, show d.1 + 16 * (i : Int) + 16 = d.1 + 16 * ((i + 1 : Nat) : Int) by push_cast; omega]
      exact this
    · rw [O.cond_pos hf, if_neg hf]
      exact O.sat_ok ⟨rfl, rfl⟩
theorem rj6_S (v : Bool) (hv : v = decide (bAnd .i64 d.2.2.2 4 ≠ 0)) (h1 : v = true → L = []) (R0 : Bool → Int → O ((CH × Bool) × TQ × TR)) :
    O.sat (F_aqueductref14_Queue_chain.j6 k (((L ++ [d]), true), (q, h)) v R0) fun r => r.2 = (q, h) ∧ rC (tailP b (L ++ [d]) d) r.1 := by
  have hz : (h.1.size : Int) = b.length := by rw [hb, size_strOf]
  have hdr := hR d (by simp)
  have hdr' := hdr
  obtain ⟨r1, r2, r3, _⟩ := hdr'
  unfold F_aqueductref14_Queue_chain.j6 F_aqueductref14_Queue_chain.j6_b tailP
  cases v with
  | false =>
    rw [O.cond_false, if_neg (of_decide_eq_false hv.symm)]
    exact rfin_S k hk q b h hb bh L d hL hR (L ++ [d]) hL hR
  | true =>
    have hl := h1 rfl
    have h0 : gt ((0 : Int), (0 : Int), (0 : Int), (0 : Int)) (L ++ [d]) 0 = d := by rw [hl]; rfl
    rw [O.cond_true, if_pos (of_decide_eq_true hv.symm)]
    show O.sat (O.chk (decide (0 ≤ (0 : Int) ∧ (0 : Int) < ((L ++ [d]).length : Int) ∧ ((L ++ [d]).length : Int) ≤ ((L ++ [d]).length : Int))) (O.chk (decide (0 ≤ (0 : Int) ∧ (0 : Int) < ((L ++ [d]).length : Int))) (O.cond (decide ((gt ((0 : Int), (0 : Int), (0 : Int), (0 : Int)) (L ++ [d]) (0 : Int)).2.1 = (0 : Int))) (.ok ((((0 : Int), (0 : Int), []), false), (q, h))) (O.cond (decide ((Int.tmod (gt ((0 : Int), (0 : Int), (0 : Int), (0 : Int)) (L ++ [d]) (0 : Int)).2.1 (16 : Int)) ≠ (0 : Int))) (.ok ((((0 : Int), (0 : Int), []), false), (q, h))) (O.cond (decide ((gt ((0 : Int), (0 : Int), (0 : Int), (0 : Int)) (L ++ [d]) (0 : Int)).2.1 > (1024 : Int))) (.ok ((((0 : Int), (0 : Int), []), false), (q, h))) (O.cond (decide ((gt ((0 : Int), (0 : Int), (0 : Int), (0 : Int)) (L ++ [d]) (0 : Int)).1 > (IntKind.u64.wrap (h.1.size : Int)))) (.ok ((((0 : Int), (0 : Int), []), false), (q, h))) (O.bind (F_aqueductref04_Memory_May.S k (IntKind.i64.wrap (gt ((0 : Int), (0 : Int), (0 : Int), (0 : Int)) (L ++ [d]) (0 : Int)).1) (IntKind.i64.wrap (gt ((0 : Int), (0 : Int), (0 : Int), (0 : Int)) (L ++ [d]) (0 : Int)).2.1) h) fun r13 => O.cond (!r13) (.ok ((((0 : Int), (0 : Int), []), false), (q, h))) (F_aqueductref14_Queue_chain.l2 k (((L ++ [d]), true), (q, h)) R0 k (0 : Int) [])))))))) _
    rw [O.chk_dec (by simp), O.chk_dec (by simp), h0, hz, u64_in (b.length : Int) (by omega)]
    have none_ok : tabP b d = none → O.sat (.ok ((((0 : Int), (0 : Int), ([] : List P3)), false), (q, h))) (fun r : (CH × Bool) × TQ × TR => r.2 = (q, h) ∧ rC (match tabP b d with
        | none => none
        | some T => match partsP b.length T false [] with
          | none => none
          | some ps => some (d.2.2.1, ((L ++ [d]).length : Int), ps)) r.1) := by
      intro e; rw [e]; exact O.sat_ok ⟨rfl, rfl⟩
    by_cases a1 : d.2.1 = 0
    · rw [O.cond_pos a1]; exact none_ok (by unfold tabP; rw [if_neg (by omega)])
    rw [O.cond_neg a1]
    by_cases a2 : Int.tmod d.2.1 16 ≠ 0
    · rw [O.cond_pos a2]; exact none_ok (by unfold tabP; rw [if_neg (by omega)])
    rw [O.cond_neg a2]
    by_cases a3 : d.2.1 > 1024
    · rw [O.cond_pos a3]; exact none_ok (by unfold tabP; rw [if_neg (by omega)])
    rw [O.cond_neg a3]
    by_cases a4 : d.1 > (b.length : Int)
    · rw [O.cond_pos a4]; exact none_ok (by unfold tabP; rw [if_neg (fun x => by have := mayM_iff.1 x.2.2.2.2; omega)])
    rw [O.cond_neg a4, i64_in d.1 (by omega), i64_in d.2.1 (by omega), rMay_S k _ _ _ (by omega), O.bind_ok, hz]
    by_cases a5 : mayM d.1 d.2.1 b.length = true
    · have a5' := mayM_iff.1 a5
      have et : tabP b d = tableP b d.1 (d.2.1 / 16).toNat [] := by unfold tabP; rw [if_pos ⟨by omega, by omega, by omega, by omega, a5⟩]
      rw [a5, Bool.not_true, O.cond_false, et]
      rw [rem_in _ _ r2] at a2
      have := rtable_S k hk q b h hb bh L d hL hR (by omega) (d.2.1 / 16).toNat (by omega) (by omega) (by omega) h0 R0 (d.2.1 / 16).toNat 0 k (by omega) (by omega) [] (by simp) (by simp)
      rw [show d.1 + 16 * ((0 : Nat) : Int) = d.1 by omega] at this
      exact this
    · rw [Bool.not_eq_true] at a5
      rw [a5, Bool.not_false, O.cond_true]; exact none_ok (by unfold tabP; rw [if_neg (fun x => by have := x.2.2.2.2; rw [a5] at this; simp at this)])
def b4 (x : D4) : Bool := decide (bAnd .i64 x.2.2.2 4 ≠ 0)
theorem rloop_S : ∀ (m i j : Nat), i + m = (L ++ [d]).length → m < j → ∀ v : Bool, (v = true ∨ v = ((L ++ [d]).take i).any b4) → (v = true → (L ++ [d]).any b4 = true) →
    O.sat (F_aqueductref14_Queue_chain.l0 k (((L ++ [d]), true), (q, h)) j v (i : Int)) fun r => r.2 = (q, h) ∧ rC (endP b (L ++ [d]) d) r.1 := by
  intro m
  induction m with
  | zero =>
    intro i j hi hj v hv hv2
    obtain ⟨j, rfl⟩ : ∃ i, j = i + 1 := ⟨j - 1, by omega⟩
    show O.sat (F_aqueductref14_Queue_chain.l0_b k _ _ _ _ _) _
    unfold F_aqueductref14_Queue_chain.l0_b
    show O.sat (O.cond (decide ((i : Int) < ((L ++ [d]).length : Int))) _ (O.cond v (O.cond (decide (((L ++ [d]).length : Int) > 1)) (.ok ((((0 : Int), (0 : Int), []), false), (q, h))) (F_aqueductref14_Queue_chain.j6 k (((L ++ [d]), true), (q, h)) v (F_aqueductref14_Queue_chain.l0 k (((L ++ [d]), true), (q, h)) j))) (F_aqueductref14_Queue_chain.j6 k (((L ++ [d]), true), (q, h)) v (F_aqueductref14_Queue_chain.l0 k (((L ++ [d]), true), (q, h)) j)))) _
    rw [O.cond_neg (by omega)]
    have hany : v = (L ++ [d]).any b4 := by
      rcases hv with rfl | hv
      · exact (hv2 rfl).symm
      · rw [hv, List.take_of_length_le (by omega)]
    have hlone : loneP ((L ++ [d]).length : Int) (L ++ [d]) = (!((L ++ [d]).any b4) || decide (((L ++ [d]).length : Int) = 1)) := by
      unfold loneP
      generalize decide (((L ++ [d]).length : Int) = 1) = o
      have : ∀ M : List D4, (M.all fun x => decide (bAnd .i64 x.2.2.2 4 = 0) || o) = (!(M.any b4) || o) := by
        intro M
        induction M with
        | nil => simp
        | cons x r ih2 =>
          rw [List.all_cons, List.any_cons, ih2]
          unfold b4
          by_cases e : bAnd .i64 x.2.2.2 4 = 0
          · rw [decide_eq_true e, decide_eq_false (by simp [e])]; simp
          · rw [decide_eq_false e, decide_eq_true e]; cases o <;> simp
      exact this _
    have hl1 : ((L ++ [d]).length : Int) = L.length + 1 := by simp
    unfold endP
    rw [hlone]
    cases v with
    | false =>
      rw [← hany, Bool.not_false, Bool.true_or, if_pos rfl, O.cond_false]
      refine rj6_S k hk q b h hb bh L d hL hR false ?_ (by simp) _
      have : b4 d = false := by
        have := hany.symm
        rw [List.any_append] at this
        simp at this; exact this.2
      exact this.symm
    | true =>
      rw [← hany, Bool.not_true, Bool.false_or, O.cond_true]
      by_cases h1 : ((L ++ [d]).length : Int) > 1
      · rw [O.cond_pos h1, decide_eq_false (by omega), if_neg (by decide)]
        exact O.sat_ok ⟨rfl, rfl⟩
      · have hl0 : L = [] := List.length_eq_zero_iff.1 (by omega)
        rw [O.cond_neg h1, decide_eq_true (by omega), if_pos rfl]
        refine rj6_S k hk q b h hb bh L d hL hR true ?_ (fun _ => hl0) _
        subst hl0
        simpa [b4] using hany
  | succ m ih =>
    intro i j hi hj v hv hv2
    obtain ⟨j, rfl⟩ : ∃ i, j = i + 1 := ⟨j - 1, by omega⟩
    show O.sat (F_aqueductref14_Queue_chain.l0_b k _ _ _ _ _) _
    unfold F_aqueductref14_Queue_chain.l0_b
    show O.sat (O.cond (decide ((i : Int) < ((L ++ [d]).length : Int))) (O.cond v _ (O.chk (decide (0 ≤ (i : Int) ∧ (i : Int) < ((L ++ [d]).length : Int) ∧ ((L ++ [d]).length : Int) ≤ ((L ++ [d]).length : Int))) (O.chk (decide (0 ≤ (i : Int) ∧ (i : Int) < ((L ++ [d]).length : Int))) (O.bind (F_aqueductref14_bit.S k (gt ((0 : Int), (0 : Int), (0 : Int), (0 : Int)) (L ++ [d]) (i : Int)) 4) _)))) _) _
    rw [O.cond_pos (by omega), i64_in ((i : Int) + 1) (by omega)]
    cases v with
    | true =>
      rw [O.cond_true]
      exact ih (i + 1) j (by omega) (by omega) true (Or.inl rfl) hv2
    | false =>
      rw [O.cond_false, O.chk_dec (by omega), O.chk_dec (by omega), gt_at _ _ _ (by omega : i < (L ++ [d]).length)]
      refine O.sat_eq (rbit_S k _ (hR _ (List.getElem_mem (by omega))) 2 (by omega)) ?_
      have ht : ((L ++ [d]).take i).any b4 = false := by rcases hv with hv | hv; cases hv; exact hv.symm
      have e : (decide (bAnd .i64 ((L ++ [d])[i]'(by omega)).2.2.2 (2 ^ 2) ≠ 0)) = ((L ++ [d]).take (i + 1)).any b4 := by
        rw [List.take_add_one, List.any_append, ht, Bool.false_or, List.getElem?_eq_getElem (by omega)]
        simp [b4]
      refine ih (i + 1) j (by omega) (by omega) _ (Or.inr e) ?_
      intro ht2
      rw [e] at ht2
      obtain ⟨x, hx, hx2⟩ := List.any_eq_true.1 ht2
      exact List.any_eq_true.2 ⟨x, List.mem_of_mem_take hx, hx2⟩
end
theorem rchain_S (k : Nat) (hk : 100 ≤ k) (q : TQ) (b : List Int) (h : TR) (hb : h.1 = strOf b) (hq : OkR q b) :
    O.sat (F_aqueductref14_Queue_chain.S k q h) fun r => r.2 = (q, h) ∧ rC (chainR b q 64 [rdD b (q.1.1 + 16 * q.2.1.1)] (rdD b (q.1.1 + 16 * q.2.1.1)) q.2.1) r.1 := by
  unfold F_aqueductref14_Queue_chain.S F_aqueductref14_Queue_chain.top
  have h1 := O.sat_twice (ring_S k hk q b h hb hq 64 k (by omega) [] q.2.1 rfl (by omega) (by simp) hq.next)
  refine O.sat_bind h1 ?_
  rintro ⟨⟨LL, ok⟩, qh⟩ ⟨hqh, hc⟩
  simp only at hqh hc
  subst hqh
  rcases hc with ⟨L, d, he, hl, hR, hch⟩ | ⟨he, hch⟩
  · cases he
    show O.sat (O.cond false _ (O.chk (decide (0 ≤ (IntKind.i64.wrap (((L ++ [d]).length : Int) - (1 : Int))) ∧ (IntKind.i64.wrap (((L ++ [d]).length : Int) - (1 : Int))) < ((L ++ [d]).length : Int) ∧ ((L ++ [d]).length : Int) ≤ ((L ++ [d]).length : Int))) (O.chk (decide (0 ≤ (IntKind.i64.wrap (((L ++ [d]).length : Int) - (1 : Int))) ∧ (IntKind.i64.wrap (((L ++ [d]).length : Int) - (1 : Int))) < ((L ++ [d]).length : Int))) (F_aqueductref14_Queue_chain.l0 k (((L ++ [d]), true), (q, h)) k false 0)))) _
    have hl1 : ((L ++ [d]).length : Int) = L.length + 1 := by simp
    rw [O.cond_false, i64_in (((L ++ [d]).length : Int) - 1) (by omega), O.chk_dec (by omega), O.chk_dec (by omega)]
    have := rloop_S k hk q b h hb hq.hi L d hl hR (L ++ [d]).length 0 k (by omega) (by omega) false (Or.inr (by simp)) (by simp)
    rw [List.nil_append] at hch
    rw [hch]; exact this
  · subst he
    rw [List.nil_append] at hch
    rw [hch]
    show O.sat (O.cond true _ _) _
    rw [O.cond_true]
    exact O.sat_ok ⟨rfl, rfl⟩
theorem rNext_S (k : Nat) (hk : 100 ≤ k) (q : TQ) (b : List Int) (h : TR) (hb : h.1 = strOf b) (hq : OkR q b) :
    F_aqueductref14_Queue_Next.S k q h = .ok ((nextR q b).1, ((nextR q b).2, h)) := by
  have hz : (h.1.size : Int) = b.length := by rw [hb, size_strOf]
  have ol := hq.l.lo; have oh := hq.l.hi; have or := hq.l.ring; have oo := hq.out; have on := hq.next; have bh := hq.hi
  apply O.sat_val
  unfold F_aqueductref14_Queue_Next.S F_aqueductref14_Queue_Next.top nextR
  cases hbr : q.2.2.2.2.2.2 with
  | true => rw [O.cond_true]; exact O.sat_ok rfl
  | false =>
    rw [O.cond_false, if_neg (by decide)]
    by_cases h1 : q.2.2.2.2.2.1 = q.1.2.1
    · rw [O.cond_pos h1, if_pos (by omega)]; exact O.sat_twice (O.sat_ok rfl)
    · rw [O.cond_neg h1, if_neg (by omega)]
      refine O.sat_twice ?_
      rw [i64_in (16 * _) (by omega), i64_in (q.1.1 + _) (by omega), i64_in (q.1.1 + _ + 16) (by omega), hz]
      refine O.sat_chk (by omega) ?_
      rw [hb]
      refine O.sat_eq (rAt_S k (by omega) _ _ (by omega)) ?_
      have hd := rdD_rng b (q.1.1 + 16 * q.2.1.1)
      refine O.sat_eq (rAvail_S k _ hd.2.2.2.2.2 _) ?_
      show O.sat (O.cond (!(availP (rdD b (q.1.1 + 16 * q.2.1.1)).2.2.2 q.2.1.2)) _ _) _
      cases ha : availP (rdD b (q.1.1 + 16 * q.2.1.1)).2.2.2 q.2.1.2 with
      | false => rw [Bool.not_false, O.cond_true, if_neg (by decide)]; exact O.sat_ok rfl
      | true =>
        rw [Bool.not_true, O.cond_false, if_pos rfl]
        unfold F_aqueductref14_Queue_Next.j2 F_aqueductref14_Queue_Next.j2_b
        refine O.sat_bind (rchain_S k hk q b h hb hq) ?_
        rintro ⟨⟨c, ok⟩, qh⟩ ⟨e, hc⟩
        simp only at e hc
        subst e
        cases hcc : chainR b q 64 [rdD b (q.1.1 + 16 * q.2.1.1)] (rdD b (q.1.1 + 16 * q.2.1.1)) q.2.1 with
        | none =>
          rw [hcc] at hc
          change ok = false at hc
          subst hc
          show O.sat (O.cond true _ _) _
          rw [O.cond_true]; exact O.sat_ok rfl
        | some c' =>
          rw [hcc] at hc
          change (c, ok) = (c', true) at hc
          cases hc
          have hcs := chainR_some _ _ _ _ _ _ _ hcc (by simp) (by simp; omega)
          show O.sat (O.cond false _ _) _
          rw [O.cond_false]
          refine O.sat_twice ?_
          have e := rSpNext_S k q.2.1 c.2.1.toNat q.1.2.1 on oh (by omega) (by omega)
          rw [show ((c.2.1.toNat : Nat) : Int) = c.2.1 by omega] at e
          refine O.sat_eq e (O.sat_ok ?_)
          show ((c, true, (0 : Int)), ((q.1, _, q.2.2.1, q.2.2.2.1, q.2.2.2.2.1, IntKind.i64.wrap (q.2.2.2.2.2.1 + c.2.1), q.2.2.2.2.2.2), h)) = _
          rw [i64_in _ (by omega), hbr]
end Go.Proofs.Ytjdhepioehfmhaa
