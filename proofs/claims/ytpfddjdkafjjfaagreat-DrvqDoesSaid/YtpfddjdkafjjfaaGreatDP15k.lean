/- Layer 15, plain: Post, the document's and the program's: the same answers, the same bytes. -/
import Derived.Test.YtpfddjdkafjjfaaGreatDP15i
namespace Go.Proofs.YtpfddjdkafjjfaaGreat
open Go.Aq Go.IntWalk
set_option linter.unusedVariables false
/-! ### Bytes laid over bytes -/
theorem putAt_get (b ys : List Int) (a : Int) (h : 0 ≤ a ∧ a + ys.length ≤ b.length) (i : Nat) : (putAt b a ys)[i]? = if a.toNat ≤ i ∧ i < a.toNat + ys.length then ys[i - a.toNat]? else b[i]? := by
  have h1 : (List.take a.toNat b).length = a.toNat := by rw [List.length_take]; omega
  unfold putAt
  by_cases c1 : i < a.toNat
  · rw [if_neg (by omega), List.getElem?_append_left (by omega), List.getElem?_take, if_pos c1]
  · rw [List.getElem?_append_right (by omega), h1]
    by_cases c2 : i < a.toNat + ys.length
    · rw [if_pos ⟨by omega, c2⟩, List.getElem?_append_left (by omega)]
    · rw [if_neg (by omega), List.getElem?_append_right (by omega), List.getElem?_drop]
      congr 1; omega
theorem putAt_comm (b ys zs : List Int) (a c : Int) (ha : 0 ≤ a ∧ a + ys.length ≤ b.length) (hc : 0 ≤ c ∧ c + zs.length ≤ b.length) (hd : a + ys.length ≤ c ∨ c + zs.length ≤ a) : putAt (putAt b a ys) c zs = putAt (putAt b c zs) a ys := by
  have e1 : (putAt b a ys).length = b.length := putAt_len _ _ _ ha.1 ha.2
  have e2 : (putAt b c zs).length = b.length := putAt_len _ _ _ hc.1 hc.2
  apply List.ext_getElem?
  intro i
  rw [putAt_get _ zs c (by rw [e1]; exact hc), putAt_get b ys a ha, putAt_get _ ys a (by rw [e2]; exact ha), putAt_get b zs c hc]
  by_cases c1 : c.toNat ≤ i ∧ i < c.toNat + zs.length
  · rw [if_pos c1, if_neg (by omega), if_pos c1]
  · rw [if_neg c1]
    by_cases c2 : a.toNat ≤ i ∧ i < a.toNat + ys.length
    · rw [if_pos c2, if_pos c2]
    · rw [if_neg c2, if_neg c2, if_neg c1]
theorem Store_at (k : Nat) (hk : 9 ≤ k) (a : Int) (n : Nat) (hn : n = 2 ∨ n = 4 ∨ n = 8) (v : Int) (hv : 0 ≤ v ∧ v < 256 ^ n) (g : TM) (h : okM g) (ha : 0 ≤ a ∧ a + n ≤ g.1.length) :
    ∃ r, F_gmem_Memory_Store.S k a (n : Int) (IntKind.u64.wrap v) g = .ok (0, r) ∧ okM r ∧ r.1 = putAt g.1 a (bytesOf (putL v n)) ∧ r.1.length = g.1.length := by
  have hv2 : v < 18446744073709551616 := by
    have : (256 : Int) ^ n ≤ 18446744073709551616 := by rcases hn with rfl | rfl | rfl <;> decide
    omega
  have hm : mayM a n g.1.length = true := mayM_iff.2 (by omega)
  have hm' : mayM a ((putL v n).size : Int) g.1.length = true := by rw [putL_size]; exact hm
  have w := wrM_ok g a (putL v n) h hm'
  rw [u64_in v ⟨hv.1, by omega⟩, Store_S k hk a n hn v ⟨hv.1, hv2⟩ g h, if_pos hv.2, if_pos hm]
  exact ⟨_, rfl, w.1, rfl, w.2⟩
/-! ### Flags -/
def flB (nx wr rd : Bool) : Int := (bif nx then 1 else 0) + (bif wr then 2 else 0) + (bif rd then 128 else 32768)
theorem flB_in (nx wr rd : Bool) : 0 ≤ flB nx wr rd ∧ flB nx wr rd < 65536 := by cases nx <;> cases wr <;> cases rd <;> decide
theorem rMark_B (k : Nat) (nx wr rd : Bool) : F_aqueductref12_Mark.S k (bif wr then IntKind.i64.wrap ((bif nx then 1 else 0) + 2) else (bif nx then 1 else 0)) rd false = .ok (flB nx wr rd) := by
  unfold F_aqueductref12_Mark.S
  cases rd <;> simp only [O.cond_true, O.cond_false, Bool.not_true, Bool.not_false] <;> cases nx <;> cases wr <;> rfl
theorem dMark_B (k : Nat) (nx wr rd : Bool) : F_desc_Mark.S k (bif wr then bOr .i64 (bif nx then 1 else 0) 2 else (bif nx then 1 else 0)) rd false = .ok (flB nx wr rd) := by
  unfold F_desc_Mark.S
  cases rd
  · rw [O.cond_false, O.cond_pos rfl]; cases nx <;> cases wr <;> rfl
  · rw [O.cond_true, O.cond_neg (by simp)]; cases nx <;> cases wr <;> rfl
/-! ### What is written -/
section
variable (p : List TP) (L : LAY) (s0 : Int × Bool) (id : Int)
def paP (i : Nat) : TP := gt ((0 : Int), (0 : Int), false) p (i : Int)
def plP (i : Nat) : Int := L.1 + 16 * (nextSp s0 (i : Int) L.2.1).1
def fgP (i : Nat) : Int := flB (decide (i + 1 < p.length)) (paP p i).2.2 (nextSp s0 (i : Int) L.2.1).2
def hdP (i : Nat) : ByteArray := (putL (paP p i).1 8 ++ putL (paP p i).2.1 4) ++ putL id 2
def dsP (i : Nat) : ByteArray := dscB ((paP p i).1, (paP p i).2.1, id, fgP p L s0 i)
theorem dsP_eq (i : Nat) : dsP p L s0 id i = hdP p id i ++ putL (fgP p L s0 i) 2 := rfl
theorem hdP_len (i : Nat) : (bytesOf (hdP p id i)).length = 14 := by rw [bytesOf_len]; unfold hdP; rw [app_size, app_size, putL_size, putL_size, putL_size]
theorem dsP_len (i : Nat) : (bytesOf (dsP p L s0 id i)).length = 16 := by rw [bytesOf_len]; exact dscB_size _
def bD (b : List Int) : Nat → List Int
  | 0 => b
  | i + 1 => putAt (bD b i) (plP L s0 i) (bytesOf (dsP p L s0 id i))
def bI (b : List Int) : Nat → List Int
  | 0 => b
  | i + 1 => putAt (bI b i) (plP L s0 i) (bytesOf (if i = 0 then hdP p id i else dsP p L s0 id i))
theorem plP_in (hs : 0 ≤ s0.1 ∧ s0.1 < L.2.1) (i : Nat) (hi : (i : Int) < L.2.1) (len : Int) (hL : LayIn L len) : 0 ≤ plP L s0 i ∧ plP L s0 i + 16 ≤ len := by
  have h1 := nextSp_in s0 (i : Int) L.2.1 hs (by omega)
  have h2 := hL.r
  unfold plP; omega
theorem plP_ne (hs : 0 ≤ s0.1 ∧ s0.1 < L.2.1) (i : Nat) (h0 : 0 < i) (hi : (i : Int) < L.2.1) : plP L s0 i + 16 ≤ plP L s0 0 ∨ plP L s0 0 + 16 ≤ plP L s0 i := by
  unfold plP nextSp
  rw [if_neg (show ¬ s0.1 + ((0 : Nat) : Int) ≥ L.2.1 by omega)]
  split
  · show L.1 + 16 * (s0.1 + (i : Int) - L.2.1) + 16 ≤ L.1 + 16 * (s0.1 + ((0 : Nat) : Int)) ∨ _
    omega
  · show _ ∨ L.1 + 16 * (s0.1 + ((0 : Nat) : Int)) + 16 ≤ L.1 + 16 * (s0.1 + (i : Int))
    omega
theorem bD_len (b : List Int) (hs : 0 ≤ s0.1 ∧ s0.1 < L.2.1) (hL : LayIn L b.length) : ∀ i : Nat, (i : Int) ≤ L.2.1 → (bD p L s0 id b i).length = b.length
  | 0, _ => rfl
  | i + 1, h => by
    have ih := bD_len b hs hL i (by omega)
    have hp := plP_in L s0 hs i (by omega) b.length hL
    show (putAt _ _ _).length = _
    rw [putAt_len _ _ _ hp.1 (by rw [dsP_len, ih]; omega), ih]
theorem bI_len (b : List Int) (hs : 0 ≤ s0.1 ∧ s0.1 < L.2.1) (hL : LayIn L b.length) : ∀ i : Nat, (i : Int) ≤ L.2.1 → (bI p L s0 id b i).length = b.length
  | 0, _ => rfl
  | i + 1, h => by
    have ih := bI_len b hs hL i (by omega)
    have hp := plP_in L s0 hs i (by omega) b.length hL
    show (putAt _ _ (bytesOf (if i = 0 then _ else _))).length = _
    have hl : (bytesOf (if i = 0 then hdP p id i else dsP p L s0 id i)).length ≤ 16 := by
      split
      · rw [hdP_len]; omega
      · rw [dsP_len]; omega
    rw [putAt_len _ _ _ hp.1 (by rw [ih]; omega), ih]
theorem bD_bI (b : List Int) (hs : 0 ≤ s0.1 ∧ s0.1 < L.2.1) (hL : LayIn L b.length) : ∀ i : Nat, ((i + 1 : Nat) : Int) ≤ L.2.1 → bD p L s0 id b (i + 1) = putAt (bI p L s0 id b (i + 1)) (plP L s0 0 + 14) (bytesOf (putL (fgP p L s0 0) 2))
  | 0, h => by
    have hp := plP_in L s0 hs 0 (by omega) b.length hL
    have hf : (bytesOf (putL (fgP p L s0 0) 2)).length = 2 := by rw [bytesOf_len, putL_size]
    have := put_put b (bytesOf (hdP p id 0)) (bytesOf (putL (fgP p L s0 0) 2)) (plP L s0 0) (by rw [hdP_len, hf]; omega)
    rw [hdP_len, ← bytesOf_app, ← dsP_eq] at this
    exact this.symm
  | i + 1, h => by
    have ih := bD_bI b hs hL i (by omega)
    have hp0 := plP_in L s0 hs 0 (by omega) b.length hL
    have hp := plP_in L s0 hs (i + 1) (by omega) b.length hL
    have hne := plP_ne L s0 hs (i + 1) (by omega) (by omega)
    have hl := bI_len p L s0 id b hs hL (i + 1) (by omega)
    have hf : (bytesOf (putL (fgP p L s0 0) 2)).length = 2 := by rw [bytesOf_len, putL_size]
    show putAt (bD p L s0 id b (i + 1)) (plP L s0 (i + 1)) (bytesOf (dsP p L s0 id (i + 1))) = putAt (putAt (bI p L s0 id b (i + 1)) (plP L s0 (i + 1)) (bytesOf (if i + 1 = 0 then _ else _))) _ _
    rw [if_neg (by omega), ih]
    exact putAt_comm _ _ _ _ _ (by rw [hf, hl]; omega) (by rw [dsP_len, hl]; omega) (by rw [hf, dsP_len]; omega)
end
/-! ### May it be posted? -/
def pOk (p : List TP) (len : Int) (i : Nat) : Bool := decide (0 < (paP p i).2.1) && mayM (paP p i).1 (paP p i).2.1 len && (decide (i = 0) || (paP p i).2.2 || !(paP p (i - 1)).2.2)
def alF (p : List TP) (len : Int) : Nat → Nat → Bool
  | 0, _ => true
  | m + 1, i => pOk p len i && alF p len m (i + 1)
theorem alF_at (p : List TP) (len : Int) : ∀ (m i j : Nat), alF p len m i = true → i ≤ j → j < i + m → pOk p len j = true
  | 0, i, j, _, _, _ => by omega
  | m + 1, i, j, h, h1, h2 => by
    simp only [alF, Bool.and_eq_true] at h
    by_cases e : i = j
    · subst e; exact h.1
    · exact alF_at p len m (i + 1) j h.2 (by omega) (by omega)
def mayE (p : List TP) (len f : Int) : Int := if 1 ≤ p.length ∧ p.length ≤ 64 ∧ alF p len p.length 0 = true then (if (p.length : Int) > f then 151 else 0) else 150
theorem may_is (k : Nat) (hk : 70 ≤ k) (p : List TP) (q : TV) (g : TM) (hg : okM g) : F_drvq_Queue_may.S k p q g = .ok (mayE p g.1.length q.2.2.2.2.2.1, (q, g)) := by
  unfold F_drvq_Queue_may.S F_drvq_Queue_may.top mayE
  by_cases a1 : (p.length : Int) = 0
  · rw [O.cond_pos a1, if_neg (by omega)]
  by_cases a2 : (p.length : Int) > 64
  · rw [O.cond_neg a1, O.cond_pos a2, if_neg (by omega)]
  rw [O.cond_neg a1, O.cond_neg a2]
  have lp : ∀ (m i j : Nat), i + m = p.length → m < j → F_drvq_Queue_may.l0 k p q g j (i : Int) = .ok ((if alF p g.1.length m i = true then (if (p.length : Int) > q.2.2.2.2.2.1 then 151 else 0) else 150), (q, g)) := by
    intro m
    induction m with
    | zero =>
      intro i j hi hj
      obtain ⟨j, rfl⟩ : ∃ i, j = i + 1 := ⟨j - 1, by omega⟩
      show F_drvq_Queue_may.l0_b _ _ _ _ _ _ = _
      unfold F_drvq_Queue_may.l0_b
      rw [O.cond_neg (by omega), O.cond_dec, if_pos (show alF p g.1.length 0 i = true from rfl)]
      split <;> rfl
    | succ m ih =>
      intro i j hi hj
      obtain ⟨j, rfl⟩ : ∃ i, j = i + 1 := ⟨j - 1, by omega⟩
      have hc := ih (i + 1) j (by omega) (by omega)
      have ea : alF p g.1.length (m + 1) i = (pOk p g.1.length i && alF p g.1.length m (i + 1)) := rfl
      have e1 : IntKind.i64.wrap ((i : Int) + 1) = ((i + 1 : Nat) : Int) := i64_in _ (by omega)
      show F_drvq_Queue_may.l0_b _ _ _ _ _ _ = _
      unfold F_drvq_Queue_may.l0_b
      rw [ea, O.cond_pos (by omega), O.chk_dec (by omega), O.chk_dec (by omega), show gt ((0 : Int), (0 : Int), false) p (i : Int) = paP p i from rfl]
      unfold pOk
      by_cases b1 : (paP p i).2.1 < 1
      · rw [O.cond_pos b1, decide_eq_false (show ¬ 0 < (paP p i).2.1 by omega)]; simp
      rw [O.cond_neg b1, May_S k _ _ g hg.1, O.bind_ok, decide_eq_true (show 0 < (paP p i).2.1 by omega), e1]
      cases b2 : mayM (paP p i).1 (paP p i).2.1 g.1.length with
      | false => rw [Bool.not_false, O.cond_true]; simp
      | true =>
        rw [Bool.not_true, O.cond_false]
        by_cases h0 : i = 0
        · subst h0
          rw [O.cond_neg (by omega), hc]; simp
        · have e3 : IntKind.i64.wrap ((i : Int) - 1) = ((i - 1 : Nat) : Int) := by rw [i64_in _ (by omega)]; omega
          rw [O.cond_pos (by omega), e3, O.chk_dec (by omega), O.chk_dec (by omega), show gt ((0 : Int), (0 : Int), false) p ((i - 1 : Nat) : Int) = paP p (i - 1) from rfl]
          cases b3 : (paP p (i - 1)).2.2 with
          | false => rw [O.cond_false, hc]; simp
          | true =>
            rw [O.cond_true]
            cases b4 : (paP p i).2.2 with
            | false => rw [Bool.not_false, O.cond_true]; simp [h0]
            | true => rw [Bool.not_true, O.cond_false, hc]; simp
  have lp0 := lp p.length 0 k (by omega) (by omega)
  rw [show ((0 : Nat) : Int) = 0 from rfl] at lp0
  show F_drvq_Queue_may.l0 k p q g k (0 : Int) = _
  rw [lp0]
  by_cases c : alF p g.1.length p.length 0 = true
  · rw [if_pos c, if_pos (show 1 ≤ p.length ∧ p.length ≤ 64 ∧ alF p g.1.length p.length 0 = true from ⟨by omega, by omega, c⟩)]
  · rw [if_neg c, if_neg (show ¬ (1 ≤ p.length ∧ p.length ≤ 64 ∧ alF p g.1.length p.length 0 = true) from fun h => c h.2.2)]
end Go.Proofs.YtpfddjdkafjjfaaGreat
