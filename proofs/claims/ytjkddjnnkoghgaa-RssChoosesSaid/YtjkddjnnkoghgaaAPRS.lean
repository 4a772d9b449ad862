/- What the functions of rss, and the document's, come to: which rules may be, which queue a frame goes to. -/
import Derived.Test.YtjkddjnnkoghgaaAPFL
import Derived.Test.YtjkddjnnkoghgaaAPH
import Derived.Test.YtjkddjnnkoghgaaAP11
namespace Go.Proofs.Ytjkddjnnkoghgaa
open Go.Aq Go.IntWalk
set_option linter.unusedVariables false
theorem small126 : ∀ n : Nat, n < 127 → n % 2 = 0 → bAndNot .i64 (n : Int) 126 = 0 := by decide +kernel
theorem andNot126 (a : Int) (ha : -9223372036854775808 ≤ a ∧ a ≤ 9223372036854775807) : bAndNot .i64 a 126 = 0 ↔ 0 ≤ a ∧ a ≤ 126 ∧ a % 2 = 0 := by
  constructor
  · intro h
    have hz : BitVec.ofInt 64 a &&& ~~~(BitVec.ofInt 64 126) = 0#64 := by
      apply BitVec.eq_of_toNat_eq
      have hl := (BitVec.ofInt 64 a &&& ~~~(BitVec.ofInt 64 126)).isLt
      have h' : IntKind.i64.wrap ((BitVec.ofInt 64 a &&& ~~~(BitVec.ofInt 64 126)).toNat : Int) = 0 := h
      rw [BitVec.toNat_ofNat]
      generalize (BitVec.ofInt 64 a &&& ~~~(BitVec.ofInt 64 126)).toNat = m at *
      rw [IntKind.wrap_i64] at h'
      omega
    have he : BitVec.ofInt 64 a = BitVec.ofInt 64 a &&& BitVec.ofInt 64 126 := by
      apply BitVec.eq_of_getLsbD_eq
      intro i hi
      have := congrArg (fun b => b.getLsbD i) hz
      simp only [BitVec.getLsbD_and, BitVec.getLsbD_not, BitVec.getLsbD_zero, hi, decide_true, Bool.true_and] at this
      rw [BitVec.getLsbD_and]
      cases h1 : (BitVec.ofInt 64 a).getLsbD i <;> cases h2 : (BitVec.ofInt 64 126).getLsbD i <;> simp_all
    have hn := congrArg BitVec.toNat he
    rw [BitVec.toNat_and, show (BitVec.ofInt 64 126).toNat = 126 from rfl, BitVec.toNat_ofInt] at hn
    have hle : (a % ((2 ^ 64 : Nat) : Int)).toNat ≤ 126 := by rw [hn]; exact Nat.and_le_right
    have hpos : 0 ≤ a % 18446744073709551616 := Int.emod_nonneg _ (by decide)
    have ea : a = (((a % ((2 ^ 64 : Nat) : Int)).toNat : Nat) : Int) := by
      show a = (((a % 18446744073709551616).toNat : Nat) : Int)
      have hle' : (a % 18446744073709551616).toNat ≤ 126 := hle
      omega
    have hev : (a % ((2 ^ 64 : Nat) : Int)).toNat % 2 = 0 := by
      have t : ((a % ((2 ^ 64 : Nat) : Int)).toNat).testBit 0 = false := by rw [hn, Nat.testBit_and]; simp
      rw [Nat.testBit_zero] at t
      have := of_decide_eq_false t
      omega
    generalize (a % ((2 ^ 64 : Nat) : Int)).toNat = n at *
    subst ea
    omega
  · rintro ⟨h1, h2, h3⟩
    obtain ⟨n, rfl⟩ := Int.eq_ofNat_of_zero_le h1
    exact small126 n (by omega) (by omega)
abbrev RssT := Int × List Int × ByteArray × Int
/-- May a table be so long? -/
def sizeOk (n : Nat) : Prop := n = 1 ∨ n = 2 ∨ n = 4 ∨ n = 8 ∨ n = 16 ∨ n = 32 ∨ n = 64 ∨ n = 128
instance (n : Nat) : Decidable (sizeOk n) := inferInstanceAs (Decidable (_ ∨ _))
theorem pow_size : ∀ n : Nat, n < 129 → (1 ≤ n ∧ bAnd .i64 (n : Int) ((n : Int) - 1) = 0 ↔ sizeOk n) := by decide +kernel
def validP (r : RssT) : Prop := 0 ≤ r.1 ∧ r.1 ≤ 126 ∧ r.1 % 2 = 0 ∧ sizeOk r.2.1.length ∧ 4 ≤ r.2.2.1.size ∧ r.2.2.1.size ≤ 52 ∧ 0 ≤ r.2.2.2 ∧ r.2.2.2 ≤ 7 ∧ okT r.2.1 = true
instance (r : RssT) : Decidable (validP r) := inferInstanceAs (Decidable (_ ∧ _))
def fitR (r : RssT) : Prop := -9223372036854775808 ≤ r.1 ∧ r.1 ≤ 9223372036854775807
theorem bad11_iff (r : RssT) (hr : fitR r) : bad11 r ↔ ¬ (0 ≤ r.1 ∧ r.1 ≤ 126 ∧ r.1 % 2 = 0 ∧ sizeOk r.2.1.length ∧ 4 ≤ r.2.2.1.size ∧ r.2.2.1.size ≤ 52 ∧ 0 ≤ r.2.2.2 ∧ r.2.2.2 ≤ 7) := by
  have a := andNot126 r.1 hr
  unfold bad11
  by_cases hl : r.2.1.length < 129
  · have p := pow_size r.2.1.length hl
    rw [i64_in ((r.2.1.length : Int) - 1) (by omega)]
    generalize bAndNot .i64 r.1 126 = x at *
    generalize bAnd .i64 (r.2.1.length : Int) ((r.2.1.length : Int) - 1) = y at *
    generalize hz : sizeOk r.2.1.length = z at *
    constructor
    · rintro h ⟨h1, h2, h3, h4, h5, h6, h7, h8⟩
      have hx := a.2 ⟨h1, h2, h3⟩
      have hp := p.2 h4
      omega
    · intro h
      apply Decidable.byContradiction
      intro c
      simp only [not_or] at c
      obtain ⟨c1, c2, c3, c4, c5, c6, c7, c8⟩ := c
      have hx := a.1 (by omega)
      have hp := p.1 (by omega)
      exact h ⟨by omega, by omega, by omega, hp, by omega, by omega, by omega, by omega⟩
  · constructor
    · rintro _ ⟨_, _, _, h, _⟩
      unfold sizeOk at h; omega
    · intro _; exact .inr (.inr (.inl (by omega)))
theorem Check_S (k : Nat) (hk : 200 ≤ k) (r : RssT) (hr : fitR r) : F_rss_Check.S k r = .ok (if validP r then 0 else 110) := by
  have e : validP r ↔ ¬ bad11 r ∧ okT r.2.1 = true := by
    rw [bad11_iff r hr, Decidable.not_not]; unfold validP
    constructor
    · rintro ⟨h1, h2, h3, h4, h5, h6, h7, h8, h9⟩; exact ⟨⟨h1, h2, h3, h4, h5, h6, h7, h8⟩, h9⟩
    · rintro ⟨⟨h1, h2, h3, h4, h5, h6, h7, h8⟩, h9⟩; exact ⟨h1, h2, h3, h4, h5, h6, h7, h8, h9⟩
  by_cases h : bad11 r
  · rw [Check_bad k r h, if_neg (fun c => (e.1 c).1 h)]
  · rw [Check_good k hk r h]
    by_cases t : okT r.2.1 = true
    · rw [if_pos t, if_pos (e.2 ⟨h, t⟩)]
    · rw [if_neg t, if_neg (fun c => t (e.1 c).2)]
theorem rCheck_S (k : Nat) (hk : 2000 ≤ k) (r : RssT) (hl : r.2.1.length ≤ 300) (hx : r.2.2.1.size ≤ 140737488351232) : F_aqueductref11_Check.S k r = .ok (if validP r then 0 else 110) := by
  have lp : ∀ (R : Bool → Int → O Int) (m i j : Nat) (v : Bool), i + m = r.2.1.length → m < j → F_aqueductref11_Check.l1 k r R j v (i : Int) = .ok (if v = true ∧ okT (r.2.1.drop i) = true then 0 else 110) := by
    intro R m
    induction m with
    | zero =>
      intro i j v hi hj
      obtain ⟨j, rfl⟩ : ∃ i, j = i + 1 := ⟨j - 1, by omega⟩
      show F_aqueductref11_Check.l1_b k r _ _ _ _ = _
      unfold F_aqueductref11_Check.l1_b
      rw [O.cond_neg (by omega), List.drop_eq_nil_of_le (by omega)]
      cases v <;> simp [okT]
    | succ m ih =>
      intro i j v hi hj
      obtain ⟨j, rfl⟩ : ∃ i, j = i + 1 := ⟨j - 1, by omega⟩
      show F_aqueductref11_Check.l1_b k r _ _ _ _ = _
      unfold F_aqueductref11_Check.l1_b
      have hg : gt (0 : Int) r.2.1 (i : Int) = r.2.1[i]'(by omega) := by rw [gt_nat, List.getD_eq_getElem?_getD, List.getElem?_eq_getElem (by omega)]; rfl
      have ih' := fun w => ih (i + 1) j w (by omega) (by omega)
      have hw : IntKind.i64.wrap ((i : Int) + 1) = ((i + 1 : Nat) : Int) := by rw [i64_in _ (by omega)]; push_cast; rfl
      rw [O.cond_pos (by omega), hw, O.chk_dec (by omega), O.chk_dec (by omega), hg, List.drop_eq_getElem_cons (by omega : i < r.2.1.length)]
      rw [O.chk_dec (by omega), O.chk_dec (by omega), ih', ih']
      generalize r.2.1[i]'(by omega) = y
      have oc : ∀ t : List Int, okT (y :: t) = (decide (0 ≤ y ∧ y < 8) && okT t) := fun t => by unfold okT; rw [List.all_cons]
      rw [oc]
      cases v
      · rw [O.cond_false]; simp
      · rw [O.cond_true, O.cond_dec]
        by_cases c : y ≥ 0
        · rw [if_pos c]
          have ee : decide (0 ≤ y ∧ y < 8) = decide (y ≤ 7) := decide_eq_decide.2 (by omega)
          rw [ee]
          cases decide (y ≤ 7) <;> simp
        · rw [if_neg c]
          have ee : decide (0 ≤ y ∧ y < 8) = false := decide_eq_false (by omega)
          rw [ee]; simp
  have d : ∀ (R : Bool → Int → O Int) (v : Bool), F_aqueductref11_Check.l1 k r R k v 0 = .ok (if v = true ∧ okT r.2.1 = true then 0 else 110) := fun R v => lp R _ 0 k v (Nat.zero_add _) (by omega)
  have dl : ∀ (R : Bool → Int → O Int), F_aqueductref11_Check.l1 k r R k false 0 = .ok 110 := fun R => by rw [d]; simp
  have fin : ∀ (j : Nat) (v : Bool) (n : Int), 128 < n → F_aqueductref11_Check.l0 k r (j + 1) v n = .ok (if v = true ∧ (0 ≤ r.1 ∧ r.1 ≤ 126 ∧ r.1 % 2 = 0 ∧ 4 ≤ r.2.2.1.size ∧ r.2.2.1.size ≤ 52 ∧ 0 ≤ r.2.2.2 ∧ r.2.2.2 ≤ 7 ∧ okT r.2.1 = true) then 0 else 110) := by
    intro j v n hn
    show F_aqueductref11_Check.l0_b k r _ _ _ _ = _
    unfold F_aqueductref11_Check.l0_b
    dsimp only
    rw [O.cond_neg (by omega)]
    apply O.sat_val
    refine O.sat_condb (fun hv => ?_) fun hv => ?_
    · subst hv
      refine O.sat_cond (fun h1 => ?_) fun h1 => by rw [dl]; exact O.sat_ok (by rw [if_neg]; omega)
      refine O.sat_cond (fun h2 => ?_) fun h2 => by rw [dl]; exact O.sat_ok (by rw [if_neg]; omega)
      refine O.sat_cond (fun h3 => ?_) fun h3 => by rw [dl]; exact O.sat_ok (by rw [if_neg]; rw [tmod2'] at h3; omega)
      refine O.sat_cond (fun h4 => ?_) fun h4 => by rw [dl]; exact O.sat_ok (by rw [if_neg]; omega)
      refine O.sat_cond (fun h5 => ?_) fun h5 => by rw [dl]; exact O.sat_ok (by rw [if_neg]; omega)
      refine O.sat_cond (fun h6 => ?_) fun h6 => by rw [dl]; exact O.sat_ok (by rw [if_neg]; omega)
      rw [tmod2'] at h3
      rw [d]
      refine O.sat_ok ?_
      by_cases h7 : r.2.2.2 ≤ 7 ∧ okT r.2.1 = true
      · rw [if_pos ⟨decide_eq_true h7.1, h7.2⟩, if_pos ⟨rfl, by omega, by omega, by omega, by omega, by omega, by omega, h7⟩]
      · rw [if_neg (fun c => h7 ⟨of_decide_eq_true c.1, c.2⟩), if_neg (fun c => h7 c.2.2.2.2.2.2.2)]
    · subst hv; rw [dl]; exact O.sat_ok (by simp)
  have st : ∀ (j : Nat) (v : Bool) (n : Nat), n ≤ 128 → F_aqueductref11_Check.l0 k r (j + 1) v (n : Int) = F_aqueductref11_Check.l0 k r j (v || decide (r.2.1.length = n)) ((n * 2 : Nat) : Int) := by
    intro j v n hn
    show F_aqueductref11_Check.l0_b k r _ _ _ _ = _
    unfold F_aqueductref11_Check.l0_b
    have hw : IntKind.i64.wrap ((n : Int) * 2) = ((n * 2 : Nat) : Int) := by rw [i64_in _ (by omega)]; push_cast; rfl
    have hd : decide ((r.2.1.length : Int) = (n : Int)) = decide (r.2.1.length = n) := decide_eq_decide.2 (by omega)
    dsimp only
    rw [O.cond_pos (by omega), hw, hd]
    cases v <;> simp
  obtain ⟨j, rfl⟩ : ∃ i, k = i + 9 := ⟨k - 9, by omega⟩
  unfold F_aqueductref11_Check.S F_aqueductref11_Check.top
  show F_aqueductref11_Check.l0 _ r (j + 8 + 1) false ((1 : Nat) : Int) = _
  rw [st _ _ 1 (by omega), st _ _ 2 (by omega), st _ _ 4 (by omega), st _ _ 8 (by omega), st _ _ 16 (by omega), st _ _ 32 (by omega), st _ _ 64 (by omega), st _ _ 128 (by omega), fin _ _ _ (by decide)]
  congr 1
  simp only [Bool.or_eq_true, decide_eq_true_eq, Bool.false_or]
  have cg : ∀ {p q : Prop} [Decidable p] [Decidable q], (p ↔ q) → (if p then (0 : Int) else 110) = if q then 0 else 110 := by
    intro p q _ _ h
    by_cases c : p
    · rw [if_pos c, if_pos (h.1 c)]
    · rw [if_neg c, if_neg (fun d => c (h.2 d))]
  apply cg
  unfold validP sizeOk
  generalize okT r.2.1 = z
  cases z <;> simp <;> omega
/-- Is a kind hashed? -/
def hashedP (r : RssT) (kd : Int) : Prop := kd ≠ 0 ∧ r.1 / 2 ^ kd.toNat % 2 = 1
instance (r : RssT) (kd : Int) : Decidable (hashedP r kd) := inferInstanceAs (Decidable (_ ∧ _))
theorem hashedP_nat (r : RssT) (n : Nat) : hashedP r (n : Int) ↔ n ≠ 0 ∧ r.1 / 2 ^ n % 2 = 1 := by
  unfold hashedP; rw [Int.toNat_natCast]
  constructor
  · rintro ⟨a, b⟩; exact ⟨by omega, b⟩
  · rintro ⟨a, b⟩; exact ⟨by omega, b⟩
theorem rhashed_S (k : Nat) (hk : 20 ≤ k) (r : RssT) (hr : 0 ≤ r.1 ∧ r.1 ≤ 126) (kd : Int) (hd : 0 ≤ kd ∧ kd ≤ 6) : F_aqueductref11_hashed.S k r kd = .ok (decide (hashedP r kd)) := by
  obtain ⟨n, rfl⟩ := Int.eq_ofNat_of_zero_le hd.1
  have hn : n ≤ 6 := by omega
  have pw : ∀ i : Nat, i ≤ 6 → (2 : Int) ^ i ≤ 64 ∧ (1 : Int) ≤ 2 ^ i := by decide
  have lp : ∀ (m i j : Nat), i + m = n → m < j → F_aqueductref11_hashed.l0 k r (n : Int) j (2 ^ i) (i : Int) = .ok (decide (hashedP r (n : Int))) := by
    intro m
    induction m with
    | zero =>
      intro i j hi hj
      obtain ⟨j, rfl⟩ : ∃ i, j = i + 1 := ⟨j - 1, by omega⟩
      obtain rfl : i = n := by omega
      show F_aqueductref11_hashed.l0_b k r _ _ _ _ = _
      unfold F_aqueductref11_hashed.l0_b
      have := pw i hn
      have q : 0 ≤ r.1 / 2 ^ i ∧ r.1 / 2 ^ i ≤ 126 := by
        constructor
        · exact Int.ediv_nonneg hr.1 (by omega)
        · exact Int.le_trans (Int.ediv_le_self _ hr.1) hr.2
      rw [O.cond_neg (by omega), O.cond_dec, O.chk_dec (by omega), quo_in _ _ hr.1, i64_in _ (by omega), rem_in _ _ q.1]
      split
      · congr 1; apply decide_eq_decide.2; rw [hashedP_nat]; constructor
        · intro h; exact ⟨by omega, h⟩
        · intro h; exact h.2
      · congr 1; symm; apply decide_eq_false; rw [hashedP_nat]; intro h; exact h.1 (by omega)
    | succ m ih =>
      intro i j hi hj
      obtain ⟨j, rfl⟩ : ∃ i, j = i + 1 := ⟨j - 1, by omega⟩
      show F_aqueductref11_hashed.l0_b k r _ _ _ _ = _
      unfold F_aqueductref11_hashed.l0_b
      have := pw i (by omega)
      rw [O.cond_pos (by omega), i64_in (_ * _) (by omega), i64_in (_ + 1) (by omega), ← Int.pow_succ]
      exact ih (i + 1) j (by omega) (by omega)
  unfold F_aqueductref11_hashed.S F_aqueductref11_hashed.top
  exact lp n 0 k (Nat.zero_add _) (by omega)
/-- Which queue? -/
def queueP (r : RssT) (f : Int × ByteArray) : Int :=
  if hashedP r f.1 then gt 0 r.2.1 ((hN r.2.2.1 f.2 (8 * f.2.size) : Nat) % r.2.1.length : Nat)
  else if hashedP r (lessP f).1 then gt 0 r.2.1 ((hN r.2.2.1 (lessP f).2 (8 * (lessP f).2.size) : Nat) % r.2.1.length : Nat)
  else r.2.2.2
def chooseP (r : RssT) (f : Int × ByteArray) (q : Int) : Int :=
  if ¬ validP r then 0 else if q < 1 then 0 else if q > 8 then 0 else if queueP r f ≥ q then 0 else queueP r f
theorem flowQ_small (p : IpT) (h : p.2.1.size ≤ 16 ∧ p.2.2.1.size ≤ 16) : 0 ≤ (flowQ p).1 ∧ (flowQ p).1 ≤ 6 ∧ (flowQ p).2.size ≤ 36 := by
  have hp : 0 ≤ portP p ∧ portP p ≤ 6 := by unfold portP; repeat' split <;> omega
  unfold flowQ
  split
  · refine ⟨hp.1, hp.2, ?_⟩; show (p.2.1 ++ p.2.2.1 ++ (ibod p).extract 0 4).size ≤ 36; rw [app_size, app_size, ext_size]; omega
  · refine ⟨?_, ?_, ?_⟩
    · show 0 ≤ if p.1 = 4 then (1 : Int) else 4; split <;> omega
    · show (if p.1 = 4 then (1 : Int) else 4) ≤ 6; split <;> omega
    · show (p.2.1 ++ p.2.2.1).size ≤ 36; rw [app_size]; omega
theorem flowP_small (s : ByteArray) : 0 ≤ (flowP s).1 ∧ (flowP s).1 ≤ 6 ∧ (flowP s).2.size ≤ 36 := by
  have z : 0 ≤ no0.1 ∧ no0.1 ≤ 6 ∧ no0.2.size ≤ 36 := by decide
  unfold flowP
  split
  · exact z
  · split
    · exact z
    · split
      · exact z
      · split
        · exact z
        · rename_i h _
          obtain ⟨a, _⟩ := ipP_right _ (Decidable.not_not.1 h)
          exact flowQ_small _ (by omega)
theorem lessP_small (f : Int × ByteArray) (h : 0 ≤ f.1 ∧ f.1 ≤ 6 ∧ f.2.size ≤ 36) : 0 ≤ (lessP f).1 ∧ (lessP f).1 ≤ 6 ∧ (lessP f).2.size ≤ 36 := by
  unfold lessP
  split
  · refine ⟨Int.le_of_lt (by show (0 : Int) < _; omega), by show (_ : Int) ≤ 6; omega, ?_⟩; show (f.2.extract _ _).size ≤ 36; rw [ext_size]; omega
  · split
    · refine ⟨Int.le_of_lt (by show (0 : Int) < _; omega), by show (_ : Int) ≤ 6; omega, ?_⟩; show (f.2.extract _ _).size ≤ 36; rw [ext_size]; omega
    · exact h
theorem hash_S (k : Nat) (key : ByteArray) (f : Int × ByteArray) (hk : 4 ≤ key.size ∧ key.size ≤ 52) (hf : f.2.size ≤ 36) : F_flow_Hash.S k key f = .ok ((hN key f.2 (8 * f.2.size) : Int), 0) := by
  unfold F_flow_Hash.S
  rw [Hash_S k _ _ hk (by omega), O.bind_ok]
/-- A number's last bits, by a table's length. -/
theorem and_size (h n : Nat) (hh : h < 2 ^ 32) (hn : sizeOk n) : bAnd .i64 (IntKind.i64.wrap (h : Int)) (IntKind.i64.wrap ((n : Int) - 1)) = ((h % n : Nat) : Int) := by
  have hb : n ≤ 128 := by unfold sizeOk at hn; omega
  have b : ∀ j : Nat, j ≤ 62 → bAnd .i64 (h : Int) (2 ^ j - 1) = (h : Int) % 2 ^ j := fun j hj => bAnd_low h j (by omega) (by omega) hj
  rw [i64_in (h : Int) (by omega), i64_in ((n : Int) - 1) (by unfold sizeOk at hn; omega), Int.natCast_emod]
  rcases hn with rfl | rfl | rfl | rfl | rfl | rfl | rfl | rfl
  · exact b 0 (by decide)
  · exact b 1 (by decide)
  · exact b 2 (by decide)
  · exact b 3 (by decide)
  · exact b 4 (by decide)
  · exact b 5 (by decide)
  · exact b 6 (by decide)
  · exact b 7 (by decide)
theorem bit_hashed (r : RssT) (kd : Int) (hd : 0 ≤ kd ∧ kd ≤ 6) (h : kd ≠ 0) : bAnd .i64 (shR .i64 r.1 kd) 1 = 0 ↔ ¬ hashedP r kd := by
  obtain ⟨n, rfl⟩ := Int.eq_ofNat_of_zero_le hd.1
  rw [shR_eq .i64 r.1 n (by show n ≤ 64; omega), bAnd_one']
  rw [hashedP_nat]
  generalize r.1 / 2 ^ n = x
  constructor
  · intro c d; omega
  · intro c; apply Decidable.byContradiction; intro d; exact c ⟨by omega, by omega⟩
theorem choose_S (k : Nat) (hk : 2000 ≤ k) (r : RssT) (hr : fitR r) (s : ByteArray) (q : Int) : F_rss_Choose.S k r s q = .ok (chooseP r (flowP s) q) := by
  apply O.sat_val
  unfold F_rss_Choose.S
  refine O.sat_eq (Check_S k (by omega) r hr) ?_
  refine O.sat_cond (fun h => O.sat_ok (by unfold chooseP; rw [if_pos]; intro c; rw [if_pos c] at h; exact h rfl)) fun h1 => ?_
  have v : validP r := by apply Decidable.byContradiction; intro c; rw [if_neg c] at h1; exact h1 (by decide)
  refine O.sat_cond (fun h => O.sat_ok (by unfold chooseP; rw [if_neg (fun c => c v), if_pos h])) fun h2 => ?_
  refine O.sat_cond (fun h => O.sat_ok (by unfold chooseP; rw [if_neg (fun c => c v), if_neg h2, if_pos h])) fun h3 => ?_
  refine O.sat_eq (flowOf_S k hk s) ?_
  obtain ⟨f1, f2, f3⟩ := flowP_small s
  generalize flowP s = f at *
  obtain ⟨g1, g2, g3⟩ := lessP_small f ⟨f1, f2, f3⟩
  have vv := v
  obtain ⟨v1, v2, v3, v4, v5, v6, v7, v8, v9⟩ := vv
  have e : chooseP r f q = if queueP r f ≥ q then 0 else queueP r f := by unfold chooseP; rw [if_neg (fun c => c v), if_neg h2, if_neg h3]
  rw [e]
  have fin : ∀ x : Int, queueP r f = x → O.sat (O.cond (decide (x ≥ q)) (.ok 0) (.ok x)) fun y => y = if queueP r f ≥ q then 0 else queueP r f := by
    intro x hx; subst hx
    exact O.sat_cond (fun h => O.sat_ok (by rw [if_pos h])) fun h => O.sat_ok (by rw [if_neg h])
  have ep : 1 ≤ r.2.1.length := by unfold sizeOk at v4; omega
  have ix : ∀ g : Int × ByteArray, 0 ≤ bAnd .i64 (IntKind.i64.wrap ((hN r.2.2.1 g.2 (8 * g.2.size) : Nat) : Int)) (IntKind.i64.wrap ((r.2.1.length : Int) - 1)) ∧ bAnd .i64 (IntKind.i64.wrap ((hN r.2.2.1 g.2 (8 * g.2.size) : Nat) : Int)) (IntKind.i64.wrap ((r.2.1.length : Int) - 1)) < (r.2.1.length : Int) := by
    intro g
    rw [and_size _ _ (hN_lt _ _ _) v4]
    have := Nat.mod_lt (hN r.2.2.1 g.2 (8 * g.2.size)) ep
    omega
  have dflt : ¬ hashedP r f.1 → ¬ hashedP r (lessP f).1 → queueP r f = r.2.2.2 := fun a b => by unfold queueP; rw [if_neg a, if_neg b]
  have second : ¬ hashedP r f.1 → ∀ x y : O Int, O.sat (O.bind (F_flow_Less.S k f) fun r5 =>
       O.cond (decide (r5.1 = (0 : Int))) (
        O.cond true (
         O.cond (decide (r.2.2.2 ≥ q)) (
          .ok (0 : Int)) (
          .ok r.2.2.2)) x) (
        O.chk (decide (0 ≤ r5.1)) (
         O.cond (decide ((bAnd .i64 (shR .i64 r.1 r5.1) (1 : Int)) = (0 : Int))) (
          O.cond true (
           O.cond (decide (r.2.2.2 ≥ q)) (
            .ok (0 : Int)) (
            .ok r.2.2.2)) x) (
          O.bind (F_flow_Hash.S k r.2.2.1 r5) fun r7 =>
          O.chk (decide (0 ≤ (bAnd .i64 (IntKind.i64.wrap r7.1) (IntKind.i64.wrap ((List.length r.2.1 : Int) - (1 : Int)))) ∧ (bAnd .i64 (IntKind.i64.wrap r7.1) (IntKind.i64.wrap ((List.length r.2.1 : Int) - (1 : Int)))) < (List.length r.2.1 : Int) ∧ (List.length r.2.1 : Int) ≤ (List.length r.2.1 : Int))) (
           O.chk (decide (0 ≤ (bAnd .i64 (IntKind.i64.wrap r7.1) (IntKind.i64.wrap ((List.length r.2.1 : Int) - (1 : Int)))) ∧ (bAnd .i64 (IntKind.i64.wrap r7.1) (IntKind.i64.wrap ((List.length r.2.1 : Int) - (1 : Int)))) < (List.length r.2.1 : Int))) (
            O.cond false y (
             O.cond (decide ((gt (0 : Int) r.2.1 (bAnd .i64 (IntKind.i64.wrap r7.1) (IntKind.i64.wrap ((List.length r.2.1 : Int) - (1 : Int))))) ≥ q)) (
              .ok (0 : Int)) (
              .ok (gt (0 : Int) r.2.1 (bAnd .i64 (IntKind.i64.wrap r7.1) (IntKind.i64.wrap ((List.length r.2.1 : Int) - (1 : Int))))))))))))) fun y => y = if queueP r f ≥ q then 0 else queueP r f := by
    intro nh x y
    refine O.sat_eq (less_S k f) ?_
    refine O.sat_cond (fun h4 => O.sat_yes (fin _ (dflt nh (fun c => c.1 h4)))) fun h4 => ?_
    refine O.sat_chk g1 ?_
    refine O.sat_cond (fun h5 => O.sat_yes (fin _ (dflt nh ((bit_hashed r _ ⟨g1, g2⟩ h4).1 h5)))) fun h5 => ?_
    have hh : hashedP r (lessP f).1 := Decidable.not_not.1 fun c => h5 ((bit_hashed r _ ⟨g1, g2⟩ h4).2 c)
    refine O.sat_eq (hash_S k _ _ ⟨v5, v6⟩ g3) ?_
    have i := ix (lessP f)
    refine O.sat_chk ⟨i.1, i.2, by omega⟩ (O.sat_chk i (O.sat_not (fin _ ?_)))
    rw [and_size _ _ (hN_lt _ _ _) v4]
    unfold queueP; rw [if_neg nh, if_pos hh]
  refine O.sat_cond (fun h4 => O.sat_yes (second (fun c => c.1 h4) _ _)) fun h4 => ?_
  refine O.sat_chk f1 ?_
  refine O.sat_cond (fun h5 => O.sat_yes (second ((bit_hashed r _ ⟨f1, f2⟩ h4).1 h5) _ _)) fun h5 => ?_
  have hh : hashedP r f.1 := Decidable.not_not.1 fun c => h5 ((bit_hashed r _ ⟨f1, f2⟩ h4).2 c)
  refine O.sat_eq (hash_S k _ _ ⟨v5, v6⟩ f3) ?_
  have i := ix f
  refine O.sat_chk ⟨i.1, i.2, by omega⟩ (O.sat_chk i (O.sat_not (O.sat_not (fin _ ?_))))
  rw [and_size _ _ (hN_lt _ _ _) v4]
  unfold queueP; rw [if_pos hh]
theorem rchoose_S (k : Nat) (hk : 2000 ≤ k) (r : RssT) (hr : fitR r) (hl : r.2.1.length ≤ 300) (hx : r.2.2.1.size ≤ 140737488351232) (s : ByteArray) (q : Int) : F_aqueductref11_Choose.S k r s q = .ok (chooseP r (flowP s) q) := by
  apply O.sat_val
  unfold F_aqueductref11_Choose.S
  refine O.sat_eq (rCheck_S k hk r hl hx) ?_
  refine O.sat_cond (fun h => O.sat_ok (by unfold chooseP; rw [if_pos]; intro c; rw [if_pos c] at h; exact h rfl)) fun h1 => ?_
  have v : validP r := by apply Decidable.byContradiction; intro c; rw [if_neg c] at h1; exact h1 (by decide)
  refine O.sat_cond (fun h => O.sat_ok (by unfold chooseP; rw [if_neg (fun c => c v), if_pos h])) fun h2 => ?_
  refine O.sat_cond (fun h => O.sat_ok (by unfold chooseP; rw [if_neg (fun c => c v), if_neg h2, if_pos h])) fun h3 => ?_
  refine O.sat_eq (rflowOf_S k hk s) ?_
  obtain ⟨f1, f2, f3⟩ := flowP_small s
  generalize flowP s = f at *
  obtain ⟨g1, g2, g3⟩ := lessP_small f ⟨f1, f2, f3⟩
  have vv := v
  obtain ⟨v1, v2, v3, v4, v5, v6, v7, v8, v9⟩ := vv
  have e : chooseP r f q = if queueP r f ≥ q then 0 else queueP r f := by unfold chooseP; rw [if_neg (fun c => c v), if_neg h2, if_neg h3]
  rw [e]
  have fin : ∀ x : Int, queueP r f = x → O.sat (O.cond (decide (x ≥ q)) (.ok 0) (.ok x)) fun y => y = if queueP r f ≥ q then 0 else queueP r f := by
    intro x hx; subst hx
    exact O.sat_cond (fun h => O.sat_ok (by rw [if_pos h])) fun h => O.sat_ok (by rw [if_neg h])
  have ep : 1 ≤ r.2.1.length := by unfold sizeOk at v4; omega
  have ix : ∀ g : Int × ByteArray, Int.tmod (IntKind.i64.wrap ((hN r.2.2.1 g.2 (8 * g.2.size) : Nat) : Int)) (r.2.1.length : Int) = ((hN r.2.2.1 g.2 (8 * g.2.size) % r.2.1.length : Nat) : Int) ∧ hN r.2.2.1 g.2 (8 * g.2.size) % r.2.1.length < r.2.1.length := by
    intro g
    have := hN_lt r.2.2.1 g.2 (8 * g.2.size)
    rw [i64_in _ (by omega)]
    exact ⟨Int.ofNat_tmod _ _, Nat.mod_lt _ ep⟩
  refine O.sat_eq (rhashed_S k (by omega) r ⟨v1, v2⟩ f.1 ⟨f1, f2⟩) ?_
  refine O.sat_condn (fun h4 => ?_) fun h4 => ?_
  · refine O.sat_eq (rless_S k f) ?_
    refine O.sat_eq (rhashed_S k (by omega) r ⟨v1, v2⟩ _ ⟨g1, g2⟩) ?_
    refine O.sat_cond (fun h5 => ?_) fun h5 => fin _ (by unfold queueP; rw [if_neg h4, if_neg h5])
    refine O.sat_eq (rHash_S k _ _ ⟨v5, v6⟩ (by omega) (by omega)) ?_
    obtain ⟨i1, i2⟩ := ix (lessP f)
    rw [i1]
    refine O.sat_chk (by omega) (O.sat_chk (by omega) (O.sat_chk (by omega) (fin _ ?_)))
    unfold queueP; rw [if_neg h4, if_pos h5]
  · refine O.sat_eq (rhashed_S k (by omega) r ⟨v1, v2⟩ f.1 ⟨f1, f2⟩) ?_
    refine O.sat_cond (fun h5 => ?_) fun h5 => (h5 h4).elim
    refine O.sat_eq (rHash_S k _ _ ⟨v5, v6⟩ (by omega) (by omega)) ?_
    obtain ⟨i1, i2⟩ := ix f
    rw [i1]
    refine O.sat_chk (by omega) (O.sat_chk (by omega) (O.sat_chk (by omega) (fin _ ?_)))
    unfold queueP; rw [if_pos h4]
end Go.Proofs.Ytjkddjnnkoghgaa
