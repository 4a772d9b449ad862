/- Layer 14: Tell and Ask. -/
import Derived.Test.YtjdhepioehfmhaaEP14j
namespace Go.Proofs.Ytjdhepioehfmhaa
open Go.Aq Go.IntWalk
set_option linter.unusedVariables false
/-! ### Events -/
def eventP (s : ByteArray) : Int × Bool × Int := (bl s 2 2 % 32768, decide (bl s 2 2 ≥ 32768), bl s 4 2)
theorem bl2 (s : ByteArray) (e : Nat) : bl s (e + 2) 2 = bt s ((e + 1 : Nat) : Int) * 256 + bt s ((e : Nat) : Int) := by
  show (0 * 256 + bt s ((e + 2 - 1 - 0 : Nat) : Int)) * 256 + bt s ((e + 2 - 1 - 1 : Nat) : Int) = _
  rw [show e + 2 - 1 - 0 = e + 1 by omega, show e + 2 - 1 - 1 = e by omega]; omega
theorem bl2_in (s : ByteArray) (e : Nat) : 0 ≤ bl s e 2 ∧ bl s e 2 ≤ 65535 := by
  have := bl_lo s e 2
  rw [show (256 : Int) ^ 2 = 65536 from rfl] at this; omega
theorem bAndNot_top (v : Int) (h : 0 ≤ v ∧ v ≤ 65535) : bAndNot .i64 v 32768 = v % 32768 := by
  obtain ⟨n, rfl⟩ : ∃ n : Nat, v = n := ⟨v.toNat, by omega⟩
  have e : (BitVec.ofInt 64 (n : Int) &&& ~~~(BitVec.ofInt 64 32768)).toNat = n % 32768 := by
    have e1 : BitVec.ofInt 64 (n : Int) = BitVec.ofNat 64 n := by
      apply BitVec.eq_of_toNat_eq
      have := natOf_ofInt .i64 n (by show n < 2 ^ 64; omega)
      rw [BitVec.toNat_ofNat, Nat.mod_eq_of_lt (by omega)]; exact this
    have e2 : BitVec.ofInt 64 32768 = BitVec.twoPow 64 15 := by decide
    rw [e1, e2]
    apply Nat.eq_of_testBit_eq
    intro i
    rw [show (32768 : Nat) = 2 ^ 15 from rfl, Nat.testBit_mod_two_pow]
    show (BitVec.ofNat 64 n &&& ~~~(BitVec.twoPow 64 15)).getLsbD i = _
    rw [BitVec.getLsbD_and, BitVec.getLsbD_not, BitVec.getLsbD_ofNat, BitVec.getLsbD_twoPow]
    by_cases h1 : i < 15
    · have h2 : i < 64 := by omega
      have h3 : ¬ 15 = i := by omega
      simp [h1, h2, h3]
    · by_cases h2 : i = 15
      · subst h2; simp
      · have : n.testBit i = false := Nat.testBit_lt_two_pow (Nat.lt_of_lt_of_le (by omega : n < 2 ^ 16) (Nat.pow_le_pow_right (by decide) (by omega)))
        simp [this]
  show IntKind.i64.wrap (((BitVec.ofInt 64 (n : Int) &&& ~~~(BitVec.ofInt 64 32768)).toNat : Nat) : Int) = _
  rw [e, i64_in _ (by omega)]; omega
theorem bAnd_top (v : Int) (h : 0 ≤ v ∧ v ≤ 65535) : decide (bAnd .u64 v 32768 ≠ 0) = decide (v ≥ 32768) := by
  obtain ⟨n, rfl⟩ : ∃ n : Nat, v = n := ⟨v.toNat, by omega⟩
  have e := bAnd_nat .u64 n 32768 (by show n < 2 ^ 64; omega) (by decide)
  rw [show ((32768 : Nat) : Int) = 32768 from rfl] at e
  have e2 : n &&& 32768 = n / 32768 % 2 * 32768 := and_bit n 15
  rw [e, e2, u64_in _ (by omega)]
  apply decide_eq_decide.2
  constructor
  · intro _; omega
  · intro _; omega
theorem spotParse_S (k : Nat) (hk : 9 ≤ k) (s : ByteArray) (h : s.size = 4) : F_spot_Parse.S k s = .ok (eventP s, 0) := by
  unfold F_spot_Parse.S
  have g1 : F_words_Get.S k s (0 : Int) (2 : Int) false = _ := GetL_S k hk s (by omega) 0 2 (by omega) (by omega)
  have g2 : F_words_Get.S k s (2 : Int) (2 : Int) false = _ := GetL_S k hk s (by omega) 2 2 (by omega) (by omega)
  rw [if_pos (by omega)] at g1 g2
  have b1 := bl2_in s 2; have b2 := bl2_in s 4
  rw [O.cond_neg (by omega), g1, O.bind_ok, g2, O.bind_ok]
  show O.ok ((bAndNot .i64 (IntKind.i64.wrap (bl s 2 2)) 32768, decide (bAnd .u64 (bl s 2 2) 32768 ≠ 0), IntKind.i64.wrap (bl s 4 2)), (0 : Int)) = _
  rw [i64_in (bl s 2 2) (by omega), i64_in (bl s 4 2) (by omega), bAndNot_top _ b1, bAnd_top _ b1]; rfl
theorem rEvParse_S (k : Nat) (s : ByteArray) (h : s.size = 4) : F_aqueductref13_Parse.S k s = .ok (eventP s, 0) := by
  unfold F_aqueductref13_Parse.S
  have b1 := bl2_in s 2; have b2 := bl2_in s 4
  have e1 := bl2 s 0; have e2 := bl2 s 2
  have h0 := bt_lo s 0; have h0' := bt_hi s 0
  have h1 := bt_lo s 1; have h1' := bt_hi s 1
  have h2 := bt_lo s 2; have h2' := bt_hi s 2
  have h3 := bt_lo s 3; have h3' := bt_hi s 3
  change bl s 2 2 = bt s 1 * 256 + bt s 0 at e1
  change bl s 4 2 = bt s 3 * 256 + bt s 2 at e2
  rw [O.cond_neg (by omega), O.chk_dec (by omega), O.chk_dec (by omega), O.chk_dec (by omega), O.chk_dec (by omega)]
  rw [i64_in (bt s 0) (by omega), i64_in (bt s 1) (by omega), i64_in (bt s 2) (by omega), i64_in (bt s 3) (by omega), i64_in (256 * bt s 1) (by omega), i64_in (256 * bt s 3) (by omega), i64_in (bt s 0 + _) (by omega), i64_in (bt s 2 + _) (by omega), rem_in _ _ (by omega)]
  unfold eventP
  rw [show bt s 0 + 256 * bt s 1 = bl s 2 2 by omega, show bt s 2 + 256 * bt s 3 = bl s 4 2 by omega]
/-! ### Tell -/
def tellP (q : TQ) (b : List Int) : Bool :=
  if q.2.2.2.2.1 > q.1.2.1 then decide ((eventP (strOf (sub b q.1.2.2.1 4))).2.2 = 0 ∨ (eventP (strOf (sub b q.1.2.2.1 4))).2.2 = 2) else needP (eventP (strOf (sub b q.1.2.2.1 4))) q.2.2.2.1 q.2.2.1 q.1.2.1
def toldQ (q : TQ) : TQ := (q.1, q.2.1, q.2.2.1, q.2.2.1, 0, q.2.2.2.2.2.1, q.2.2.2.2.2.2)
theorem event_in (s : ByteArray) : 0 ≤ (eventP s).1 ∧ 0 ≤ (eventP s).2.2 := by
  have b1 := bl2_in s 2; have b2 := bl2_in s 4
  unfold eventP; simp only; omega
theorem Tell_S (k : Nat) (hk : 9 ≤ k) (q : TQ) (g : TM) (hg : okM g) (hq : OkQ q g.1.length) (hb : q.2.2.2.2.2.2 = false) :
    O.sat (F_devq_Queue_Tell.S k q g) fun r => r.1 = tellP q g.1 ∧ r.2.1 = toldQ q ∧ sameM g r.2.2 := by
  have ol := hq.l.lo; have oh := hq.l.hi; have od := hq.l.drv; have l1 := hg.1
  have he := event_in (strOf (sub g.1 q.1.2.2.1 4))
  have rd : F_gmem_Memory_Read.S k q.1.2.2.1 4 g = .ok ((strOf (sub g.1 q.1.2.2.1 4), 0), rdM g q.1.2.2.1 4) := by
    rw [Read_S k _ _ _ hg, if_neg (by omega), if_pos (mayM_iff.2 (by omega))]
  have hm := sameM_rd q.1.2.2.1 4 hg
  unfold F_devq_Queue_Tell.S
  rw [hb, O.cond_false, rd, O.bind_ok, spotParse_S k hk _ (by rw [size_strOf, sub_len _ _ _ (by omega)]; rfl), O.bind_ok, spotNeed_S k (by omega) _ _ _ _ ⟨ol, oh⟩ hq.told hq.back he.1, O.bind_ok]
  unfold tellP toldQ
  rw [hb]
  by_cases c : q.2.2.2.2.1 > q.1.2.1
  · rw [O.cond_pos c, if_pos c]
    by_cases c2 : (eventP (strOf (sub g.1 q.1.2.2.1 4))).2.2 ≠ 1
    · rw [O.cond_pos c2]
      refine O.sat_ok ⟨?_, rfl, hm⟩
      show decide ((eventP (strOf (sub g.1 q.1.2.2.1 4))).2.2 ≤ 2) = _
      apply decide_eq_decide.2
      constructor
      · intro _; omega
      · intro _; omega
    · rw [O.cond_neg c2]
      refine O.sat_ok ⟨(decide_eq_false ?_).symm, rfl, hm⟩
      omega
  · rw [O.cond_neg c, if_neg c]
    exact O.sat_ok ⟨rfl, rfl, hm⟩
theorem rTell_S (k : Nat) (q : TQ) (b : List Int) (h : TR) (hh : h.1 = strOf b) (hl : OkL q.1 b.length) (bh : b.length ≤ 2048) (ht : 0 ≤ q.2.2.2.1.1 ∧ q.2.2.2.1.1 < q.1.2.1) (hbk : 0 ≤ q.2.2.1.1 ∧ q.2.2.1.1 < q.1.2.1) (hb : q.2.2.2.2.2.2 = false) (hk : 300 ≤ k) :
    F_aqueductref14_Queue_Tell.S k q h = .ok (tellP q b, (toldQ q, h)) := by
  have hz : (h.1.size : Int) = b.length := by rw [hh, size_strOf]
  have ol := hl.lo; have oh := hl.hi; have od := hl.drv; have or := hl.ring
  have he := event_in (strOf (sub b q.1.2.2.1 4))
  unfold F_aqueductref14_Queue_Tell.S F_aqueductref14_Queue_Tell.top
  have ex := ext_sub b q.1.2.2.1 4 od.1
  rw [show ((4 : Nat) : Int) = 4 from rfl] at ex
  rw [hb, O.cond_false, i64_in (q.1.2.2.1 + 4) (by omega), O.chk_dec (by omega), O.twice_eq, hh, ex, rEvParse_S k _ (by rw [size_strOf, sub_len _ _ _ (by omega)]; rfl), O.bind_ok]
  have fin : ∀ v7 : Bool, v7 = decide ((eventP (strOf (sub b q.1.2.2.1 4))).2.2 = 0 ∨ (eventP (strOf (sub b q.1.2.2.1 4))).2.2 = 2) → F_aqueductref14_Queue_Tell.j3 k q h (eventP (strOf (sub b q.1.2.2.1 4))).1 (eventP (strOf (sub b q.1.2.2.1 4))).2.1 (eventP (strOf (sub b q.1.2.2.1 4))).2.2 v7 = .ok (tellP q b, (toldQ q, h)) := by
    intro v7 hv
    unfold F_aqueductref14_Queue_Tell.j3 F_aqueductref14_Queue_Tell.j3_b tellP toldQ
    by_cases c : q.2.2.2.2.1 ≤ q.1.2.1
    · rw [O.cond_pos c, if_neg (by omega)]
      show O.bind (F_aqueductref13_Need.S k (eventP (strOf (sub b q.1.2.2.1 4))) q.2.2.2.1 q.2.2.1 q.1.2.1) _ = _
      rw [rNeed_S k _ _ _ _ ⟨ol, oh⟩ ht hbk he.1 (by omega), O.bind_ok]
    · rw [O.cond_neg c, if_pos (by omega), hv]
  show F_aqueductref14_Queue_Tell.j2 k q h (eventP (strOf (sub b q.1.2.2.1 4))).1 (eventP (strOf (sub b q.1.2.2.1 4))).2.1 (eventP (strOf (sub b q.1.2.2.1 4))).2.2 = _
  unfold F_aqueductref14_Queue_Tell.j2 F_aqueductref14_Queue_Tell.j2_b
  by_cases c : (eventP (strOf (sub b q.1.2.2.1 4))).2.2 = 0
  · rw [O.cond_pos c]; exact fin true (by rw [decide_eq_true (Or.inl c)])
  · rw [O.cond_neg c]
    refine fin _ (decide_eq_decide.2 ?_)
    exact ⟨Or.inr, fun x => x.resolve_left c⟩
/-! ### Ask -/
def evB (e : Int × Bool × Int) : ByteArray := putL (e.1 + (bif e.2.1 then 32768 else 0)) 2 ++ putL e.2.2 2
def askP (e : Int × Bool × Int) : ByteArray × Int := if 0 ≤ e.1 ∧ e.1 ≤ 32767 ∧ 0 ≤ e.2.2 ∧ e.2.2 ≤ 65535 then (evB e, 0) else (⟨#[]⟩, 1)
theorem bOr_top (v : Int) (h : 0 ≤ v ∧ v ≤ 32767) : bOr .i64 v 32768 = v + 32768 := by
  have e := bOr_join .i64 1 v 15 (by decide) h.1 (by show v < 32768; omega) (by decide) (by decide)
  rw [show (1 : Int) * 2 ^ 15 = 32768 from rfl] at e
  have c : bOr .i64 v 32768 = bOr .i64 32768 v := by unfold bOr; rw [BitVec.or_comm]
  rw [c, e, i64_in _ (by omega)]; omega
theorem spotBuild_S (k : Nat) (hk : 9 ≤ k) (e : Int × Bool × Int) (hf : e.2.2 ≤ 9223372036854775807) : F_spot_Build.S k e = .ok (askP e) := by
  have pt : ∀ v : Int, 0 ≤ v ∧ v < 18446744073709551616 → F_words_Put.S k v (2 : Int) false = .ok (if v < 65536 then (putL v 2, 0) else (⟨#[]⟩, 1)) := by
    intro v hv
    have := PutL_S k hk v 2 hv (by omega)
    rw [show (256 : Int) ^ 2 = 65536 from rfl] at this
    exact this
  unfold F_spot_Build.S askP
  by_cases h1 : e.1 < 0
  · rw [O.cond_pos h1, if_neg (by omega)]
  rw [O.cond_neg h1]
  by_cases h2 : e.1 ≥ 32768
  · rw [O.cond_pos h2, if_neg (by omega)]
  rw [O.cond_neg h2]
  by_cases h3 : e.2.2 < 0
  · rw [O.cond_pos h3, if_neg (by omega)]
  rw [O.cond_neg h3]
  unfold evB
  cases hw : e.2.1 with
  | true =>
    rw [O.cond_true, bOr_top _ (by omega), u64_in (e.1 + 32768) (by omega), pt _ (by omega), if_pos (by omega), O.bind_ok, u64_in e.2.2 (by omega), pt _ (by omega), O.bind_ok]
    by_cases h4 : e.2.2 ≤ 65535
    · rw [if_pos (by omega), if_pos (by omega), O.cond_neg (by simp), O.chk_dec (by simp only [putL_size]; omega)]; rfl
    · rw [if_neg (by omega), if_neg (by omega), O.cond_pos (by simp)]
  | false =>
    rw [O.cond_false, u64_in e.1 (by omega), pt _ (by omega), if_pos (by omega), O.bind_ok, u64_in e.2.2 (by omega), pt _ (by omega), O.bind_ok]
    by_cases h4 : e.2.2 ≤ 65535
    · rw [if_pos (by omega), if_pos (by omega), O.cond_neg (by simp), O.chk_dec (by simp only [putL_size]; omega)]
      show O.ok (putL e.1 2 ++ putL e.2.2 2, (0 : Int)) = .ok (putL (e.1 + 0) 2 ++ putL e.2.2 2, 0)
      rw [Int.add_zero]
    · rw [if_neg (by omega), if_neg (by omega), O.cond_pos (by simp)]
theorem put2L (v : Int) (h : 0 ≤ v ∧ v ≤ 65535) : putL v 2 = strOf [IntKind.u8.wrap (Int.tmod v 256), IntKind.u8.wrap (IntKind.i64.wrap (Int.tdiv v 256))] := by
  rw [putL_wl v h.1 2, rem_in _ _ h.1, quo_in _ _ h.1, i64_in (v / 256) (by omega), u8_in (v % 256) (by omega), u8_in (v / 256) (by omega)]
  show strOf [v % 256, v / 256 % 256] = _
  rw [show v / 256 % 256 = v / 256 by omega]
theorem evB_eq (v f : Int) (h : 0 ≤ v ∧ v ≤ 65535) (hf : 0 ≤ f ∧ f ≤ 65535) : strOf [IntKind.u8.wrap (Int.tmod v 256), IntKind.u8.wrap (IntKind.i64.wrap (Int.tdiv v 256)), IntKind.u8.wrap (Int.tmod f 256), IntKind.u8.wrap (IntKind.i64.wrap (Int.tdiv f 256))] = putL v 2 ++ putL f 2 := by
  rw [put2L v h, put2L f hf, ← strOf_app]; rfl
theorem rEvBuild_S (k : Nat) (e : Int × Bool × Int) : F_aqueductref13_Build.S k e = .ok (askP e) := by
  unfold F_aqueductref13_Build.S askP
  by_cases h1 : e.1 < 0
  · rw [O.cond_pos h1, if_neg (by omega)]
  rw [O.cond_neg h1]
  by_cases h2 : e.1 > 32767
  · rw [O.cond_pos h2, if_neg (by omega)]
  rw [O.cond_neg h2]
  by_cases h3 : e.2.2 < 0
  · rw [O.cond_pos h3, if_neg (by omega)]
  rw [O.cond_neg h3]
  by_cases h4 : e.2.2 > 65535
  · rw [O.cond_pos h4, if_neg (by omega)]
  rw [O.cond_neg h4, if_pos (by omega)]
  unfold evB
  cases hw : e.2.1 with
  | true => rw [O.cond_true, i64_in (e.1 + 32768) (by omega), evB_eq _ _ (by omega) (by omega)]; rfl
  | false =>
    rw [O.cond_false, evB_eq _ _ (by omega) (by omega)]
    show O.ok (putL e.1 2 ++ putL e.2.2 2, (0 : Int)) = .ok (putL (e.1 + 0) 2 ++ putL e.2.2 2, 0)
    rw [Int.add_zero]
theorem evB_size (e : Int × Bool × Int) : (evB e).size = 4 := by unfold evB; rw [app_size, putL_size, putL_size]
theorem rAsk_S (k : Nat) (e : Int × Bool × Int) (q : TQ) (b : List Int) (h : TR) (hh : h.1 = strOf b) (hl : OkL q.1 b.length) (bh : b.length ≤ 2048) (hb : q.2.2.2.2.2.2 = false) (hg : h.2.2.length ≤ 4000) :
    O.sat (F_aqueductref14_Queue_Ask.S k e q h) fun r => r.1 = (askP e).2 ∧ r.2.1 = q ∧ r.2.2.1 = strOf (if (askP e).2 = 0 then putAt b q.1.2.2.2 (bytesOf (evB e)) else b) ∧ r.2.2.2.2.length ≤ h.2.2.length + 1 := by
  have hz : (h.1.size : Int) = b.length := by rw [hh, size_strOf]
  have od := hl.dev
  unfold F_aqueductref14_Queue_Ask.S
  rw [hb, O.cond_false, rEvBuild_S, O.bind_ok]
  by_cases c : 0 ≤ e.1 ∧ e.1 ≤ 32767 ∧ 0 ≤ e.2.2 ∧ e.2.2 ≤ 65535
  · have ea : askP e = (evB e, 0) := by unfold askP; rw [if_pos c]
    have hsz := evB_size e
    rw [ea, O.cond_neg (by simp)]
    show O.sat (O.bind (F_aqueductref04_Memory_May.S k q.1.2.2.2 ((evB e).size : Int) h) _) _
    rw [rMay_S k _ _ _ (by omega), O.bind_ok, mayM_iff.2 (by rw [hsz]; omega), Bool.not_true, O.cond_false]
    refine O.sat_bind (note_sat k _ _ _ h hg) ?_
    rintro r9 ⟨n1, n2⟩
    have sz : (r9.1.size : Int) = b.length := by rw [n1, hz]
    rw [i64_in (q.1.2.2.2 + _) (by rw [hsz]; omega), O.chk_dec (by omega), O.chk_dec (by rw [ext_size, hsz]; omega), O.chk_dec (by rw [hsz]; omega), O.chk_dec (by rw [app_size, ext_size, ext_size, hsz]; omega)]
    refine O.sat_ok ⟨rfl, rfl, ?_, n2⟩
    show (((r9.1.extract 0 _) ++ _) ++ r9.1.extract _ r9.1.size) = _
    rw [n1, hh]
    exact strOf_put b _ _ (by rw [hsz]; omega)
  · have ea : askP e = (⟨#[]⟩, 1) := by unfold askP; rw [if_neg c]
    rw [ea, O.cond_pos (by simp)]
    exact O.sat_ok ⟨rfl, rfl, hh, by show h.2.2.length ≤ _; omega⟩
theorem rAsk_br (k : Nat) (e : Int × Bool × Int) (q : TQ) (h : TR) (hb : q.2.2.2.2.2.2 = true) : F_aqueductref14_Queue_Ask.S k e q h = .ok (141, (q, h)) := by
  unfold F_aqueductref14_Queue_Ask.S
  rw [hb, O.cond_true]
end Go.Proofs.Ytjdhepioehfmhaa
