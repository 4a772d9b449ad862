/- Layer 15, plain: both Reaps, both Tells, Ask, what is written to both. -/
import Derived.Test.YtpfddjdkafjjfaaGreatDP15m
namespace Go.Proofs.YtpfddjdkafjjfaaGreat
open Go.Aq Go.IntWalk
set_option linter.unusedVariables false
def usP (f : Int) (w : Bool) : Bool := (decide (bAnd .i64 f 128 ≠ 0) == decide (bAnd .i64 f 32768 ≠ 0)) && (decide (bAnd .i64 f 128 ≠ 0) == w)
theorem Used_is (k : Nat) (f : Int) (w : Bool) : F_desc_Used.S k f w = .ok (usP f w) := by
  unfold F_desc_Used.S F_desc_says.S usP
  generalize decide (bAnd .i64 f 128 ≠ 0) = a
  generalize decide (bAnd .i64 f 32768 ≠ 0) = u
  cases a <;> cases u <;> cases w <;> simp [O.cond_eq, O.bind_ok]
theorem rUsed_is (k : Nat) (f : Int) (h : 0 ≤ f ∧ f ≤ 65535) (w : Bool) : F_aqueductref12_Used.S k f w = .ok (usP f w) := by
  unfold F_aqueductref12_Used.S usP
  have e1 := bit_and f 7 (by omega) h
  have e2 := bit_and f 15 (by omega) h
  rw [show (2 : Int) ^ 7 = 128 from rfl] at e1
  rw [show (2 : Int) ^ 15 = 32768 from rfl] at e2
  rw [quo_in _ _ h.1, quo_in _ _ h.1, i64_in (f / 128) (by omega), i64_in (f / 32768) (by omega), rem_in _ _ (by omega), rem_in _ _ (by omega), e1, e2]
  generalize decide (f / 128 % 2 = 1) = a
  generalize decide (f / 32768 % 2 = 1) = u
  cases a <;> cases u <;> cases w <;> simp [O.cond_eq]
/-- Both Reaps. -/
theorem Reap_both (k : Nat) (hk : 40000 ≤ k) {L : LAY} {len : Nat} (hlen : len ≤ 2048) (hL : LayIn L len) {q : TV} {g : TM} {x : TX} {h : TR} (r : RX L len q g x h) :
    ∃ a b, F_drvq_Queue_Reap.S k q g = .ok a ∧ F_aqueductref15_Queue_Reap.S k x h = .ok b ∧ a.1 = b.1 ∧ RX L len a.2.1 a.2.2 b.2.1 b.2.2 ∧ b.2.1.2.2.2.2.1 = x.2.2.2.2.1 ∧ b.2.2 = h ∧ sm q.2.2.2.2.2.2 ≤ sm a.2.1.2.2.2.2.2.2 + 64 := by
  have hlay := r.ri.lay; have hbk := r.ri.bk; have s1 := hL.sz; have s2 := hL.r; have hgl := r.ri.len; have hokg := r.ri.okg
  have hhs : (h.1.size : Int) = len := by rw [r.mem, size_strOf, hgl]
  obtain ⟨a, ha⟩ : ∃ a, a = L.1 + 16 * q.2.2.1.1 := ⟨_, rfl⟩
  have hin : 0 ≤ a ∧ a + 16 ≤ (g.1.length : Int) := by rw [hgl]; omega
  have ea : IntKind.i64.wrap (q.1.1 + (IntKind.i64.wrap ((16 : Int) * q.2.2.1.1))) = a := by
    rw [hlay, i64_in ((16 : Int) * q.2.2.1.1) (by omega), i64_in _ (by omega), ha]
  have ex : IntKind.i64.wrap (x.1.1 + (IntKind.i64.wrap ((16 : Int) * x.2.2.1.1))) = a := by
    rw [r.xl, r.xb, ← hlay]; exact ea
  have es : (Go.Aq.strOf (sub g.1 a 16)).size = 16 := by rw [size_strOf, sub_len _ _ _ (by omega)]; rfl
  have hro := rdM_ok g a 16 hokg
  have hd := rdD_rng g.1 a
  have rd : F_drvq_Queue_Reap.S k q g = O.bind (F_desc_Used.S k (rdD g.1 a).2.2.2 q.2.2.1.2) (fun r6 =>
      O.cond (!r6) (.ok (((0 : Int), (0 : Int), false, (0 : Int)), (q, rdM g a 16))) (
      O.cond (!(mhas q.2.2.2.2.2.2 (rdD g.1 a).2.2.1)) (.ok (((0 : Int), (0 : Int), false, (150 : Int)), (q, rdM g a 16))) (
      O.bind (F_spot_Next.S k q.2.2.1 (mget (0 : Int) q.2.2.2.2.2.2 (rdD g.1 a).2.2.1) q.1.2.1) fun r7 =>
      .ok (((rdD g.1 a).2.2.1, (IntKind.i64.wrap (rdD g.1 a).2.1), true, (0 : Int)), ((q.1, q.2.1, r7.1, q.2.2.2.1, q.2.2.2.2.1, (IntKind.i64.wrap (q.2.2.2.2.2.1 + (mget (0 : Int) q.2.2.2.2.2.2 (rdD g.1 a).2.2.1))), (mdel q.2.2.2.2.2.2 (rdD g.1 a).2.2.1)), rdM g a 16))))) := by
    unfold F_drvq_Queue_Reap.S
    rw [ea, Read_S k _ 16 g hokg, if_neg (by omega), if_pos (mayM_iff.2 (by omega)), O.bind_ok]
    dsimp only
    rw [Parse_S k (by omega) _ es, O.bind_ok]
    rfl
  have hex := rAt_S k (by omega) a g.1 hin
  have hRI : RI L len q (rdM g a 16) := ⟨r.ri.lay, r.ri.nx, r.ri.bk, r.ri.fr, r.ri.sum, r.ri.vals, r.ri.keys, r.ri.kin, hro.1, by rw [hro.2]; exact hgl⟩
  have hRX : RX L len q (rdM g a 16) x h := ⟨hRI, r.le64, r.klt, r.xl, r.xn, r.xb, r.xt, r.tin, r.since, r.sin, r.hs, by rw [hro.2]; exact r.mem⟩
  have hxl : x.2.2.2.2.2.length = L.2.1.toNat := by rw [r.hs, mapF_len]
  rw [rd]
  unfold F_aqueductref15_Queue_Reap.S
  rw [ex, i64_in (a + 16) (by omega), O.chk_dec (by omega), r.mem, hex, O.bind_ok]
  dsimp only
  rw [Used_is, rUsed_is k _ ⟨hd.2.2.2.2.2.1, hd.2.2.2.2.2.2⟩, O.bind_ok, O.bind_ok, r.xb]
  generalize rdD g.1 a = d at hd ⊢
  obtain ⟨_, hd2, hd3, hd4, hd5, _, _⟩ := hd
  cases usP d.2.2.2 q.2.2.1.2 with
  | false =>
    rw [Bool.not_false, O.cond_true, O.cond_true]
    exact ⟨_, _, rfl, rfl, rfl, hRX, rfl, rfl, by dsimp only; omega⟩
  | true =>
    rw [Bool.not_true, O.cond_false, O.cond_false]
    by_cases c1 : d.2.2.1 ≥ (x.2.2.2.2.2.length : Int)
    · have hno : mhas q.2.2.2.2.2.2 d.2.2.1 = false := by
        rw [Bool.eq_false_iff]
        intro hm
        obtain ⟨e, he, hx⟩ := List.mem_map.1 (mhas_iff.1 hm)
        have := r.klt e he
        have hx : e.1 = d.2.2.1 := hx
        omega
      rw [hno, Bool.not_false, O.cond_true, O.cond_pos c1]
      exact ⟨_, _, rfl, rfl, rfl, hRX, rfl, rfl, by dsimp only; omega⟩
    · have hlt : d.2.2.1.toNat < L.2.1.toNat := by omega
      have eg : gt (0 : Int) x.2.2.2.2.2 d.2.2.1 = mget 0 q.2.2.2.2.2.2 d.2.2.1 := by
        have := mapF_gt (fun i => mget 0 q.2.2.2.2.2.2 (i : Int)) L.2.1.toNat d.2.2.1.toNat hlt
        rw [← r.hs, show ((d.2.2.1.toNat : Nat) : Int) = d.2.2.1 by omega] at this
        exact this
      rw [O.cond_neg c1, O.chk_dec (by omega), O.chk_dec (by omega), eg]
      have hiff := mget_iff r.ri.vals d.2.2.1
      have hnn := mget_nonneg r.ri.vals d.2.2.1
      by_cases c2 : mget 0 q.2.2.2.2.2.2 d.2.2.1 = 0
      · have hno : mhas q.2.2.2.2.2.2 d.2.2.1 = false := by
          rw [Bool.eq_false_iff]
          intro hm
          have := hiff.1 hm
          omega
        rw [hno, Bool.not_false, O.cond_true, O.cond_pos c2]
        exact ⟨_, _, rfl, rfl, rfl, hRX, rfl, rfl, by dsimp only; omega⟩
      · have hm : mhas q.2.2.2.2.2.2 d.2.2.1 = true := hiff.2 (by omega)
        obtain ⟨f1, f2, f3, f4⟩ := mdel_facts _ _ hm
        have v1 : 1 ≤ mget 0 q.2.2.2.2.2.2 d.2.2.1 := r.ri.vals _ f4
        have v64 : mget 0 q.2.2.2.2.2.2 d.2.2.1 ≤ 64 := r.le64 _ f4
        have v2 : ∀ e ∈ mdel q.2.2.2.2.2.2 d.2.2.1, 1 ≤ e.2 := fun e he => r.ri.vals e (f1.subset he)
        have v3 := len_sm v2
        have hsum := r.ri.sum
        have hfr := r.ri.fr
        generalize hn : mget 0 q.2.2.2.2.2.2 d.2.2.1 = n at *
        have hnx := nextSp_in q.2.2.1 n L.2.1 hbk (by omega)
        have e1 := spotNext_S k q.2.2.1 n L.2.1 hbk s1.2 (by omega)
        have e2 := rSpNext_S k q.2.2.1 n.toNat L.2.1 hbk s1.2 (by omega) (by omega)
        rw [show ((n.toNat : Nat) : Int) = n by omega] at e2
        have hw : IntKind.i64.wrap (q.2.2.2.2.2.1 + n) = q.2.2.2.2.2.1 + n := i64_in _ (by omega)
        rw [hm, Bool.not_true, O.cond_false, O.cond_neg c2, O.chk_dec (by omega), O.chk_dec (by omega), O.twice_eq, r.xl, e2, O.bind_ok, O.chk_dec (by omega), O.chk_dec (by rw [List.nil_append]; omega), O.chk_dec (by rw [List.nil_append]; omega), hlay, e1, O.bind_ok]
        refine ⟨_, _, rfl, rfl, rfl, ⟨⟨rfl, r.ri.nx, hnx, ?_, ?_, v2, List.Nodup.sublist (f1.map _) r.ri.keys, fun e he => r.ri.kin e (f1.subset he), hro.1, by rw [hro.2]; exact hgl⟩, fun e he => r.le64 e (f1.subset he), fun e he => r.klt e (f1.subset he), rfl, r.xn, rfl, r.xt, r.tin, r.since, r.sin, ?_, by rw [hro.2]; exact r.mem⟩, rfl, rfl, ?_⟩
        · show 0 ≤ IntKind.i64.wrap _; rw [hw]; omega
        · show IntKind.i64.wrap _ + sm (mdel _ _) = L.2.1; rw [hw]; omega
        · show su ([] ++ x.2.2.2.2.2) d.2.2.1 0 = mapF (fun i => mget 0 (mdel q.2.2.2.2.2.2 d.2.2.1) (i : Int)) L.2.1.toNat
          rw [List.nil_append, r.hs, show d.2.2.1 = ((d.2.2.1.toNat : Nat) : Int) by omega, mapF_su]
          refine mapF_congr fun i hi => ?_
          rw [mget_del _ _ _ r.ri.keys]
          by_cases e : i = d.2.2.1.toNat
          · rw [if_pos e, if_pos (by omega)]
          · rw [if_neg e, if_neg (by omega)]
        · show sm _ ≤ sm (mdel _ _) + 64; omega
/-! ### Tell -/
def evX (g : TM) (L : LAY) : Int × Bool × Int := eventP (Go.Aq.strOf (sub g.1 L.2.2.2 4))
def tellX (g : TM) (L : LAY) (x : TX) : Bool := if x.2.2.2.2.1 ≤ L.2.1 then needP (evX g L) x.2.2.2.1 x.2.1 L.2.1 else decide ((evX g L).2.2 = 0 ∨ (evX g L).2.2 = 2)
theorem rTell_S (k : Nat) (hk : 70000 ≤ k) {L : LAY} {len : Nat} (hlen : len ≤ 2048) (hL : LayIn L len) {q : TV} {g : TM} {x : TX} {h : TR} (r : RX L len q g x h) :
    F_aqueductref15_Queue_Tell.S k x h = .ok (tellX g L x, ((x.1, x.2.1, x.2.2.1, x.2.1, (0 : Int), x.2.2.2.2.2), h)) := by
  have s1 := hL.sz; have s4 := hL.e; have hgl := r.ri.len
  have hhs : (h.1.size : Int) = len := by rw [r.mem, size_strOf, hgl]
  have ex := ext_sub g.1 L.2.2.2 4 s4.1
  rw [show ((4 : Nat) : Int) = 4 from rfl] at ex
  have he := event_in (Go.Aq.strOf (sub g.1 L.2.2.2 4))
  unfold F_aqueductref15_Queue_Tell.S F_aqueductref15_Queue_Tell.top
  rw [r.xl, i64_in (L.2.2.2 + 4) (by omega), O.chk_dec (by omega), O.twice_eq, r.mem, ex, rEvParse_S k _ (by rw [size_strOf, sub_len _ _ _ (by rw [hgl]; omega)]; rfl), O.bind_ok]
  have fin : ∀ v7 : Bool, v7 = decide ((evX g L).2.2 = 0 ∨ (evX g L).2.2 = 2) → F_aqueductref15_Queue_Tell.j2 k x h (evX g L).1 (evX g L).2.1 (evX g L).2.2 v7 = .ok (tellX g L x, ((x.1, x.2.1, x.2.2.1, x.2.1, (0 : Int), x.2.2.2.2.2), h)) := by
    intro v7 hv
    unfold F_aqueductref15_Queue_Tell.j2 F_aqueductref15_Queue_Tell.j2_b tellX
    rw [r.xl]
    by_cases c : x.2.2.2.2.1 ≤ L.2.1
    · rw [O.cond_pos c, if_pos c]
      show O.bind (F_aqueductref13_Need.S k (evX g L) x.2.2.2.1 x.2.1 L.2.1) _ = _
      rw [show F_aqueductref13_Need.S k (evX g L) x.2.2.2.1 x.2.1 L.2.1 = _ from rNeed_S k _ _ _ _ s1 (by rw [r.xt]; exact r.tin) (by rw [r.xn]; exact r.ri.nx) he.1 (by omega), O.bind_ok]
    · rw [O.cond_neg c, if_neg c, hv]
  rw [r.xl] at fin
  show F_aqueductref15_Queue_Tell.j1 k x h (evX g L).1 (evX g L).2.1 (evX g L).2.2 = _
  unfold F_aqueductref15_Queue_Tell.j1 F_aqueductref15_Queue_Tell.j1_b
  by_cases c : (evX g L).2.2 = 0
  · rw [O.cond_pos c]; exact fin true (by rw [decide_eq_true (Or.inl c)])
  · rw [O.cond_neg c]
    refine fin _ (decide_eq_decide.2 ?_)
    exact ⟨Or.inr, fun x => x.resolve_left c⟩
/-- Bytes written to both. -/
theorem wr_both (k : Nat) (a : Int) (s : ByteArray) {L : LAY} {len : Nat} (hlen : len ≤ 2048) {q : TV} {g : TM} {x : TX} {h : TR} (r : RX L len q g x h) (hm : mayM a s.size len = true) :
    F_gmem_Memory_Write.S k a s g = .ok (0, wrM g a s) ∧ RX L len q (wrM g a s) x (((ByteArray.extract h.1 0 a.toNat ++ s) ++ ByteArray.extract h.1 (a + (s.size : Int)).toNat (ByteArray.size h.1)), h.2.1, note1 h.2.1 h.2.2 a (s.size : Int)) := by
  have hgl := r.ri.len
  have hm' : mayM a s.size g.1.length = true := by rw [hgl]; exact hm
  have w := wrM_ok g a s r.ri.okg hm'
  have hi := mayM_iff.1 hm
  refine ⟨by rw [Write_S k a s g r.ri.okg, if_pos hm'], ⟨⟨r.ri.lay, r.ri.nx, r.ri.bk, r.ri.fr, r.ri.sum, r.ri.vals, r.ri.keys, r.ri.kin, w.1, w.2.trans hgl⟩, r.le64, r.klt, r.xl, r.xn, r.xb, r.xt, r.tin, r.since, r.sin, r.hs, ?_⟩⟩
  show (ByteArray.extract h.1 0 _ ++ s) ++ ByteArray.extract h.1 _ _ = Go.Aq.strOf (putAt g.1 a (bytesOf s))
  rw [r.mem]
  exact strOf_put g.1 a s (by rw [hgl]; omega)
end Go.Proofs.YtpfddjdkafjjfaaGreat
