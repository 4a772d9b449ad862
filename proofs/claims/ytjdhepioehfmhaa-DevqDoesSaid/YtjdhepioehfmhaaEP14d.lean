/- Layer 14: bytes in memory, flags; what Done comes to. -/
import Derived.Test.YtjdhepioehfmhaaEP14c
namespace Go.Proofs.Ytjdhepioehfmhaa
open Go.Aq Go.IntWalk
set_option linter.unusedVariables false
/-! ### Bytes in memory -/
theorem sub_put_same (b ys : List Int) (a : Int) (h : 0 ≤ a ∧ a + ys.length ≤ b.length) : sub (putAt b a ys) a ys.length = ys := by
  unfold sub putAt
  have h1 : (List.take a.toNat b).length = a.toNat := by rw [List.length_take]; omega
  rw [Int.toNat_natCast, List.drop_left' h1, List.take_left' rfl]
theorem sub_put_ahead (b ys : List Int) (a x m : Int) (h : 0 ≤ a ∧ a + ys.length ≤ b.length) (hx : 0 ≤ x ∧ 0 ≤ m ∧ x + m ≤ a) : sub (putAt b a ys) x m = sub b x m := by
  unfold sub putAt
  rw [List.drop_append_of_le_length (by rw [List.length_take]; omega), List.take_append_of_le_length (by rw [List.length_drop, List.length_take]; omega), List.drop_take, List.take_take]
  congr 1; omega
theorem sub_put_behind (b ys : List Int) (a x m : Int) (h : 0 ≤ a ∧ a + ys.length ≤ b.length) (hx : a + ys.length ≤ x ∧ 0 ≤ m) : sub (putAt b a ys) x m = sub b x m := by
  unfold sub putAt
  have h1 : (List.take a.toNat b).length = a.toNat := by rw [List.length_take]; omega
  rw [← List.append_assoc, List.drop_append, List.drop_eq_nil_of_le (by rw [List.length_append, h1]; omega), List.nil_append, List.length_append, h1, List.drop_drop]
  congr 2; omega
theorem sub_put_off (b ys : List Int) (a x m : Int) (h : 0 ≤ a ∧ a + ys.length ≤ b.length) (hx : 0 ≤ x ∧ 0 ≤ m ∧ (x + m ≤ a ∨ a + ys.length ≤ x)) : sub (putAt b a ys) x m = sub b x m := by
  rcases hx.2.2 with h1 | h1
  · exact sub_put_ahead b ys a x m h ⟨hx.1, hx.2.1, h1⟩
  · exact sub_put_behind b ys a x m h ⟨h1, hx.2.1⟩
theorem strOf_bytesOf (s : ByteArray) : strOf (bytesOf s) = s := by
  apply list_eq
  show ((bytesOf s).map fun n => UInt8.ofNat n.toNat) = _
  unfold bytesOf
  rw [List.map_map]
  conv => rhs; rw [← List.map_id s.data.toList]
  apply List.map_congr_left
  intro c _
  show UInt8.ofNat ((c.toNat : Int).toNat) = c
  rw [Int.toNat_natCast]; simp
/-- A number of so many bytes, the low one first. -/
def leN (b : List Int) (x : Int) (m : Nat) : Int := bl (strOf (sub b x m)) m m
theorem sub_sub (b : List Int) (x m y n : Int) (h : 0 ≤ x ∧ 0 ≤ y ∧ 0 ≤ n ∧ y + n ≤ m) : sub (sub b x m) y n = sub b (x + y) n := by
  unfold sub
  rw [List.drop_take, List.drop_drop, List.take_take]
  congr 1
  · omega
  · congr 1; omega
theorem strOf_sub (L : List Int) (i j : Nat) : (strOf L).extract i j = strOf (sub L i ((j - i : Nat) : Int)) := by
  apply list_eq
  rw [ext_list]
  unfold strOf sub
  simp [List.map_take, List.map_drop]
theorem rdD_fl (b : List Int) (x : Int) (h : 0 ≤ x ∧ x + 16 ≤ b.length) : (rdD b x).2.2.2 = leN b (x + 14) 2 := by
  unfold rdD descP leN
  show bl (strOf (sub b x 16)) 16 2 = _
  have e := bl_ext (strOf (sub b x 16)) 14 16 (by rw [size_strOf, sub_len _ _ _ (by omega)]; decide) 2 (by omega)
  rw [← e, strOf_sub, sub_sub _ _ _ _ _ (by omega)]; rfl
theorem revT_revT (s : ByteArray) : revT (revT s) = s := by
  apply list_eq; simp [revT]
theorem be_put (n : Nat) : ∀ v : Int, 0 ≤ v → v < 256 ^ n → be (putT v n) 0 n = v := by
  induction n with
  | zero => intro v h0 h; have : v = 0 := by rw [Int.pow_zero] at h; omega
            subst this; rfl
  | succ n ih =>
    intro v h0 h
    have e : putT v (n + 1) = putT (v / 256) n ++ strOf [v % 256] := by unfold putT; rw [wb_snoc v h0 n, strOf_app]
    rw [Int.pow_succ] at h
    unfold be
    rw [e, be_app _ _ 0 n (by rw [putT_size]; omega), ih (v / 256) (by omega) (by omega), bt_app, if_neg (by rw [putT_size]; omega), putT_size]
    have : bt (strOf [v % 256]) ((0 + n - n : Nat) : Int) = v % 256 := by
      rw [show 0 + n - n = 0 by omega, bt_strOf [v % 256] (by intro x hx; rw [List.mem_singleton] at hx; omega) 0]; rfl
    rw [this]; omega
theorem bl_putL (n : Nat) (v : Int) (h0 : 0 ≤ v) (h : v < 256 ^ n) : bl (putL v n) n n = v := by
  have e := be_rev (putL v n) n (by rw [putL_size]; exact Nat.le_refl n)
  rw [putL_size] at e
  rw [← e]
  unfold putL
  rw [revT_revT]; exact be_put n v h0 h
theorem ext_mid (a b c : ByteArray) (i j : Nat) (hi : a.size = i) (hj : a.size + b.size = j) : (a ++ (b ++ c)).extract i j = b := by
  apply list_eq
  rw [size_list] at hi hj
  rw [size_list] at hj
  rw [ext_list, app_list, app_list, List.drop_append_of_le_length (by omega), ← hi, List.drop_length, List.nil_append, List.take_append_of_le_length (by omega), show j - a.data.toList.length = b.data.toList.length by omega, List.take_length]
theorem app_as (a b c : ByteArray) : (a ++ b) ++ c = a ++ (b ++ c) := by
  apply list_eq; simp only [app_list, List.append_assoc]
theorem app_nil (a : ByteArray) : a ++ ⟨#[]⟩ = a := by apply list_eq; rw [app_list]; simp
def inD (d : D4) : Prop := (0 ≤ d.1 ∧ d.1 < 18446744073709551616) ∧ (0 ≤ d.2.1 ∧ d.2.1 < 4294967296) ∧ (0 ≤ d.2.2.1 ∧ d.2.2.1 < 65536) ∧ (0 ≤ d.2.2.2 ∧ d.2.2.2 < 65536)
theorem descP_dscB (d : D4) (h : inD d) : descP (dscB d) = d := by
  obtain ⟨h1, h2, h3, h4⟩ := h
  have hz := dscB_size d
  have x1 : (dscB d).extract 0 8 = putL d.1 8 := by
    unfold dscB; rw [app_as, app_as]
    exact ext_mid ⟨#[]⟩ (putL d.1 8) _ 0 8 rfl (by rw [putL_size]; rfl)
  have x2 : (dscB d).extract 8 12 = putL d.2.1 4 := by
    unfold dscB; rw [app_as, app_as]
    exact ext_mid (putL d.1 8) (putL d.2.1 4) _ 8 12 (putL_size _ _) (by rw [putL_size, putL_size])
  have x3 : (dscB d).extract 12 14 = putL d.2.2.1 2 := by
    unfold dscB; rw [app_as]
    exact ext_mid (putL d.1 8 ++ putL d.2.1 4) (putL d.2.2.1 2) _ 12 14 (by rw [app_size, putL_size, putL_size]) (by rw [app_size, putL_size, putL_size, putL_size])
  have x4 : (dscB d).extract 14 16 = putL d.2.2.2 2 := by
    have := ext_mid (putL d.1 8 ++ putL d.2.1 4 ++ putL d.2.2.1 2) (putL d.2.2.2 2) ⟨#[]⟩ 14 16 (by rw [app_size, app_size, putL_size, putL_size, putL_size]) (by rw [app_size, app_size, putL_size, putL_size, putL_size, putL_size])
    rw [app_nil] at this; exact this
  have y1 := bl_ext (dscB d) 0 8 (by omega) 8 (by omega)
  have y2 := bl_ext (dscB d) 8 12 (by omega) 4 (by omega)
  have y3 := bl_ext (dscB d) 12 14 (by omega) 2 (by omega)
  have y4 := bl_ext (dscB d) 14 16 (by omega) 2 (by omega)
  rw [x1] at y1
  rw [x2] at y2
  rw [x3] at y3
  rw [x4] at y4
  unfold descP
  rw [← y1, ← y2, ← y3, ← y4]
  show (bl _ 8 8, bl _ 4 4, bl _ 2 2, bl _ 2 2) = d
  rw [bl_putL 8 _ h1.1 (by rw [show (256 : Int) ^ 8 = 18446744073709551616 from rfl]; exact h1.2), bl_putL 4 _ h2.1 (by rw [show (256 : Int) ^ 4 = 4294967296 from rfl]; exact h2.2), bl_putL 2 _ h3.1 (by rw [show (256 : Int) ^ 2 = 65536 from rfl]; exact h3.2), bl_putL 2 _ h4.1 (by rw [show (256 : Int) ^ 2 = 65536 from rfl]; exact h4.2)]
theorem rdD_put (b : List Int) (x : Int) (d : D4) (h : inD d) (hx : 0 ≤ x ∧ x + 16 ≤ b.length) : rdD (putAt b x (bytesOf (dscB d))) x = d := by
  have hl : (bytesOf (dscB d)).length = 16 := by rw [bytesOf_len, dscB_size]
  have := sub_put_same b (bytesOf (dscB d)) x (by omega)
  rw [hl] at this
  unfold rdD
  rw [show (16 : Int) = ((16 : Nat) : Int) from rfl, this, strOf_bytesOf]; exact descP_dscB d h
theorem rdD_off (b ys : List Int) (a x : Int) (h : 0 ≤ a ∧ a + ys.length ≤ b.length) (hx : 0 ≤ x ∧ (x + 16 ≤ a ∨ a + ys.length ≤ x)) : rdD (putAt b a ys) x = rdD b x := by
  unfold rdD; rw [sub_put_off b ys a x 16 h ⟨hx.1, by decide, hx.2⟩]
theorem leN_put (b : List Int) (x v : Int) (m : Nat) (hv : 0 ≤ v ∧ v < 256 ^ m) (hx : 0 ≤ x ∧ x + m ≤ b.length) : leN (putAt b x (bytesOf (putL v m))) x m = v := by
  have hl : (bytesOf (putL v m)).length = m := by rw [bytesOf_len, putL_size]
  have := sub_put_same b (bytesOf (putL v m)) x (by omega)
  rw [hl] at this
  unfold leN
  rw [this, strOf_bytesOf]; exact bl_putL m v hv.1 hv.2
theorem leN_off (b ys : List Int) (a x : Int) (m : Nat) (h : 0 ≤ a ∧ a + ys.length ≤ b.length) (hx : 0 ≤ x ∧ (x + m ≤ a ∨ a + ys.length ≤ x)) : leN (putAt b a ys) x m = leN b x m := by
  unfold leN; rw [sub_put_off b ys a x m h ⟨hx.1, by omega, hx.2⟩]
/-! ### Done -/
def usedF (wr w : Bool) : Int := (bif wr then 2 else 0) + (bif w then 32896 else 0)
theorem usedF_in (wr w : Bool) : 0 ≤ usedF wr w ∧ usedF wr w < 65536 := by cases wr <;> cases w <;> decide
theorem dMark_S (k : Nat) (wr w : Bool) : F_desc_Mark.S k (bif wr then 2 else 0) w true = .ok (usedF wr w) := by
  unfold F_desc_Mark.S
  cases wr <;> cases w <;> simp only [O.cond_true, O.cond_false, decide_true, decide_false, reduceCtorEq, cond_true, cond_false] <;> rfl
def doneQ (q : TQ) (c : Int) : TQ := (q.1, q.2.1, nextSp q.2.2.1 c q.1.2.1, q.2.2.2.1, min (q.2.2.2.2.1 + c) (2 * q.1.2.1), q.2.2.2.2.2.1 - c, q.2.2.2.2.2.2)
def doneB (b : List Int) (a wr id : Int) (w : Bool) : List Int :=
  putAt (putAt (putAt b (a + 8) (bytesOf (putL wr 4))) (a + 12) (bytesOf (putL id 2))) (a + 14) (bytesOf (putL (usedF (decide (wr > 0)) w) 2))
theorem wrM_at (g : TM) (a v : Int) (m : Nat) (hg : okM g) (ha : 0 ≤ a ∧ a + m ≤ g.1.length) : mayM a ((putL v m).size : Int) g.1.length = true ∧ okM (wrM g a (putL v m)) ∧ (wrM g a (putL v m)).1 = putAt g.1 a (bytesOf (putL v m)) ∧ (wrM g a (putL v m)).2.1 = g.2.1 ∧ (wrM g a (putL v m)).1.length = g.1.length := by
  have hm : mayM a ((putL v m).size : Int) g.1.length = true := by rw [putL_size, mayM_iff]; omega
  have := wrM_ok g a (putL v m) hg hm
  exact ⟨hm, this.1, rfl, rfl, this.2⟩
theorem Done_S (k : Nat) (hk : 9 ≤ k) (id c wr : Int) (q : TQ) (g : TM) (hg : okM g) (hq : OkQ q g.1.length) (hb : q.2.2.2.2.2.2 = false) (hi : 0 ≤ id ∧ id ≤ 65535) (hc : 1 ≤ c ∧ c ≤ q.2.2.2.2.2.1) (hw : 0 ≤ wr ∧ wr ≤ 4294967295) :
    O.sat (F_devq_Queue_Done.S k id c wr q g) fun r => r.1 = 0 ∧ r.2.1 = doneQ q c ∧ r.2.2.1 = doneB g.1 (q.1.1 + 16 * q.2.2.1.1) wr id q.2.2.1.2 ∧ r.2.2.2.1 = g.2.1 ∧ okM r.2.2 := by
  have ol := hq.l.lo; have oh := hq.l.hi; have or := hq.l.ring; have oo := hq.out; have ob := hq.back; have l1 := hg.1; have os := hq.since
  have sz : ∀ n : Int, n = 2 ∨ n = 4 → F_gmem_sized.S k n = .ok true := by
    intro n hn
    unfold F_gmem_sized.S
    rcases hn with rfl | rfl
    · rw [O.cond_neg (by decide), O.cond_pos rfl]
    · rw [O.cond_neg (by decide), O.cond_neg (by decide), O.cond_pos rfl]
  have pt : ∀ (v : Int) (m : Nat), 1 ≤ m ∧ m ≤ 8 → 0 ≤ v ∧ v < 18446744073709551616 → v < 256 ^ m → F_words_Put.S k v (m : Int) false = .ok (putL v m, 0) := by
    intro v m hm hv hv2
    rw [PutL_S k hk v m hv hm, if_pos hv2]
  unfold F_devq_Queue_Done.S F_devq_Queue_Done.top
  rw [hb, O.cond_false, O.cond_neg (by omega), O.cond_neg (by omega), O.cond_neg (by omega), O.cond_neg (by omega), O.cond_neg (by omega), O.cond_neg (by omega)]
  have main : ∀ f : Int, f = (bif decide (wr > 0) then 2 else 0) → O.sat (F_devq_Queue_Done.j4 k id c wr q g f) fun r => r.1 = 0 ∧ r.2.1 = doneQ q c ∧ r.2.2.1 = doneB g.1 (q.1.1 + 16 * q.2.2.1.1) wr id q.2.2.1.2 ∧ r.2.2.2.1 = g.2.1 ∧ okM r.2.2 := by
    intro f hf
    unfold F_devq_Queue_Done.j4 F_devq_Queue_Done.j4_b
    rw [sz 4 (Or.inr rfl), O.bind_ok, Bool.not_true, O.cond_false, u64_in wr (by omega), i64_in (16 * _) (by omega), i64_in (q.1.1 + _) (by omega), i64_in (q.1.1 + _ + 8) (by omega)]
    have p1 : F_words_Put.S k wr (4 : Int) false = _ := pt wr 4 (by omega) (by omega) (by rw [show (256 : Int) ^ 4 = 4294967296 from rfl]; omega)
    obtain ⟨m1, k1, b1, a1, n1⟩ := wrM_at g (q.1.1 + 16 * q.2.2.1.1 + 8) wr 4 hg (by omega)
    rw [p1, O.bind_ok, O.cond_neg (by simp), Write_S _ _ _ _ hg, if_pos m1, O.bind_ok]
    show O.sat (F_devq_Queue_Done.j5_b k id c q _ _ _ _ _) _
    unfold F_devq_Queue_Done.j5_b
    rw [sz 2 (Or.inl rfl), O.bind_ok, Bool.not_true, O.cond_false, u64_in id (by omega), i64_in (16 * _) (by omega), i64_in (q.1.1 + _) (by omega), i64_in (q.1.1 + _ + 12) (by omega)]
    have p2 : F_words_Put.S k id (2 : Int) false = _ := pt id 2 (by omega) (by omega) (by rw [show (256 : Int) ^ 2 = 65536 from rfl]; omega)
    generalize hg1 : wrM g (q.1.1 + 16 * q.2.2.1.1 + 8) (putL wr 4) = g1 at *
    obtain ⟨m2, k2, b2, a2, n2⟩ := wrM_at g1 (q.1.1 + 16 * q.2.2.1.1 + 12) id 2 k1 (by omega)
    rw [p2, O.bind_ok, O.cond_neg (by simp), show ((g1.1, g1.2.1, g1.2.2) : TM) = g1 from rfl, Write_S _ _ _ _ k1, if_pos m2, O.bind_ok]
    show O.sat (F_devq_Queue_Done.j6_b k c q _ _ _ _ _) _
    unfold F_devq_Queue_Done.j6_b
    have fi := usedF_in (decide (wr > 0)) q.2.2.1.2
    rw [hf, dMark_S, O.bind_ok, sz 2 (Or.inl rfl), O.bind_ok, Bool.not_true, O.cond_false, u64_in (usedF _ _) (by omega), i64_in (16 * _) (by omega), i64_in (q.1.1 + _) (by omega), i64_in (q.1.1 + _ + 14) (by omega)]
    have p3 : F_words_Put.S k (usedF (decide (wr > 0)) q.2.2.1.2) (2 : Int) false = _ := pt (usedF (decide (wr > 0)) q.2.2.1.2) 2 (by omega) (by omega) (by rw [show (256 : Int) ^ 2 = 65536 from rfl]; omega)
    generalize hg2 : wrM g1 (q.1.1 + 16 * q.2.2.1.1 + 12) (putL id 2) = g2 at *
    obtain ⟨m3, k3, b3, a3, n3⟩ := wrM_at g2 (q.1.1 + 16 * q.2.2.1.1 + 14) (usedF (decide (wr > 0)) q.2.2.1.2) 2 k2 (by omega)
    rw [p3, O.bind_ok, O.cond_neg (by simp), show ((g2.1, g2.2.1, g2.2.2) : TM) = g2 from rfl, Write_S _ _ _ _ k2, if_pos m3, O.bind_ok]
    show O.sat (F_devq_Queue_Done.j7_b k c q _ _ _) _
    unfold F_devq_Queue_Done.j7_b
    rw [spotNext_S k _ _ _ ob oh (by omega), O.bind_ok, i64_in (q.2.2.2.2.1 + c) (by omega), i64_in (2 * _) (by omega), i64_in (q.2.2.2.2.2.1 - c) (by omega)]
    refine O.sat_ok ⟨rfl, rfl, ?_, ?_, k3⟩
    · show (wrM g2 _ _).1 = _
      rw [b3, b2, b1]; rfl
    · show (wrM g2 _ _).2.1 = _
      rw [a3, a2, a1]
  by_cases h0 : wr > 0
  · rw [O.cond_pos h0]; exact main 2 (by rw [decide_eq_true h0]; rfl)
  · rw [O.cond_neg h0]; exact main 0 (by rw [decide_eq_false h0]; rfl)
theorem doneB_len (b : List Int) (a wr id : Int) (u : Bool) (h : 0 ≤ a ∧ a + 16 ≤ b.length) : (doneB b a wr id u).length = b.length := by
  have l1 : (bytesOf (putL wr 4)).length = 4 := by rw [bytesOf_len, putL_size]
  have l2 : (bytesOf (putL id 2)).length = 2 := by rw [bytesOf_len, putL_size]
  have l3 : (bytesOf (putL (usedF (decide (wr > 0)) u) 2)).length = 2 := by rw [bytesOf_len, putL_size]
  have e1 := putAt_len b (bytesOf (putL wr 4)) (a + 8) (by omega) (by omega)
  have e2 := putAt_len (putAt b (a + 8) (bytesOf (putL wr 4))) (bytesOf (putL id 2)) (a + 12) (by omega) (by omega)
  have e3 := putAt_len (putAt (putAt b (a + 8) (bytesOf (putL wr 4))) (a + 12) (bytesOf (putL id 2))) (bytesOf (putL (usedF (decide (wr > 0)) u) 2)) (a + 14) (by omega) (by omega)
  unfold doneB; omega
end Go.Proofs.Ytjdhepioehfmhaa
