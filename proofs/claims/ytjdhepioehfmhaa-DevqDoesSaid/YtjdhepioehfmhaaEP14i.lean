/- Layer 14: what the document's Memory.Write, Queue.Done and Ask come to: the same as gmem's and devq's. -/
import Derived.Test.YtjdhepioehfmhaaEP14h
namespace Go.Proofs.Ytjdhepioehfmhaa
open Go.Aq Go.IntWalk
set_option linter.unusedVariables false
/-! ### Bytes -/
def leL : List Int → Int
  | [] => 0
  | x :: r => x + 256 * leL r
def wl (v : Int) : Nat → List Int
  | 0 => []
  | n + 1 => v % 256 :: wl (v / 256) n
theorem leL_nonneg : ∀ (l : List Int), (∀ x ∈ l, 0 ≤ x ∧ x ≤ 255) → 0 ≤ leL l
  | [], _ => Int.le_refl 0
  | x :: r, h => by
    have h1 := h x (by simp)
    have h2 := leL_nonneg r (fun y hy => h y (by simp [hy]))
    unfold leL; omega
theorem wl_rev (v : Int) (hv : 0 ≤ v) : ∀ (n : Nat) (v : Int), 0 ≤ v → (wb v n).reverse = wl v n
  | 0, v, _ => rfl
  | n + 1, v, hv => by
    rw [wb_snoc v hv n, List.reverse_append, wl_rev v hv n (v / 256) (by omega)]; rfl
theorem wl_le : ∀ (l : List Int), (∀ x ∈ l, 0 ≤ x ∧ x ≤ 255) → wl (leL l) l.length = l
  | [], _ => rfl
  | x :: r, h => by
    have h1 := h x (by simp)
    show (leL (x :: r)) % 256 :: wl (leL (x :: r) / 256) r.length = x :: r
    unfold leL
    rw [show (x + 256 * leL r) % 256 = x by omega, show (x + 256 * leL r) / 256 = leL r by omega, wl_le r (fun y hy => h y (by simp [hy]))]
theorem putL_wl (v : Int) (hv : 0 ≤ v) (n : Nat) : putL v n = strOf (wl v n) := by
  unfold putL putT revT
  rw [← wl_rev v hv n v hv]
  apply list_eq; simp [strOf]
theorem bytesOf_rng (s : ByteArray) : ∀ x ∈ bytesOf s, 0 ≤ x ∧ x ≤ 255 := by
  intro x hx
  obtain ⟨c, _, rfl⟩ := List.mem_map.1 hx
  have := c.toNat_lt
  omega
theorem bl_leL (s : ByteArray) : ∀ n, n ≤ s.size → bl s s.size n = leL ((bytesOf s).drop (s.size - n))
  | 0, _ => by
    rw [Nat.sub_zero, List.drop_eq_nil_of_le (by rw [bytesOf_len]; omega)]; rfl
  | n + 1, h => by
    have hl := bytesOf_len s
    unfold bl
    rw [bl_leL s n (by omega), List.drop_eq_getElem_cons (show s.size - (n + 1) < (bytesOf s).length by omega), show s.size - (n + 1) + 1 = s.size - n by omega]
    have : bt s ((s.size - 1 - n : Nat) : Int) = (bytesOf s)[s.size - (n + 1)]'(by omega) := by
      have hsl := size_list s
      rw [bt_at s _ (by omega)]
      simp only [bytesOf, List.getElem_map]
      congr 3; omega
    rw [this]
    show _ = (bytesOf s)[s.size - (n + 1)]'(by omega) + 256 * leL _
    omega
theorem putL_bl (s : ByteArray) (n : Nat) (h : s.size = n) : putL (bl s n n) n = s := by
  have e := bl_leL s n (by omega)
  rw [h, Nat.sub_self, List.drop_zero] at e
  rw [putL_wl _ (bl_lo s n n).1, e]
  have := wl_le (bytesOf s) (bytesOf_rng s)
  rw [bytesOf_len, h] at this
  rw [this, strOf_bytesOf]
theorem strOf_put (b : List Int) (a : Int) (s : ByteArray) (h : 0 ≤ a ∧ a + s.size ≤ b.length) :
    (((strOf b).extract 0 a.toNat ++ s) ++ (strOf b).extract (a + s.size).toNat (strOf b).size) = strOf (putAt b a (bytesOf s)) := by
  unfold putAt
  rw [strOf_app, strOf_app, strOf_bytesOf, app_as]
  congr 1
  · have : sub b ((0 : Nat) : Int) ((a.toNat - 0 : Nat) : Int) = List.take a.toNat b := by
      unfold sub
      rw [Int.toNat_natCast, Int.toNat_natCast, List.drop_zero, Nat.sub_zero]
    rw [strOf_sub, this]
  · congr 1
    rw [strOf_sub, size_strOf]; congr 1; unfold sub
    rw [bytesOf_len]
    rw [List.take_of_length_le (by rw [List.length_drop]; omega)]
    congr 1; omega
theorem put_put (b ys zs : List Int) (a : Int) (h : 0 ≤ a ∧ a + ys.length + zs.length ≤ b.length) : putAt (putAt b a ys) (a + ys.length) zs = putAt b a (ys ++ zs) := by
  unfold putAt
  have h1 : (List.take a.toNat b).length = a.toNat := by rw [List.length_take]; omega
  have e1 : List.take (a + ys.length).toNat (List.take a.toNat b ++ (ys ++ List.drop (a.toNat + ys.length) b)) = List.take a.toNat b ++ ys := by
    rw [← List.append_assoc]; exact List.take_left' (by rw [List.length_append, h1]; omega)
  have e2 : List.drop ((a + ys.length).toNat + zs.length) (List.take a.toNat b ++ (ys ++ List.drop (a.toNat + ys.length) b)) = List.drop (a.toNat + (ys ++ zs).length) b := by
    rw [← List.append_assoc, List.drop_append, List.drop_eq_nil_of_le (by rw [List.length_append, h1]; omega), List.nil_append, List.drop_drop, List.length_append, h1, List.length_append]
    congr 1; omega
  rw [e1, e2]; simp
theorem bytesOf_app (a b : ByteArray) : bytesOf (a ++ b) = bytesOf a ++ bytesOf b := by unfold bytesOf; rw [app_list, List.map_append]
/-! ### The document's memory -/
theorem O.same_self {α : Type} (x : O α) : O.same x x = x := by rw [O.same_eq, if_pos rfl]
theorem note_S (k : Nat) (a n : Int) (w : Bool) (h : TR) (hh : h.2.2.length ≤ 4000) : F_aqueductref04_Memory_note.S k a n w h = .ok (h.1, h.2.1, if n > 0 then ([] ++ h.2.2) ++ [(h.2.1, a, n, w)] else h.2.2) := by
  unfold F_aqueductref04_Memory_note.S
  simp only [O.twice_eq, O.same_self]
  by_cases h1 : n > 0
  · rw [O.cond_pos h1, if_pos h1, O.chk_dec (by omega), O.chk_dec (by simp; omega), O.cond_neg (by simp; omega)]
  · rw [O.cond_neg h1, if_neg h1, O.cond_neg (by omega)]
theorem note_sat (k : Nat) (a n : Int) (w : Bool) (h : TR) (hh : h.2.2.length ≤ 4000) : O.sat (F_aqueductref04_Memory_note.S k a n w h) fun r => r.1 = h.1 ∧ r.2.2.length ≤ h.2.2.length + 1 := by
  rw [note_S k a n w h hh]
  refine O.sat_ok ⟨rfl, ?_⟩
  show (if n > 0 then ([] ++ h.2.2) ++ [(h.2.1, a, n, w)] else h.2.2).length ≤ _
  split
  · simp
  · omega
/-! ### Done -/
theorem rMarkU_S (k : Nat) (wr w : Bool) : F_aqueductref12_Mark.S k (bif wr then 2 else 0) w true = .ok (usedF wr w) := by
  unfold F_aqueductref12_Mark.S
  cases wr <;> cases w <;> simp only [O.cond_true, O.cond_false, Bool.not_true, Bool.not_false, cond_true, cond_false] <;> rfl
theorem done_bytes (b : List Int) (a wr id : Int) (w : Bool) (ha : 0 ≤ a ∧ a + 16 ≤ b.length) :
    strOf (putAt b a (bytesOf (dscB ((rdD b a).1, wr, id, usedF (decide (wr > 0)) w)))) = strOf (doneB b a wr id w) := by
  have hs : (strOf (sub b a 16)).size = 16 := by rw [size_strOf, sub_len _ _ _ (by omega)]; rfl
  have e1 : putL (rdD b a).1 8 = strOf (sub b a 8) := by
    unfold rdD descP
    show putL (bl (strOf (sub b a 16)) 8 8) 8 = _
    have x := bl_ext (strOf (sub b a 16)) 0 8 (by omega) 8 (by omega)
    have y : (strOf (sub b a 16)).extract 0 8 = strOf (sub b a 8) := by
      have := ext_sub (sub b a 16) 0 8 (by decide)
      rw [sub_sub _ _ _ _ _ (by omega), Int.add_zero] at this
      exact this
    rw [y] at x
    rw [← x]
    exact putL_bl _ 8 (by rw [size_strOf, sub_len _ _ _ (by omega)]; rfl)
  have l0 : (bytesOf (strOf (sub b a 8))).length = 8 := by rw [bytesOf_len, size_strOf, sub_len _ _ _ (by omega)]; rfl
  have l1 : (bytesOf (putL wr 4)).length = 4 := by rw [bytesOf_len, putL_size]
  have l2 : (bytesOf (putL id 2)).length = 2 := by rw [bytesOf_len, putL_size]
  have l3 : (bytesOf (putL (usedF (decide (wr > 0)) w) 2)).length = 2 := by rw [bytesOf_len, putL_size]
  unfold doneB
  have p1 := put_put b (bytesOf (putL wr 4)) (bytesOf (putL id 2)) (a + 8) (by omega)
  rw [l1, show a + 8 + ((4 : Nat) : Int) = a + 12 by omega] at p1
  have p2 := put_put b (bytesOf (putL wr 4) ++ bytesOf (putL id 2)) (bytesOf (putL (usedF (decide (wr > 0)) w) 2)) (a + 8) (by rw [List.length_append]; omega)
  rw [List.length_append, l1, l2, show a + 8 + ((4 + 2 : Nat) : Int) = a + 14 by omega] at p2
  rw [p1, p2]
  unfold dscB
  rw [e1, bytesOf_app, bytesOf_app, bytesOf_app]
  unfold putAt
  simp only [strOf_app, strOf_bytesOf, List.length_append, l0, l1, l2, l3]
  have t : List.take (a + 8).toNat b = List.take a.toNat b ++ sub b a 8 := by
    unfold sub
    rw [show (a + 8).toNat = a.toNat + 8 by omega, List.take_add]; rfl
  rw [t, strOf_app]
  have d2 : List.drop (a.toNat + (8 + 4 + 2 + 2)) b = List.drop ((a + 8).toNat + (4 + 2 + 2)) b := by congr 1; omega
  rw [d2]
  simp only [app_as]
structure RelQ (q qr : TQ) : Prop where
  eq : qr.1 = q.1 ∧ qr.2.1 = q.2.1 ∧ qr.2.2.1 = q.2.2.1 ∧ qr.2.2.2.1 = q.2.2.2.1 ∧ qr.2.2.2.2.2 = q.2.2.2.2.2
  since : q.2.2.2.2.1 = min qr.2.2.2.2.1 (2 * q.1.2.1) ∧ 0 ≤ qr.2.2.2.2.1
theorem Done_bad (k : Nat) (id c wr : Int) (q : TQ) (g : TM) (hb : q.2.2.2.2.2.2 = true ∨ ¬ (0 ≤ id ∧ id ≤ 65535 ∧ 1 ≤ c ∧ c ≤ q.2.2.2.2.2.1 ∧ 0 ≤ wr ∧ wr ≤ 4294967295)) :
    F_devq_Queue_Done.S k id c wr q g = .ok (if q.2.2.2.2.2.2 = true then 141 else 1, (q, g)) := by
  unfold F_devq_Queue_Done.S F_devq_Queue_Done.top
  cases h0 : q.2.2.2.2.2.2 with
  | true => rw [O.cond_true]; rfl
  | false =>
    rw [h0] at hb
    rw [O.cond_false, if_neg (by decide)]
    by_cases h1 : id < 0
    · rw [O.cond_pos h1]
    by_cases h2 : id > 65535
    · rw [O.cond_neg h1, O.cond_pos h2]
    by_cases h3 : c < 1
    · rw [O.cond_neg h1, O.cond_neg h2, O.cond_pos h3]
    by_cases h4 : c > q.2.2.2.2.2.1
    · rw [O.cond_neg h1, O.cond_neg h2, O.cond_neg h3, O.cond_pos h4]
    by_cases h5 : wr < 0
    · rw [O.cond_neg h1, O.cond_neg h2, O.cond_neg h3, O.cond_neg h4, O.cond_pos h5]
    by_cases h6 : wr > 4294967295
    · rw [O.cond_neg h1, O.cond_neg h2, O.cond_neg h3, O.cond_neg h4, O.cond_neg h5, O.cond_pos h6]
    exfalso
    rcases hb with hb | hb
    · cases hb
    · exact hb (by omega)
theorem rDone_bad (k : Nat) (id c wr : Int) (q : TQ) (g : TR) (hb : q.2.2.2.2.2.2 = true ∨ ¬ (0 ≤ id ∧ id ≤ 65535 ∧ 1 ≤ c ∧ c ≤ q.2.2.2.2.2.1 ∧ 0 ≤ wr ∧ wr ≤ 4294967295)) :
    F_aqueductref14_Queue_Done.S k id c wr q g = .ok (if q.2.2.2.2.2.2 = true then 141 else 1, (q, g)) := by
  unfold F_aqueductref14_Queue_Done.S F_aqueductref14_Queue_Done.top
  cases h0 : q.2.2.2.2.2.2 with
  | true => rw [O.cond_true]; rfl
  | false =>
    rw [h0] at hb
    rw [O.cond_false, if_neg (by decide)]
    by_cases h1 : id < 0
    · rw [O.cond_pos h1]
    by_cases h2 : id > 65535
    · rw [O.cond_neg h1, O.cond_pos h2]
    by_cases h3 : c < 1
    · rw [O.cond_neg h1, O.cond_neg h2, O.cond_pos h3]
    by_cases h4 : c > q.2.2.2.2.2.1
    · rw [O.cond_neg h1, O.cond_neg h2, O.cond_neg h3, O.cond_pos h4]
    by_cases h5 : wr < 0
    · rw [O.cond_neg h1, O.cond_neg h2, O.cond_neg h3, O.cond_neg h4, O.cond_pos h5]
    by_cases h6 : wr > 4294967295
    · rw [O.cond_neg h1, O.cond_neg h2, O.cond_neg h3, O.cond_neg h4, O.cond_neg h5, O.cond_pos h6]
    exfalso
    rcases hb with hb | hb
    · cases hb
    · exact hb (by omega)
theorem rDone_S (k : Nat) (id c wr : Int) (q : TQ) (b : List Int) (h : TR) (hb : h.1 = strOf b) (hl : OkL q.1 b.length) (bh : b.length ≤ 2048) (hbk : 0 ≤ q.2.2.1.1 ∧ q.2.2.1.1 < q.1.2.1) (ho : q.2.2.2.2.2.1 ≤ q.1.2.1) (hs : 0 ≤ q.2.2.2.2.1 ∧ q.2.2.2.2.1 ≤ 100000000) (hn : q.2.2.2.2.2.2 = false) (hi : 0 ≤ id ∧ id ≤ 65535) (hc : 1 ≤ c ∧ c ≤ q.2.2.2.2.2.1) (hw : 0 ≤ wr ∧ wr ≤ 4294967295) (hh : h.2.2.length ≤ 4000) (hk : 200 ≤ k) :
    O.sat (F_aqueductref14_Queue_Done.S k id c wr q h) fun r => r.1 = 0 ∧ r.2.1 = (q.1, q.2.1, nextSp q.2.2.1 c q.1.2.1, q.2.2.2.1, q.2.2.2.2.1 + c, q.2.2.2.2.2.1 - c, false) ∧ r.2.2.1 = strOf (doneB b (q.1.1 + 16 * q.2.2.1.1) wr id q.2.2.1.2) ∧ r.2.2.2.2.length ≤ h.2.2.length + 1 := by
  have hz : (h.1.size : Int) = b.length := by rw [hb, size_strOf]
  have ol := hl.lo; have oh := hl.hi; have or := hl.ring
  have hd := rdD_rng b (q.1.1 + 16 * q.2.2.1.1)
  have hd1 := hd.1
  have hu := usedF_in (decide (wr > 0)) q.2.2.1.2
  have hsz := dscB_size ((rdD b (q.1.1 + 16 * q.2.2.1.1)).1, wr, id, usedF (decide (wr > 0)) q.2.2.1.2)
  unfold F_aqueductref14_Queue_Done.S F_aqueductref14_Queue_Done.top
  rw [hn, O.cond_false, O.cond_neg (by omega), O.cond_neg (by omega), O.cond_neg (by omega), O.cond_neg (by omega), O.cond_neg (by omega), O.cond_neg (by omega), i64_in (16 * _) (by omega), i64_in (q.1.1 + _) (by omega), i64_in (q.1.1 + _ + 16) (by omega), O.chk_dec (by omega), hb]
  refine O.sat_eq (rAt_S k (by omega) _ _ (by omega)) ?_
  have d8 : (rdD b (q.1.1 + 16 * q.2.2.1.1)).1 < 18446744073709551616 := by
    unfold rdD descP
    have := bl_lo (strOf (sub b (q.1.1 + 16 * q.2.2.1.1) 16)) 8 8
    rw [show (256 : Int) ^ 8 = 18446744073709551616 from rfl] at this
    exact this.2
  have main : ∀ f : Int, f = (bif decide (wr > 0) then 2 else 0) → O.sat (F_aqueductref14_Queue_Done.j6 k id c wr q h (rdD b (q.1.1 + 16 * q.2.2.1.1), 0) f) fun r => r.1 = 0 ∧ r.2.1 = (q.1, q.2.1, nextSp q.2.2.1 c q.1.2.1, q.2.2.2.1, q.2.2.2.2.1 + c, q.2.2.2.2.2.1 - c, false) ∧ r.2.2.1 = strOf (doneB b (q.1.1 + 16 * q.2.2.1.1) wr id q.2.2.1.2) ∧ r.2.2.2.2.length ≤ h.2.2.length + 1 := by
    intro f hf
    unfold F_aqueductref14_Queue_Done.j6 F_aqueductref14_Queue_Done.j6_b
    rw [hf, rMarkU_S, O.bind_ok, u32_in wr (by omega), rBuild_S k (by omega) _ (by simp only; omega) (by simp only; omega), if_pos (by simp only; omega), O.bind_ok, i64_in (16 * _) (by omega), i64_in (q.1.1 + _) (by omega)]
    show O.sat (O.bind (F_aqueductref04_Memory_May.S k _ ((dscB ((rdD b (q.1.1 + 16 * q.2.2.1.1)).1, wr, id, usedF (decide (wr > 0)) q.2.2.1.2)).size : Int) h) _) _
    rw [rMay_S k _ _ _ (by omega), O.bind_ok, mayM_iff.2 (by rw [hsz]; omega), Bool.not_true, O.cond_false]
    refine O.sat_bind (note_sat k _ _ _ h hh) ?_
    rintro r9 ⟨n1, n2⟩
    have sz : (r9.1.size : Int) = b.length := by rw [n1, hz]
    rw [i64_in (q.1.1 + 16 * q.2.2.1.1 + _) (by rw [hsz]; omega), O.chk_dec (by omega), O.chk_dec (by rw [ext_size, hsz]; omega), O.chk_dec (by rw [hsz]; omega), O.chk_dec (by rw [app_size, ext_size, ext_size, hsz]; omega)]
    refine O.sat_twice ?_
    have e := rSpNext_S k q.2.2.1 c.toNat q.1.2.1 hbk oh (by omega) (by omega)
    rw [show ((c.toNat : Nat) : Int) = c by omega] at e
    refine O.sat_eq e (O.sat_ok ⟨rfl, ?_, ?_, n2⟩)
    · show (q.1, q.2.1, nextSp q.2.2.1 c q.1.2.1, q.2.2.2.1, IntKind.i64.wrap (q.2.2.2.2.1 + c), IntKind.i64.wrap (q.2.2.2.2.2.1 - c), q.2.2.2.2.2.2) = _
      rw [i64_in _ (by omega), i64_in _ (by omega), hn]
    · rw [← done_bytes b _ wr id _ (by omega)]
      show (((r9.1.extract 0 _) ++ _) ++ r9.1.extract _ r9.1.size) = _
      rw [n1, hb]
      exact strOf_put b _ _ (by rw [hsz]; omega)
  show O.sat (O.cond (decide (wr > 0)) (F_aqueductref14_Queue_Done.j6 k id c wr q h (rdD b (q.1.1 + 16 * q.2.2.1.1), 0) 2) (F_aqueductref14_Queue_Done.j6 k id c wr q h (rdD b (q.1.1 + 16 * q.2.2.1.1), 0) 0)) _
  by_cases h0 : wr > 0
  · rw [O.cond_pos h0]; exact main 2 (by rw [decide_eq_true h0]; rfl)
  · rw [O.cond_neg h0]; exact main 0 (by rw [decide_eq_false h0]; rfl)
end Go.Proofs.Ytjdhepioehfmhaa
