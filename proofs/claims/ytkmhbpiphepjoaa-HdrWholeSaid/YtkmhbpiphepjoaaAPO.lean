/- What Offload and Finish, and the document's, come to; sums that are left, and completed. -/
import Derived.Test.YtkmhbpiphepjoaaAPN
namespace Go.Proofs.Ytkmhbpiphepjoaa
open Go.Aq Go.IntWalk
set_option linter.unusedVariables false

/-! ### Sums and texts -/
theorem tot_append : ∀ (a b : List UInt8), a.length % 2 = 0 → tot (a ++ b) = tot a + tot b
  | [], b, _ => by simp [tot]
  | [x], b, h => by simp at h
  | x :: y :: r, b, h => by
    have := tot_append r b (by simp at h; omega)
    simp [tot, this]; omega
theorem tot_app (a b : ByteArray) (h : a.size % 2 = 0) : tot (a ++ b).data.toList = tot a.data.toList + tot b.data.toList := by
  rw [app_list]; exact tot_append _ _ (by rw [← size_list]; exact h)
theorem tot_putT2 (n : Int) (h : 0 ≤ n ∧ n ≤ 65535) : tot (putT n 2).data.toList = n := by
  have e : (putT n 2).data.toList = [UInt8.ofNat (n / 256 ^ 1 % 256).toNat, UInt8.ofNat (n / 256 ^ 0 % 256).toNat] := rfl
  rw [e, show (256 : Int) ^ 1 = 256 from rfl, show (256 : Int) ^ 0 = 1 from rfl]
  simp only [tot, UInt8.toNat_ofNat']
  omega
theorem tot_set2 (s : ByteArray) (i : Nat) (n : Int) (hi : i % 2 = 0) (h : i + 2 ≤ s.size) (hn : 0 ≤ n ∧ n ≤ 65535) : tot (set2 s i n).data.toList = tot (set2 s i 0).data.toList + n := by
  have hz : (s.extract 0 i).size = i := by rw [ext_size]; omega
  have key : ∀ m : Int, 0 ≤ m ∧ m ≤ 65535 → tot (set2 s i m).data.toList = tot (s.extract 0 i).data.toList + m + tot (s.extract (i + 2) s.size).data.toList := by
    intro m hm
    unfold set2
    rw [tot_app _ _ (by rw [app_size, hz, putT_size]; omega), tot_app _ _ (by rw [hz]; exact hi), tot_putT2 m hm]
  rw [key n hn, key 0 (by omega)]; omega
theorem bt_putT (n : Int) (h : 0 ≤ n ∧ n ≤ 65535) : bt (putT n 2) ((0 : Nat) : Int) = n / 256 ∧ bt (putT n 2) ((1 : Nat) : Int) = n % 256 := by
  unfold putT
  rw [bt_strOf _ (wb_range n 2), bt_strOf _ (wb_range n 2)]
  constructor
  · show n / 256 ^ 1 % 256 = _; rw [show (256 : Int) ^ 1 = 256 from rfl]; omega
  · show n / 256 ^ 0 % 256 = _; rw [show (256 : Int) ^ 0 = 1 from rfl]; omega
theorem bt_set2 (s : ByteArray) (i : Nat) (n : Int) (h : i + 2 ≤ s.size) (j : Nat) (hj : j < s.size) : bt (set2 s i n) (j : Int) = if j < i then bt s (j : Int) else if j < i + 2 then bt (putT n 2) ((j - i : Nat) : Int) else bt s (j : Int) := by
  have hz : (s.extract 0 i).size = i := by rw [ext_size]; omega
  unfold set2
  rw [bt_app, app_size, hz, putT_size]
  split
  · rw [bt_app, hz]
    split
    · rw [bt_ext s 0 i j (by omega), Nat.zero_add]
    · rfl
  · rw [if_neg (by omega), bt_ext s (i + 2) s.size _ (by omega)]
    congr 2; omega
theorem set2_ext (s : ByteArray) (a i : Nat) (n : Int) (h : a + i + 2 ≤ s.size) : (set2 s (a + i) n).extract a s.size = set2 (s.extract a s.size) i n := by
  have z1 : (s.extract a s.size).size = s.size - a := by rw [ext_size]; omega
  have z2 := set2_size s (a + i) n h
  apply bt_eq
  · rw [ext_size, z2, set2_size _ _ _ (by rw [z1]; omega), z1]; omega
  · intro j hj
    rw [ext_size, z2] at hj
    rw [bt_ext _ a s.size j (by omega), bt_set2 s (a + i) n h _ (by omega), bt_set2 _ i n (by rw [z1]; omega) j (by rw [z1]; omega), bt_ext s a s.size j (by omega)]
    by_cases c1 : j < i
    · rw [if_pos (by omega), if_pos c1]
    · rw [if_neg (by omega), if_neg c1]
      by_cases c2 : j < i + 2
      · rw [if_pos (by omega), if_pos c2]; congr 2; omega
      · rw [if_neg (by omega), if_neg c2]
theorem set2_set2 (s : ByteArray) (i : Nat) (m n : Int) (h : i + 2 ≤ s.size) : set2 (set2 s i m) i n = set2 s i n := by
  have z := set2_size s i m h
  apply bt_eq
  · rw [set2_size _ _ _ (by rw [z]; exact h), z, set2_size _ _ _ h]
  · intro j hj
    rw [set2_size _ _ _ (by rw [z]; exact h), z] at hj
    rw [bt_set2 _ i n (by rw [z]; exact h) j (by rw [z]; exact hj), bt_set2 s i n h j hj, bt_set2 s i m h j hj]
    by_cases c1 : j < i
    · simp only [c1, if_true]
    · by_cases c2 : j < i + 2
      · simp only [c1, c2, if_true, if_false]
      · simp only [c1, c2, if_false]
theorem set2_self (s : ByteArray) (i : Nat) (h : i + 2 ≤ s.size) : set2 s i (be s i 2) = s := by
  have b := be2_lo s i
  have a1 := bt_lo s (i : Int); have a2 := bt_hi s (i : Int); have a3 := bt_lo s ((i + 1 : Nat) : Int); have a4 := bt_hi s ((i + 1 : Nat) : Int)
  obtain ⟨p0, p1⟩ := bt_putT (be s i 2) b
  rw [be2] at p0 p1
  apply bt_eq
  · exact set2_size _ _ _ h
  · intro j hj
    rw [set2_size _ _ _ h] at hj
    rw [bt_set2 s i _ h j hj]
    split
    · rfl
    · split
      · by_cases e : j = i
        · subst e; rw [Nat.sub_self, be2, p0]; omega
        · rw [show j - i = 1 from by omega, be2, p1, show j = i + 1 from by omega]; omega
      · rfl

/-! ### What is taken apart -/
theorem ethP_ok (s : ByteArray) (h : (ethP s).2 = 0) : s.size ≤ 1518 ∧ ∃ m, m ≤ s.size ∧ (m = 14 ∨ m = 18) ∧ (ethP s).1.2.2.2.2.2 = s.extract m s.size := by
  unfold ethP at h ⊢
  split at h
  · cases h
  · split at h
    · cases h
    · rename_i c1 c2
      rw [if_neg c1, if_neg c2]
      split at h
      · split at h
        · cases h
        · split at h
          · cases h
          · rename_i c3 c4 c5
            rw [if_pos c3, if_neg c4, if_neg c5]
            exact ⟨by omega, 18, by omega, .inr rfl, rfl⟩
      · split at h
        · cases h
        · rename_i c3 c4
          rw [if_neg c3, if_neg c4]
          exact ⟨by omega, 14, by omega, .inl rfl, rfl⟩
theorem ethP_body (s : ByteArray) : (ethP s).1.2.2.2.2.2.size ≤ 1518 := by
  by_cases h : (ethP s).2 = 0
  · obtain ⟨h1, m, _, _, e⟩ := ethP_ok s h
    rw [e, ext_size]; omega
  · unfold ethP at h ⊢
    repeat' (split at h <;> try (split))
    all_goals first | (show (0 : Nat) ≤ _; omega) | (exact absurd rfl h) | omega | contradiction
theorem ipP_ok (s : ByteArray) (h : (ipP s).2 = 0) : ((ipP s).1.1 = 4 ∨ (ipP s).1.1 = 6) ∧ (0 ≤ (ipP s).1.2.2.2.1 ∧ (ipP s).1.2.2.2.1 ≤ 255) ∧ ∃ m, m ≤ s.size ∧ bod (ipP s).1 = s.extract m s.size := by
  have hf : ∀ x : Int ⊕ IpT, (sumP x).2 = 0 → x ≠ .inl 0 → ∃ p, x = .inr p ∧ (sumP x).1 = p := by
    intro x hx hn
    cases x with
    | inl e => exact absurd (congrArg Sum.inl (show e = 0 from hx)) hn
    | inr p => exact ⟨p, rfl, rfl⟩
  unfold ipP at h ⊢
  split at h
  · cases h
  · rename_i c1
    rw [if_neg c1]
    split at h
    · rename_i c2
      rw [if_pos c2]
      obtain ⟨p, hp, e⟩ := hf _ h (by unfold fourP; repeat' split
                                      all_goals simp)
      rw [e]
      unfold fourP at hp
      repeat' (split at hp)
      all_goals first | cases hp | skip
      have c := ihl_eq s; have b1 := bt_lo s 9; have b2 := bt_hi s 9
      exact ⟨.inl rfl, ⟨b1, b2⟩, ihl s, by omega, rfl⟩
    · rename_i c2
      rw [if_neg c2]
      split at h
      · rename_i c3
        rw [if_pos c3]
        obtain ⟨p, hp, e⟩ := hf _ h (by unfold sixP; repeat' split
                                        all_goals simp)
        rw [e]
        unfold sixP at hp
        repeat' (split at hp)
        all_goals first | cases hp | skip
        have b1 := bt_lo s 6; have b2 := bt_hi s 6
        exact ⟨.inr rfl, ⟨b1, b2⟩, 40, by omega, rfl⟩
      · cases h
theorem ipP_body (s : ByteArray) : (bod (ipP s).1).size ≤ s.size := by
  by_cases h : (ipP s).2 = 0
  · obtain ⟨_, _, m, _, e⟩ := ipP_ok s h
    rw [e, ext_size]; omega
  · have e : (ipP s).1 = ip0 := by
      unfold ipP at h ⊢
      split at h
      · rename_i c; rw [if_pos c]
      · rename_i c; rw [if_neg c]
        split at h
        · rename_i c; rw [if_pos c]
          cases hx : fourP s with
          | inl e => rfl
          | inr p => rw [hx] at h; exact absurd rfl h
        · rename_i c; rw [if_neg c]
          split at h
          · rename_i c; rw [if_pos c]
            cases hx : sixP s with
            | inl e => rfl
            | inr p => rw [hx] at h; exact absurd rfl h
          · rename_i c; rw [if_neg c]
    rw [e]; show (0 : Nat) ≤ _; omega
theorem segP_ok (p : IpT) (h : (segP p).2 = 0) : carP p ∧ segQ p = .inr (segP p).1 ∧ ((segP p).1.2.2.2.2.2.2.2.2.2 = false → be (bod p) (plc p) 2 = ssum p (bod p)) := by
  unfold segP at h ⊢
  split at h
  · cases h
  · rename_i c
    have c' : carP p := Decidable.not_not.1 c
    rw [if_neg c]
    cases hq : segQ p with
    | inl e =>
      rw [hq] at h
      exfalso
      have : e = 0 := h
      subst this
      unfold segQ tcpP udpP at hq
      repeat' (split at hq)
      all_goals simp at hq
    | inr g =>
      rw [hq] at h
      dsimp only at h ⊢
      split at h
      · cases h
      · rename_i d
        rw [if_neg d]
        exact ⟨c', rfl, fun hn => Decidable.by_contra fun hne => d ⟨hn, hne⟩⟩
/-- What is parsed may be built. -/
theorem segOk_of (p : IpT) (g : SegT) (c : carP p) (hg : segQ p = .inr g) (hb : (bod p).size ≤ 60000) : segOk p g ∧ (0 ≤ g.2.2.1 ∧ g.2.2.1 ≤ 4294967295) ∧ (0 ≤ g.2.2.2.1 ∧ g.2.2.2.1 ≤ 4294967295) ∧ (sbod g).size ≤ 60000 ∧ (opts g).size ≤ 40 ∧
    (g.1 ≤ 65535 ∧ g.2.1 ≤ 65535 ∧ g.2.2.2.2.1 ≤ 65535 ∧ g.2.2.2.2.2.1 ≤ 65535 ∧ g.2.2.2.2.2.2.1 ≤ 65535) := by
  have u2 : ∀ i, inU 2 (be (bod p) i 2) := fun i => be_lo (bod p) i 2
  have v2 : ∀ i, be (bod p) i 2 ≤ 65535 := fun i => (be2_lo (bod p) i).2
  unfold segOk
  unfold segQ at hg
  split at hg
  · rename_i c6
    rw [if_neg (by omega)]
    unfold tcpP at hg
    repeat' (split at hg)
    all_goals first | cases hg | skip
    have e := thl_eq (bod p)
    have t1 := bt_lo (bod p) 13; have t2 := bt_hi (bod p) 13
    have so : (opts (be (bod p) 0 2, be (bod p) 2 2, be (bod p) 4 4, be (bod p) 8 4, bt (bod p) 13, be (bod p) 14 2, be (bod p) 18 2, (bod p).extract 20 (thl (bod p)), (bod p).extract (thl (bod p)) (bod p).size, false)).size = thl (bod p) - 20 := by
      unfold opts; rw [ext_size]; omega
    have sb : (sbod (be (bod p) 0 2, be (bod p) 2 2, be (bod p) 4 4, be (bod p) 8 4, bt (bod p) 13, be (bod p) 14 2, be (bod p) 18 2, (bod p).extract 20 (thl (bod p)), (bod p).extract (thl (bod p)) (bod p).size, false)).size = (bod p).size - thl (bod p) := by
      unfold sbod; rw [ext_size]; omega
    rw [so, sb]
    exact ⟨⟨c, u2 0, u2 2, rfl, by omega, by omega, by omega, ⟨t1, by rw [show (256 : Int) ^ 1 = 256 from rfl]; show bt (bod p) 13 < 256; omega⟩, u2 14, u2 18⟩, be4_lo _ 4, be4_lo _ 8, by omega, by omega, v2 0, v2 2, by show bt (bod p) 13 ≤ 65535; omega, v2 14, v2 18⟩
  · rename_i c6
    have c17 : p.2.2.2.1 = 17 := by unfold carP at c; omega
    rw [if_pos c17]
    unfold udpP at hg
    repeat' (split at hg)
    all_goals first | cases hg | skip
    have sb : (sbod (be (bod p) 0 2, be (bod p) 2 2, (0 : Int), (0 : Int), (0 : Int), (0 : Int), (0 : Int), ByteArray.empty, (bod p).extract 8 (bod p).size, decide (be (bod p) 6 2 = 0 ∧ p.1 = 4))).size = (bod p).size - 8 := by
      unfold sbod; rw [ext_size]; omega
    rw [sb]
    exact ⟨⟨c, u2 0, u2 2, rfl, rfl, rfl, rfl, rfl, rfl, fun h => by have := of_decide_eq_true h.1; have := h.2; omega, by omega⟩, ⟨Int.le_refl 0, by show (0 : Int) ≤ 4294967295; omega⟩, ⟨Int.le_refl 0, by show (0 : Int) ≤ 4294967295; omega⟩, by omega, (by show (0 : Nat) ≤ 40; omega), v2 0, v2 2, by show (0 : Int) ≤ 65535; omega, by show (0 : Int) ≤ 65535; omega, by show (0 : Int) ≤ 65535; omega⟩
end Go.Proofs.Ytkmhbpiphepjoaa
