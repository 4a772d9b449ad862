/- What the functions of nethdr, and the document's, come to. -/
import Derived.Test.YtkmhbpiphepjoaaAPR8
import Derived.Test.YtkmhbpiphepjoaaAPB
namespace Go.Proofs.Ytkmhbpiphepjoaa
open Go.Aq Go.IntWalk
set_option linter.unusedVariables false
abbrev HdrT := Int × Int × Int × Int × Int × Int × Int
abbrev hdr0 : HdrT := (0, 0, 0, 0, 0, 0, 0)
theorem bl1 (s : ByteArray) (i : Nat) : bl s (i + 1) 1 = bt s (i : Int) := by simp [bl]
theorem bl2 (s : ByteArray) (i : Nat) : bl s (i + 2) 2 = bt s ((i + 1 : Nat) : Int) * 256 + bt s (i : Int) := by
  unfold bl bl bl
  rw [show i + 2 - 1 - 0 = i + 1 from by omega, show i + 2 - 1 - 1 = i from by omega, Int.zero_mul, Int.zero_add]
theorem bl2_lo (s : ByteArray) (e : Nat) : 0 ≤ bl s e 2 ∧ bl s e 2 ≤ 65535 := by
  have := bl_lo s e 2; rw [show (256 : Int) ^ 2 = 65536 from rfl] at this; omega
/-- A header, taken apart. -/
def hdrP (s : ByteArray) : HdrT × ByteArray × Int :=
  if s.size < 12 then (hdr0, ⟨#[]⟩, 100)
  else if bt s 0 > 3 then (hdr0, ⟨#[]⟩, 101)
  else ((bt s 0, bt s 1, bl s 4 2, bl s 6 2, bl s 8 2, bl s 10 2, bl s 12 2), s.extract 12 s.size, 0)
section
variable (k : Nat) (hk : 9 ≤ k) (s : ByteArray) (hs : s.size ≤ 140737488351232)
include hk hs
theorem getl1 (i : Nat) (hi : i + 1 ≤ s.size) (hi' : i ≤ 100) : F_words_Get.S k s (i : Int) (1 : Int) false = .ok (bt s (i : Int), 0) := by
  have := GetL_S k hk s hs i 1 (by omega) (by omega)
  rw [if_pos hi, bl1] at this; exact this
theorem getl2 (i : Nat) (hi : i + 2 ≤ s.size) (hi' : i ≤ 100) : F_words_Get.S k s (i : Int) (2 : Int) false = .ok (bl s (i + 2) 2, 0) := by
  have := GetL_S k hk s hs i 2 (by omega) (by omega)
  rw [if_pos hi] at this; exact this
theorem hdrParse_S : F_nethdr_Parse.S k s = .ok (hdrP s) := by
  have l1 := bl2_lo s 4; have l2 := bl2_lo s 6; have l3 := bl2_lo s 8; have l4 := bl2_lo s 10; have l5 := bl2_lo s 12
  apply O.sat_val
  unfold F_nethdr_Parse.S
  refine O.sat_cond (fun h => O.sat_ok (by unfold hdrP; rw [if_pos (by omega)])) fun h1 => ?_
  refine O.sat_eq (getl1 k hk s hs 0 (by omega) (by omega)) ?_
  refine O.sat_eq (getl1 k hk s hs 1 (by omega) (by omega)) ?_
  refine O.sat_eq (getl2 k hk s hs 2 (by omega) (by omega)) ?_
  refine O.sat_eq (getl2 k hk s hs 4 (by omega) (by omega)) ?_
  refine O.sat_eq (getl2 k hk s hs 6 (by omega) (by omega)) ?_
  refine O.sat_eq (getl2 k hk s hs 8 (by omega) (by omega)) ?_
  refine O.sat_eq (getl2 k hk s hs 10 (by omega) (by omega)) ?_
  simp only [i64_bt, Nat.reduceAdd]
  rw [i64_in (bl s 4 2) (by omega), i64_in (bl s 6 2) (by omega), i64_in (bl s 8 2) (by omega), i64_in (bl s 10 2) (by omega), i64_in (bl s 12 2) (by omega)]
  refine O.sat_cond (fun h => O.sat_ok (by unfold hdrP; rw [if_neg (by omega), if_pos (by exact h)])) fun h2 => ?_
  refine O.sat_chk (by omega) (O.sat_ok ?_)
  unfold hdrP; rw [if_neg (by omega), if_neg (by exact h2)]; rfl
theorem rnum10 (i : Nat) (hi : i + 2 ≤ s.size) (hi' : i ≤ 100) : F_aqueductref10_num.S k s (i : Int) = .ok (bl s (i + 2) 2) := by
  have _ := hk; have _ := hs
  unfold F_aqueductref10_num.S
  have a1 := bt_lo s (i : Int); have a2 := bt_hi s (i : Int); have a3 := bt_lo s ((i + 1 : Nat) : Int); have a4 := bt_hi s ((i + 1 : Nat) : Int)
  have e : IntKind.i64.wrap ((i : Int) + 1) = ((i + 1 : Nat) : Int) := by rw [i64_in _ (by omega)]; push_cast; rfl
  rw [e, O.chk_dec (by omega), O.chk_dec (by omega), i64_bt, i64_bt, i64_in (256 * _) (by omega), i64_in _ (by omega), bl2]
  congr 1; omega
theorem rhdrParse_S : F_aqueductref10_Parse.S k s = .ok (hdrP s) := by
  apply O.sat_val
  unfold F_aqueductref10_Parse.S
  refine O.sat_cond (fun h => O.sat_ok (by unfold hdrP; rw [if_pos (by omega)])) fun h1 => ?_
  refine O.sat_chk (by omega) ?_
  refine O.sat_cond (fun h => O.sat_ok (by unfold hdrP; rw [if_neg (by omega), if_pos (by exact h)])) fun h2 => ?_
  repeat refine O.sat_chk (by omega) ?_
  refine O.sat_eq (rnum10 k hk s hs 2 (by omega) (by omega)) ?_
  refine O.sat_eq (rnum10 k hk s hs 4 (by omega) (by omega)) ?_
  refine O.sat_eq (rnum10 k hk s hs 6 (by omega) (by omega)) ?_
  refine O.sat_eq (rnum10 k hk s hs 8 (by omega) (by omega)) ?_
  refine O.sat_eq (rnum10 k hk s hs 10 (by omega) (by omega)) ?_
  simp only [i64_bt]
  refine O.sat_ok ?_
  unfold hdrP; rw [if_neg (by omega), if_neg (by exact h2)]
end
/-- Numbers of two bytes, the lowest first, behind others. -/
noncomputable def finB : List Int → Bool → ByteArray → ByteArray × Int
  | [], ok, t => if ok then (t, 0) else (⟨#[]⟩, 101)
  | x :: r, ok, t => if 0 ≤ x ∧ x ≤ 65535 then finB r ok (t ++ revT (putT x 2)) else finB r false t
theorem finB_cons (x : Int) (r : List Int) (ok : Bool) (t : ByteArray) : finB (x :: r) ok t = if 0 ≤ x ∧ x ≤ 65535 then finB r ok (t ++ revT (putT x 2)) else finB r false t := rfl
theorem finB_false : ∀ (L : List Int) (t : ByteArray), finB L false t = (⟨#[]⟩, 101)
  | [], t => rfl
  | x :: r, t => by rw [finB_cons]; split <;> exact finB_false r _
noncomputable def hdrB (h : HdrT) : ByteArray × Int :=
  if 0 ≤ h.1 ∧ h.1 ≤ 3 ∧ 0 ≤ h.2.1 ∧ h.2.1 ≤ 255 then finB [h.2.2.1, h.2.2.2.1, h.2.2.2.2.1, h.2.2.2.2.2.1, h.2.2.2.2.2.2] true (strOf [h.1, h.2.1]) else (⟨#[]⟩, 101)
theorem putL (k : Nat) (hk : 9 ≤ k) (v : Int) (n : Nat) (hn : 1 ≤ n ∧ n ≤ 7) (hv : -2 ^ 63 ≤ v ∧ v < 2 ^ 63) :
    F_words_Put.S k (IntKind.u64.wrap v) (n : Int) false = .ok (if 0 ≤ v ∧ v < 256 ^ n then (revT (putT v n), 0) else (⟨#[]⟩, 1)) := by
  have hp := pow_le8 n hn.2
  by_cases h0 : 0 ≤ v
  · rw [u64_in v (by omega), Put_S k hk v n (by omega) ⟨hn.1, by omega⟩]
    by_cases hl : v < 256 ^ n
    · rw [if_pos hl, if_neg (by decide : ¬ false = true), if_pos (⟨h0, hl⟩ : 0 ≤ v ∧ v < 256 ^ n)]
    · rw [if_neg hl, if_neg (fun c : 0 ≤ v ∧ v < 256 ^ n => hl c.2)]
  · have e : IntKind.u64.wrap v = v + 2 ^ 64 := by simp [IntKind.wrap, IntKind.bits, IntKind.signed]; omega
    rw [e, Put_S k hk (v + 2 ^ 64) n (by omega) ⟨hn.1, by omega⟩, if_neg (by omega), if_neg (by omega)]
theorem revT_one (x : Int) : revT (strOf [x]) = strOf [x] := rfl
theorem hdrBuild_S (k : Nat) (hk : 9 ≤ k) (h : HdrT) (w1 : -2 ^ 63 ≤ h.1 ∧ h.1 < 2 ^ 63) (w2 : -2 ^ 63 ≤ h.2.1 ∧ h.2.1 < 2 ^ 63) (w3 : -2 ^ 63 ≤ h.2.2.1 ∧ h.2.2.1 < 2 ^ 63) (w4 : -2 ^ 63 ≤ h.2.2.2.1 ∧ h.2.2.2.1 < 2 ^ 63)
    (w5 : -2 ^ 63 ≤ h.2.2.2.2.1 ∧ h.2.2.2.2.1 < 2 ^ 63) (w6 : -2 ^ 63 ≤ h.2.2.2.2.2.1 ∧ h.2.2.2.2.2.1 < 2 ^ 63) (w7 : -2 ^ 63 ≤ h.2.2.2.2.2.2 ∧ h.2.2.2.2.2.2 < 2 ^ 63) : F_nethdr_Build.S k h = .ok (hdrB h) := by
  have lp : ∀ (m i j : Nat), i + m = 5 → m < j → ∀ (t : ByteArray) (ok : Bool), t.size ≤ 2 + 2 * i →
      F_nethdr_Build.l0 k h j (i : Int) t ok = .ok (finB ([h.2.2.1, h.2.2.2.1, h.2.2.2.2.1, h.2.2.2.2.2.1, h.2.2.2.2.2.2].drop i) ok t) := by
    intro m
    induction m with
    | zero =>
      intro i j hi hj t ok ht
      obtain ⟨j, rfl⟩ : ∃ i, j = i + 1 := ⟨j - 1, by omega⟩
      obtain rfl : i = 5 := by omega
      show F_nethdr_Build.l0_b k h _ _ _ _ = _
      unfold F_nethdr_Build.l0_b
      rw [O.cond_neg (by omega)]
      cases ok
      · show O.cond true _ _ = _; rw [O.cond_true]; rfl
      · show O.cond false _ _ = _; rw [O.cond_false]; rfl
    | succ m ih =>
      intro i j hi hj t ok ht
      obtain ⟨j, rfl⟩ : ∃ i, j = i + 1 := ⟨j - 1, by omega⟩
      show F_nethdr_Build.l0_b k h _ _ _ _ = _
      unfold F_nethdr_Build.l0_b
      have hlen : [h.2.2.1, h.2.2.2.1, h.2.2.2.2.1, h.2.2.2.2.2.1, h.2.2.2.2.2.2].length = 5 := rfl
      generalize hL : [h.2.2.1, h.2.2.2.1, h.2.2.2.2.1, h.2.2.2.2.2.1, h.2.2.2.2.2.2] = L at hlen ih ⊢
      have hx : -2 ^ 63 ≤ L.getD i 0 ∧ L.getD i 0 < 2 ^ 63 := by
        rw [← hL]
        match i, hi with
        | 0, _ => exact w3
        | 1, _ => exact w4
        | 2, _ => exact w5
        | 3, _ => exact w6
        | 4, _ => exact w7
        | i + 5, hi => exact absurd hi (by omega)
      have hdr : L.drop i = L.getD i 0 :: L.drop (i + 1) := by
        rw [List.getD_eq_getElem?_getD, List.getElem?_eq_getElem (by omega : i < L.length), List.drop_eq_getElem_cons (by omega : i < L.length)]; rfl
      have eg : gt (0 : Int) L (i : Int) = L.getD i 0 := by unfold gt; rw [Int.toNat_natCast]
      have hp := putL k hk (L.getD i 0) 2 (by omega) hx
      rw [show (((2 : Nat)) : Int) = 2 from rfl] at hp
      rw [O.cond_pos (by omega), O.chk_dec (by rw [hlen]; omega), O.chk_dec (by rw [hlen]; omega), eg, hp, O.bind_ok, i64_in _ (by omega), hdr]
      have hsz : ∀ c : Prop, [Decidable c] → (if c then (revT (putT (L.getD i 0) 2), (0 : Int)) else (⟨#[]⟩, 1)).1.size ≤ 2 := by
        intro c _
        split
        · show (revT (putT _ 2)).size ≤ 2; rw [revT_size, putT_size]; omega
        · show (0 : Nat) ≤ 2; omega
      have hz := hsz (0 ≤ L.getD i 0 ∧ L.getD i 0 < 256 ^ 2)
      have go : ∀ (b : Bool), (b = true → 0 ≤ L.getD i 0 ∧ L.getD i 0 < 256 ^ 2) → (0 ≤ L.getD i 0 ∧ L.getD i 0 < 256 ^ 2 → b = ok) →
          F_nethdr_Build.l0 k h j ((i : Int) + 1) (t ++ (if 0 ≤ L.getD i 0 ∧ L.getD i 0 < 256 ^ 2 then (revT (putT (L.getD i 0) 2), (0 : Int)) else (⟨#[]⟩, 1)).1) b = .ok (finB (L.getD i 0 :: L.drop (i + 1)) ok t) := by
        intro b hb1 hb2
        have h1 := ih (i + 1) j (by omega) (by omega) (t ++ (if 0 ≤ L.getD i 0 ∧ L.getD i 0 < 256 ^ 2 then (revT (putT (L.getD i 0) 2), (0 : Int)) else (⟨#[]⟩, 1)).1) b (by rw [app_size]; omega)
        rw [show (((i + 1 : Nat)) : Int) = (i : Int) + 1 from by push_cast; rfl] at h1
        rw [h1, finB_cons]
        by_cases c : 0 ≤ L.getD i 0 ∧ L.getD i 0 < 256 ^ 2
        · rw [if_pos c, if_pos (by rw [show (256 : Int) ^ 2 = 65536 from rfl] at c; omega), hb2 c]
        · have : b = false := by cases b with
            | false => rfl
            | true => exact (c (hb1 rfl)).elim
          rw [this, finB_false, if_neg (by rw [show (256 : Int) ^ 2 = 65536 from rfl] at c; omega), finB_false]
      cases ok
      · rw [O.cond_false, O.chk_dec (by omega)]
        exact go false (fun h => by cases h) (fun _ => rfl)
      · rw [O.cond_true]
        by_cases c0 : L.getD i 0 ≥ 0
        · rw [O.cond_pos c0, O.chk_dec (by omega)]
          by_cases c : 0 ≤ L.getD i 0 ∧ L.getD i 0 < 256 ^ 2
          · have e : decide ((if 0 ≤ L.getD i 0 ∧ L.getD i 0 < 256 ^ 2 then (revT (putT (L.getD i 0) 2), (0 : Int)) else (⟨#[]⟩, 1)).2 = 0) = true := by rw [if_pos c]; rfl
            rw [e]
            exact go true (fun _ => c) (fun _ => rfl)
          · have e : decide ((if 0 ≤ L.getD i 0 ∧ L.getD i 0 < 256 ^ 2 then (revT (putT (L.getD i 0) 2), (0 : Int)) else (⟨#[]⟩, 1)).2 = 0) = false := by rw [if_neg c]; rfl
            rw [e]
            exact go false (fun h => by cases h) (fun h => (c h).elim)
        · rw [O.cond_neg c0, O.chk_dec (by omega)]
          exact go false (fun h => by cases h) (fun h => (c0 h.1).elim)
  have fin : ∀ (t : ByteArray) (ok : Bool), t.size ≤ 2 → F_nethdr_Build.l0 k h k 0 t ok = .ok (finB [h.2.2.1, h.2.2.2.1, h.2.2.2.2.1, h.2.2.2.2.2.1, h.2.2.2.2.2.2] ok t) := fun t ok ht => lp 5 0 k (by omega) (by omega) t ok (by omega)
  have p1 := putL k hk h.1 1 (by omega) w1
  have p2 := putL k hk h.2.1 1 (by omega) w2
  rw [show (((1 : Nat)) : Int) = 1 from rfl] at p1 p2
  have z1 : ∀ v : Int, (if 0 ≤ v ∧ v < 256 ^ 1 then (revT (putT v 1), (0 : Int)) else (⟨#[]⟩, 1)).1.size ≤ 1 := by
    intro v
    split
    · show (revT (putT _ 1)).size ≤ 1; rw [revT_size, putT_size]; omega
    · show (0 : Nat) ≤ 1; omega
  have y1 := z1 h.1; have y2 := z1 h.2.1
  have zz : (⟨#[]⟩ : ByteArray).size = 0 := rfl
  have bad : ∀ t, t.size ≤ 2 → ¬ (0 ≤ h.1 ∧ h.1 ≤ 3 ∧ 0 ≤ h.2.1 ∧ h.2.1 ≤ 255) → O.sat (F_nethdr_Build.l0 k h k 0 t false) fun r => r = hdrB h := by
    intro t ht hc
    rw [fin t false ht, finB_false]
    exact O.sat_ok (by unfold hdrB; rw [if_neg hc])
  apply O.sat_val
  unfold F_nethdr_Build.S F_nethdr_Build.top
  rw [p1, p2]
  simp only [O.twice_eq, O.bind_ok, O.cond_false]
  have sz2 : ((⟨#[]⟩ : ByteArray) ++ (if 0 ≤ h.1 ∧ h.1 < 256 ^ 1 then (revT (putT h.1 1), (0 : Int)) else (⟨#[]⟩, 1)).1 ++ (if 0 ≤ h.2.1 ∧ h.2.1 < 256 ^ 1 then (revT (putT h.2.1 1), (0 : Int)) else (⟨#[]⟩, 1)).1).size ≤ 2 := by
    rw [app_size, app_size]; omega
  refine O.sat_cond (fun a1 => ?_) fun a1 => ?_
  · refine O.sat_cond (fun a2 => ?_) fun a2 => ?_
    · refine O.sat_chk (by omega) ?_
      have c1 : 0 ≤ h.1 ∧ h.1 < 256 ^ 1 := ⟨a2, by rw [show (256 : Int) ^ 1 = 256 from rfl]; omega⟩
      refine O.sat_cond (fun a3 => ?_) fun a3 => (a3 (by rw [if_pos c1])).elim
      refine O.sat_cond (fun a4 => ?_) fun a4 => O.sat_chk (by rw [app_size]; omega) (bad _ sz2 (by omega))
      refine O.sat_chk (by rw [app_size]; omega) ?_
      by_cases c2 : 0 ≤ h.2.1 ∧ h.2.1 < 256 ^ 1
      · have c2' : h.2.1 ≤ 255 := by have := c2.2; rw [show (256 : Int) ^ 1 = 256 from rfl] at this; omega
        rw [fin _ _ sz2, if_pos c1, if_pos c2]
        refine O.sat_ok ?_
        unfold hdrB
        rw [if_pos (by omega)]
        have e : ∀ v : Int, 0 ≤ v → v ≤ 255 → revT (putT v 1) = strOf [v] := by
          intro v v0 v1
          unfold putT
          rw [show wb v 1 = [v / 256 ^ 0 % 256] from rfl, revT_one]
          congr 2
          rw [show (256 : Int) ^ 0 = 1 from rfl]; omega
        rw [e _ a2 (by omega), e _ a4 c2', show strOf [h.1, h.2.1] = (⟨#[]⟩ : ByteArray) ++ strOf [h.1] ++ strOf [h.2.1] from rfl]
        rfl
      · have e : decide ((if 0 ≤ h.2.1 ∧ h.2.1 < 256 ^ 1 then (revT (putT h.2.1 1), (0 : Int)) else (⟨#[]⟩, 1)).2 = 0) = false := by rw [if_neg c2]; rfl
        rw [e]
        exact bad _ sz2 (by rw [show (256 : Int) ^ 1 = 256 from rfl] at c2; omega)
    · exact O.sat_chk (by omega) (O.sat_chk (by rw [app_size]; omega) (bad _ sz2 (by omega)))
  · exact O.sat_chk (by omega) (O.sat_chk (by rw [app_size]; omega) (bad _ sz2 (by omega)))
theorem low2 (x : Int) (h : 0 ≤ x ∧ x ≤ 65535) : strOf [IntKind.u8.wrap (Int.tmod x 256), IntKind.u8.wrap (IntKind.i64.wrap (Int.tdiv x 256))] = revT (putT x 2) := by
  rw [rem_in _ _ h.1, quo_in _ _ h.1, i64_in (x / 256) (by omega), u8_in (x % 256) (by omega), u8_in (x / 256) (by omega)]
  unfold putT
  rw [show wb x 2 = [x / 256 ^ 1 % 256, x / 256 ^ 0 % 256] from rfl, show (256 : Int) ^ 1 = 256 from rfl, show (256 : Int) ^ 0 = 1 from rfl, Int.ediv_one, Int.emod_eq_of_lt (by omega) (by omega : x / 256 < 256)]
  rfl
theorem rhdrBuild_S (k : Nat) (hk : 9 ≤ k) (h : HdrT) : F_aqueductref10_Build.S k h = .ok (hdrB h) := by
  have lp : ∀ (m i j : Nat), i + m = 5 → m < j → ∀ (t : ByteArray), t.size ≤ 2 + 2 * i →
      F_aqueductref10_Build.l0 k h j t (i : Int) = .ok (finB ([h.2.2.1, h.2.2.2.1, h.2.2.2.2.1, h.2.2.2.2.2.1, h.2.2.2.2.2.2].drop i) true t) := by
    intro m
    induction m with
    | zero =>
      intro i j hi hj t ht
      obtain ⟨j, rfl⟩ : ∃ i, j = i + 1 := ⟨j - 1, by omega⟩
      obtain rfl : i = 5 := by omega
      show F_aqueductref10_Build.l0_b k h _ _ _ = _
      unfold F_aqueductref10_Build.l0_b
      rw [O.cond_neg (by omega)]
      rfl
    | succ m ih =>
      intro i j hi hj t ht
      obtain ⟨j, rfl⟩ : ∃ i, j = i + 1 := ⟨j - 1, by omega⟩
      show F_aqueductref10_Build.l0_b k h _ _ _ = _
      unfold F_aqueductref10_Build.l0_b
      have hlen : [h.2.2.1, h.2.2.2.1, h.2.2.2.2.1, h.2.2.2.2.2.1, h.2.2.2.2.2.2].length = 5 := rfl
      generalize hL : [h.2.2.1, h.2.2.2.1, h.2.2.2.2.1, h.2.2.2.2.2.1, h.2.2.2.2.2.2] = L at hlen ih ⊢
      have hdr : L.drop i = L.getD i 0 :: L.drop (i + 1) := by
        rw [List.getD_eq_getElem?_getD, List.getElem?_eq_getElem (by omega : i < L.length), List.drop_eq_getElem_cons (by omega : i < L.length)]; rfl
      have eg : gt (0 : Int) L (i : Int) = L.getD i 0 := by unfold gt; rw [Int.toNat_natCast]
      have c5 : 0 ≤ (i : Int) ∧ (i : Int) < 5 ∧ (5 : Int) ≤ (L.length : Int) := by rw [hlen]; omega
      have c6 : 0 ≤ (i : Int) ∧ (i : Int) < (L.length : Int) := by rw [hlen]; omega
      rw [O.cond_pos (by omega)]
      simp only [O.chk_dec c5, O.chk_dec c6, eg]
      rw [hdr, finB_cons]
      by_cases c0 : L.getD i 0 < 0
      · rw [O.cond_pos c0, if_neg (by omega), finB_false]
      · rw [O.cond_neg c0]
        by_cases c1 : L.getD i 0 > 65535
        · rw [O.cond_pos c1, if_neg (by omega), finB_false]
        · have hz : (strOf [IntKind.u8.wrap (Int.tmod (L.getD i 0) 256), IntKind.u8.wrap (IntKind.i64.wrap (Int.tdiv (L.getD i 0) 256))]).size = 2 := by rw [size_strOf]; rfl
          rw [O.cond_neg c1, if_pos (by omega), O.chk_dec (by rw [hz]; omega), low2 _ (by omega), i64_in _ (by omega)]
          have h1 := ih (i + 1) j (by omega) (by omega) (t ++ revT (putT (L.getD i 0) 2)) (by rw [app_size, revT_size, putT_size]; omega)
          rw [show (((i + 1 : Nat)) : Int) = (i : Int) + 1 from by push_cast; rfl] at h1
          exact h1
  unfold F_aqueductref10_Build.S F_aqueductref10_Build.top hdrB
  by_cases c1 : h.1 < 0
  · rw [O.cond_pos c1, if_neg (by omega)]
  · by_cases c2 : h.1 > 3
    · rw [O.cond_neg c1, O.cond_pos c2, if_neg (by omega)]
    · by_cases c3 : h.2.1 < 0
      · rw [O.cond_neg c1, O.cond_neg c2, O.cond_pos c3, if_neg (by omega)]
      · by_cases c4 : h.2.1 > 255
        · rw [O.cond_neg c1, O.cond_neg c2, O.cond_neg c3, O.cond_pos c4, if_neg (by omega)]
        · rw [O.cond_neg c1, O.cond_neg c2, O.cond_neg c3, O.cond_neg c4, if_pos (by omega), u8_in h.1 (by omega), u8_in h.2.1 (by omega)]
          exact lp 5 0 k (by omega) (by omega) _ (by rw [size_strOf]; exact Nat.le_refl 2)
end Go.Proofs.Ytkmhbpiphepjoaa
