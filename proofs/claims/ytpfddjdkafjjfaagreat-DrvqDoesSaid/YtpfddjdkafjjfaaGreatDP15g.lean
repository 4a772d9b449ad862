/- Layer 15, plain: places, events, descriptors: the document's functions and the program's (as layer 14 has them). -/
import Derived.Test.YtpfddjdkafjjfaaGreatDP15h
namespace Go.Proofs.YtpfddjdkafjjfaaGreat
open Go.Aq Go.IntWalk
set_option linter.unusedVariables false
/-- What a descriptor's bytes are. -/
def dscB (d : Int × Int × Int × Int) : ByteArray := ((putL d.1 8 ++ putL d.2.1 4) ++ putL d.2.2.1 2) ++ putL d.2.2.2 2
theorem dscB_size (d : Int × Int × Int × Int) : (dscB d).size = 16 := by unfold dscB; simp only [app_size, putL_size]
theorem rBuild_S (k : Nat) (hk : 9 ≤ k) (d : Int × Int × Int × Int) (h1 : 0 ≤ d.1 ∧ d.1 < 18446744073709551616) (h2 : 0 ≤ d.2.1 ∧ d.2.1 < 4294967296) :
    F_aqueductref12_Build.S k d = .ok (if 0 ≤ d.2.2.1 ∧ d.2.2.1 ≤ 65535 ∧ 0 ≤ d.2.2.2 ∧ d.2.2.2 ≤ 65535 then (dscB d, 0) else (⟨#[]⟩, 1)) := by
  unfold F_aqueductref12_Build.S
  by_cases a1 : d.2.2.1 < 0
  · rw [O.cond_pos a1, if_neg (by omega)]
  by_cases a2 : d.2.2.1 > 65535
  · rw [O.cond_neg a1, O.cond_pos a2, if_neg (by omega)]
  by_cases a3 : d.2.2.2 < 0
  · rw [O.cond_neg a1, O.cond_neg a2, O.cond_pos a3, if_neg (by omega)]
  by_cases a4 : d.2.2.2 > 65535
  · rw [O.cond_neg a1, O.cond_neg a2, O.cond_neg a3, O.cond_pos a4, if_neg (by omega)]
  rw [O.cond_neg a1, O.cond_neg a2, O.cond_neg a3, O.cond_neg a4, u64_in d.2.1 (by omega), u64_in d.2.2.1 (by omega), u64_in d.2.2.2 (by omega)]
  have p1 : F_aqueductref01_Put.S k d.1 (8 : Int) false = _ := rPutL_S k hk d.1 8 h1 (by omega)
  have p2 : F_aqueductref01_Put.S k d.2.1 (4 : Int) false = _ := rPutL_S k hk d.2.1 4 (by omega) (by omega)
  have p3 : F_aqueductref01_Put.S k d.2.2.1 (2 : Int) false = _ := rPutL_S k hk d.2.2.1 2 (by omega) (by omega)
  have p4 : F_aqueductref01_Put.S k d.2.2.2 (2 : Int) false = _ := rPutL_S k hk d.2.2.2 2 (by omega) (by omega)
  rw [if_pos (show d.1 < 256 ^ 8 by rw [show (256 : Int) ^ 8 = 18446744073709551616 from rfl]; omega)] at p1
  rw [if_pos (show d.2.1 < 256 ^ 4 by rw [show (256 : Int) ^ 4 = 4294967296 from rfl]; omega)] at p2
  rw [if_pos (show d.2.2.1 < 256 ^ 2 by rw [show (256 : Int) ^ 2 = 65536 from rfl]; omega)] at p3
  rw [if_pos (show d.2.2.2 < 256 ^ 2 by rw [show (256 : Int) ^ 2 = 65536 from rfl]; omega)] at p4
  rw [p1, O.bind_ok, p2, O.bind_ok, p3, O.bind_ok, p4, O.bind_ok, O.chk_dec (by simp only [putL_size]; omega), O.chk_dec (by simp only [app_size, putL_size]; omega), O.chk_dec (by simp only [app_size, putL_size]; omega), if_pos (by omega)]
  rfl
/-- A place further in a ring. -/
def nextSp (s : Int × Bool) (n size : Int) : Int × Bool := if s.1 + n ≥ size then (s.1 + n - size, !s.2) else (s.1 + n, s.2)
theorem spotNext_S (k : Nat) (s : Int × Bool) (n size : Int) (hs : 0 ≤ s.1 ∧ s.1 < size) (hz : size ≤ 32768) (hn : 0 ≤ n ∧ n ≤ size) : F_spot_Next.S k s n size = .ok (nextSp s n size, 0) := by
  have hc : F_spot_Check.S k s size = .ok 0 := by
    unfold F_spot_Check.S
    rw [O.cond_neg (by omega), O.cond_neg (by omega), O.cond_neg (by omega), O.cond_neg (by omega)]
  unfold F_spot_Next.S
  rw [hc, O.bind_ok, O.cond_neg (by omega), O.cond_neg (by omega), O.cond_neg (by omega), i64_in (s.1 + n) (by omega)]
  unfold nextSp
  by_cases h : s.1 + n ≥ size
  · rw [O.cond_pos h, if_pos h, i64_in _ (by omega)]
  · rw [O.cond_neg h, if_neg h]
theorem nextSp_in (s : Int × Bool) (n size : Int) (hs : 0 ≤ s.1 ∧ s.1 < size) (hn : 0 ≤ n ∧ n ≤ size) : 0 ≤ (nextSp s n size).1 ∧ (nextSp s n size).1 < size := by
  unfold nextSp; split <;> simp <;> omega
def rngD (d : D4) : Prop := 0 ≤ d.1 ∧ 0 ≤ d.2.1 ∧ d.2.1 < 4294967296 ∧ 0 ≤ d.2.2.1 ∧ d.2.2.1 ≤ 65535 ∧ 0 ≤ d.2.2.2 ∧ d.2.2.2 ≤ 65535
theorem rdD_rng (b : List Int) (a : Int) : rngD (rdD b a) := by
  unfold rdD descP
  generalize Go.Aq.strOf _ = s
  have b1 := bl_lo s 8 8; have b2 := bl_lo s 12 4; have b3 := bl_lo s 14 2; have b4 := bl_lo s 16 2
  rw [show (256 : Int) ^ 4 = 4294967296 from rfl] at b2
  rw [show (256 : Int) ^ 2 = 65536 from rfl] at b3 b4
  exact ⟨b1.1, b2.1, b2.2, b3.1, Int.le_of_lt_add_one b3.2, b4.1, Int.le_of_lt_add_one b4.2⟩
theorem rGetL_S (k : Nat) (hk : 9 ≤ k) (s : ByteArray) (hs : s.size ≤ 140737488351232) (i n : Nat) (hn : 1 ≤ n ∧ n ≤ 8) (hi : i ≤ 140737488351232) : F_aqueductref01_Get.S k s (i : Int) (n : Int) false = .ok (if i + n ≤ s.size then (bl s (i + n) n, 0) else (0, 10)) := by
  have lp : i + n ≤ s.size → ∀ (m o j : Nat), o + m = n → m < j → F_aqueductref01_Get.l0 k s (i : Int) (n : Int) false j (bl s (i + n) o) (o : Int) = .ok (bl s (i + n) n, 0) := by
    intro hin m
    induction m with
    | zero =>
      intro o j ho hj
      obtain ⟨j, rfl⟩ : ∃ i, j = i + 1 := ⟨j - 1, by omega⟩
      obtain rfl : o = n := by omega
      show F_aqueductref01_Get.l0_b k _ _ _ _ _ _ _ = _
      unfold F_aqueductref01_Get.l0_b
      rw [O.cond_neg (by omega)]
    | succ m ih =>
      intro o j ho hj
      obtain ⟨j, rfl⟩ : ∃ i, j = i + 1 := ⟨j - 1, by omega⟩
      show F_aqueductref01_Get.l0_b k _ _ _ _ _ _ _ = _
      unfold F_aqueductref01_Get.l0_b
      have hb := bl_lo s (i + n) o
      have hp := pow56 o (by omega)
      have b1 := bt_lo s ((i + n - 1 - o : Nat) : Int)
      have b2 := bt_hi s ((i + n - 1 - o : Nat) : Int)
      have e : IntKind.i64.wrap (IntKind.i64.wrap (IntKind.i64.wrap ((i : Int) + (n : Int)) - 1) - (o : Int)) = ((i + n - 1 - o : Nat) : Int) := by rw [i64_in ((i : Int) + n) (by omega), i64_in ((i : Int) + n - 1) (by omega), i64_in _ (by omega)]; omega
      rw [O.cond_pos (by omega), O.cond_false, e, O.chk_dec (by omega), step_u64' _ _ ⟨hb.1, by omega⟩ ⟨b1, b2⟩, i64_in _ (by omega)]
      exact ih (o + 1) j (by omega) (by omega)
  unfold F_aqueductref01_Get.S F_aqueductref01_Get.top
  rw [O.cond_neg (by omega), O.cond_neg (by omega), O.cond_neg (by omega), i64_in ((s.size : Int) - _) (by omega)]
  by_cases h : i + n ≤ s.size
  · rw [O.cond_neg (by omega), if_pos h]
    exact lp h n 0 k (by omega) (by omega)
  · rw [O.cond_pos (by omega), if_neg h]
theorem rParse_S (k : Nat) (hk : 9 ≤ k) (s : ByteArray) (h : s.size = 16) : F_aqueductref12_Parse.S k s = .ok (descP s, 0) := by
  unfold F_aqueductref12_Parse.S
  have g1 : F_aqueductref01_Get.S k s (0 : Int) (8 : Int) false = _ := rGetL_S k hk s (by omega) 0 8 (by omega) (by omega)
  have g2 : F_aqueductref01_Get.S k s (8 : Int) (4 : Int) false = _ := rGetL_S k hk s (by omega) 8 4 (by omega) (by omega)
  have g3 : F_aqueductref01_Get.S k s (12 : Int) (2 : Int) false = _ := rGetL_S k hk s (by omega) 12 2 (by omega) (by omega)
  have g4 : F_aqueductref01_Get.S k s (14 : Int) (2 : Int) false = _ := rGetL_S k hk s (by omega) 14 2 (by omega) (by omega)
  rw [if_pos (by omega)] at g1 g2 g3 g4
  have b2 := bl_lo s 12 4; have b3 := bl_lo s 14 2; have b4 := bl_lo s 16 2
  rw [show (256 : Int) ^ 4 = 4294967296 from rfl] at b2
  rw [show (256 : Int) ^ 2 = 65536 from rfl] at b3 b4
  rw [O.cond_neg (by omega), g1, O.bind_ok, g2, O.bind_ok, g3, O.bind_ok, g4, O.bind_ok]
  show O.ok ((_, IntKind.u32.wrap (bl s 12 4), IntKind.i64.wrap (bl s 14 2), IntKind.i64.wrap (bl s 16 2)), (0 : Int)) = _
  rw [u32_in _ (by omega), i64_in _ (by omega), i64_in _ (by omega)]; rfl
theorem ext_sub (b : List Int) (a : Int) (n : Nat) (ha : 0 ≤ a) : (Go.Aq.strOf b).extract a.toNat (a + n).toNat = Go.Aq.strOf (sub b a n) := by
  rw [strOf_sub]
  congr 2
  · omega
  · omega
/-- A descriptor of the document's memory. -/
theorem rAt_S (k : Nat) (hk : 9 ≤ k) (a : Int) (b : List Int) (ha : 0 ≤ a ∧ a + 16 ≤ b.length) : F_aqueductref12_Parse.S k ((Go.Aq.strOf b).extract a.toNat (a + 16).toNat) = .ok (rdD b a, 0) := by
  have := ext_sub b a 16 ha.1
  rw [show a + (16 : Int) = a + ((16 : Nat) : Int) from rfl, this, rParse_S k hk _ (by rw [size_strOf, sub_len _ _ _ (by omega)]; rfl)]; rfl
theorem bit_and (f : Int) (j : Nat) (hj : j ≤ 15) (h : 0 ≤ f ∧ f ≤ 65535) : decide (bAnd .i64 f (2 ^ j) ≠ 0) = decide (f / 2 ^ j % 2 = 1) := by
  rw [bAnd_bit f j h.1 (by omega) (by omega)]
  have hp : (0 : Int) < 2 ^ j := Int.pow_pos (by decide)
  apply decide_eq_decide.2
  generalize f / 2 ^ j = x
  have : x % 2 = 0 ∨ x % 2 = 1 := by omega
  rcases this with e | e
  · rw [e]; simp
  · rw [e]; simp; omega
theorem rOne_S (k : Nat) (s : Int × Bool) (size : Int) (hs : 0 ≤ s.1 ∧ s.1 < size) (hz : size ≤ 32768) : F_aqueductref13_one.S k s size = .ok (nextSp s 1 size) := by
  unfold F_aqueductref13_one.S nextSp
  rw [i64_in (size - 1) (by omega), i64_in (s.1 + 1) (by omega)]
  by_cases h : s.1 = size - 1
  · rw [O.cond_pos h, if_pos (by omega)]
    congr 2; omega
  · rw [O.cond_neg h, if_neg (by omega)]
theorem nextSp_add (s : Int × Bool) (n size : Int) (hs : 0 ≤ s.1 ∧ s.1 < size) (hn : 0 ≤ n ∧ n < size) : nextSp (nextSp s n size) 1 size = nextSp s (n + 1) size := by
  unfold nextSp
  by_cases h1 : s.1 + n ≥ size
  · simp only [if_pos h1, if_pos (show s.1 + (n + 1) ≥ size by omega)]
    rw [if_neg (by omega)]; congr 1; omega
  · simp only [if_neg h1]
    by_cases h2 : s.1 + (n + 1) ≥ size
    · rw [if_pos (by omega), if_pos h2]; congr 1; omega
    · rw [if_neg (by omega), if_neg h2]; congr 1; omega
theorem nextSp_zero (s : Int × Bool) (size : Int) (hs : 0 ≤ s.1 ∧ s.1 < size) : nextSp s 0 size = s := by
  unfold nextSp; rw [if_neg (by omega), Int.add_zero]
theorem rSpCheck_S (k : Nat) (s : Int × Bool) (size : Int) (hz : 1 ≤ size ∧ size ≤ 32768) (hs : 0 ≤ s.1 ∧ s.1 < size) : F_aqueductref13_Check.S k s size = .ok 0 := by
  unfold F_aqueductref13_Check.S
  rw [O.cond_neg (by omega), O.cond_neg (by omega), O.cond_neg (by omega), i64_in _ (by omega), O.cond_neg (by omega)]
theorem rSpNext_S (k : Nat) (s : Int × Bool) (n : Nat) (size : Int) (hs : 0 ≤ s.1 ∧ s.1 < size) (hz : size ≤ 32768) (hn : (n : Int) ≤ size) (hk : n < k) : F_aqueductref13_Next.S k s (n : Int) size = .ok (nextSp s n size, 0) := by
  have lp : ∀ (m i j : Nat), i + m = n → m < j → F_aqueductref13_Next.l0 k (n : Int) size j (i : Int) (nextSp s i size).1 (nextSp s i size).2 = .ok (nextSp s n size, 0) := by
    intro m
    induction m with
    | zero =>
      intro i j hi hj
      obtain ⟨j, rfl⟩ : ∃ i, j = i + 1 := ⟨j - 1, by omega⟩
      obtain rfl : i = n := by omega
      show F_aqueductref13_Next.l0_b k _ _ _ _ _ _ = _
      unfold F_aqueductref13_Next.l0_b
      rw [O.cond_neg (by omega)]
    | succ m ih =>
      intro i j hi hj
      obtain ⟨j, rfl⟩ : ∃ i, j = i + 1 := ⟨j - 1, by omega⟩
      show F_aqueductref13_Next.l0_b k _ _ _ _ _ _ = _
      unfold F_aqueductref13_Next.l0_b
      have hv := nextSp_in s i size hs (by omega)
      rw [O.cond_pos (by omega), show (((nextSp s i size).1, (nextSp s i size).2) : Int × Bool) = nextSp s i size from rfl, rOne_S k _ _ hv hz, O.bind_ok, nextSp_add s i size hs (by omega), i64_in _ (by omega)]
      exact ih (i + 1) j (by omega) (by omega)
  unfold F_aqueductref13_Next.S F_aqueductref13_Next.top
  rw [rSpCheck_S k s size (by omega) hs, O.bind_ok, O.cond_neg (by decide), O.cond_neg (by omega), O.cond_neg (by omega)]
  have := lp n 0 k (by omega) hk
  rw [show ((0 : Nat) : Int) = 0 from rfl, nextSp_zero s size hs] at this
  exact this
theorem sub_put_same (b ys : List Int) (a : Int) (h : 0 ≤ a ∧ a + ys.length ≤ b.length) : sub (putAt b a ys) a ys.length = ys := by
  unfold sub putAt
  have h1 : (List.take a.toNat b).length = a.toNat := by rw [List.length_take]; omega
  rw [Int.toNat_natCast, List.drop_left' h1, List.take_left' rfl]
theorem sub_put_ahead (b ys : List Int) (a x m : Int) (h : 0 ≤ a ∧ a + ys.length ≤ b.length) (hx : 0 ≤ x ∧ 0 ≤ m ∧ x + m ≤ a) : sub (putAt b a ys) x m = sub b x m := by
  unfold sub putAt
  rw [List.drop_append_of_le_length (by rw [List.length_take]; omega), List.take_append_of_le_length (by rw [List.length_drop, List.length_take]; omega), List.drop_take, List.take_take]
  congr 1; omega
theorem sub_put_behind (b ys : List Int) (a x m : Int) (h : 0 ≤ a ∧ a + ys.length ≤ b.length) (hx : a + ys.length ≤ x ∧ 0 ≤ m) : sub (putAt b a ys) x m = sub b x m := by
  unfold sub putAt
  have h1 : (List.take a.toNat b).length = a.toNat := by rw [List.length_take]; omega
  rw [← List.append_assoc, List.drop_append, List.drop_eq_nil_of_le (by rw [List.length_append, h1]; omega), List.nil_append, List.length_append, h1, List.drop_drop]
  congr 2; omega
theorem sub_put_off (b ys : List Int) (a x m : Int) (h : 0 ≤ a ∧ a + ys.length ≤ b.length) (hx : 0 ≤ x ∧ 0 ≤ m ∧ (x + m ≤ a ∨ a + ys.length ≤ x)) : sub (putAt b a ys) x m = sub b x m := by
  rcases hx.2.2 with h1 | h1
  · exact sub_put_ahead b ys a x m h ⟨hx.1, hx.2.1, h1⟩
  · exact sub_put_behind b ys a x m h ⟨h1, hx.2.1⟩
theorem put_put (b ys zs : List Int) (a : Int) (h : 0 ≤ a ∧ a + ys.length + zs.length ≤ b.length) : putAt (putAt b a ys) (a + ys.length) zs = putAt b a (ys ++ zs) := by
  unfold putAt
  have h1 : (List.take a.toNat b).length = a.toNat := by rw [List.length_take]; omega
  have e1 : List.take (a + ys.length).toNat (List.take a.toNat b ++ (ys ++ List.drop (a.toNat + ys.length) b)) = List.take a.toNat b ++ ys := by
    rw [← List.append_assoc]; exact List.take_left' (by rw [List.length_append, h1]; omega)
  have e2 : List.drop ((a + ys.length).toNat + zs.length) (List.take a.toNat b ++ (ys ++ List.drop (a.toNat + ys.length) b)) = List.drop (a.toNat + (ys ++ zs).length) b := by
    rw [← List.append_assoc, List.drop_append, List.drop_eq_nil_of_le (by rw [List.length_append, h1]; omega), List.nil_append, List.drop_drop, List.length_append, h1, List.length_append]
    congr 1; omega
  rw [e1, e2]; simp
theorem bytesOf_app (a b : ByteArray) : bytesOf (a ++ b) = bytesOf a ++ bytesOf b := by unfold bytesOf; rw [app_list, List.map_append]
def leL : List Int → Int
  | [] => 0
  | x :: r => x + 256 * leL r
def wl (v : Int) : Nat → List Int
  | 0 => []
  | n + 1 => v % 256 :: wl (v / 256) n
theorem leL_nonneg : ∀ (l : List Int), (∀ x ∈ l, 0 ≤ x ∧ x ≤ 255) → 0 ≤ leL l
  | [], _ => Int.le_refl 0
  | x :: r, h => by
    have h1 := h x (by simp)
    have h2 := leL_nonneg r (fun y hy => h y (by simp [hy]))
    unfold leL; omega
theorem wl_rev (v : Int) (hv : 0 ≤ v) : ∀ (n : Nat) (v : Int), 0 ≤ v → (wb v n).reverse = wl v n
  | 0, v, _ => rfl
  | n + 1, v, hv => by
    rw [wb_snoc v hv n, List.reverse_append, wl_rev v hv n (v / 256) (by omega)]; rfl
theorem putL_wl (v : Int) (hv : 0 ≤ v) (n : Nat) : putL v n = Go.Aq.strOf (wl v n) := by
  unfold putL putT revT
  rw [← wl_rev v hv n v hv]
  apply list_eq; simp [Go.Aq.strOf]
def pp (s : Int × Bool) (size : Int) : Int := s.1 + (bif s.2 then 0 else size)
def gapP (a b : Int × Bool) (size : Int) : Int := (pp b size - pp a size) % (2 * size)
theorem mod_lo (x m : Int) (h : 0 ≤ x ∧ x < m) : x % m = x := Int.emod_eq_of_lt h.1 h.2
theorem mod_neg (x m : Int) (h : -m ≤ x ∧ x < 0) : x % m = x + m := by rw [← Int.add_emod_right, mod_lo _ _ (by omega)]
theorem mod_hi (x m : Int) (h : m ≤ x ∧ x < 2 * m) : x % m = x - m := by
  have := Int.add_emod_right (x - m) m
  rw [show x - m + m = x by omega] at this
  rw [this, mod_lo _ _ (by omega)]
theorem pp_in (s : Int × Bool) (size : Int) (h : 0 ≤ s.1 ∧ s.1 < size) : 0 ≤ pp s size ∧ pp s size < 2 * size := by unfold pp; cases s.2 <;> simp <;> omega
theorem gap_in (a b : Int × Bool) (size : Int) (h : 0 < size) : 0 ≤ gapP a b size ∧ gapP a b size < 2 * size :=
  ⟨Int.emod_nonneg _ (by omega), Int.emod_lt_of_pos _ (by omega)⟩
theorem pp_inj (a b : Int × Bool) (size : Int) (ha : 0 ≤ a.1 ∧ a.1 < size) (hb : 0 ≤ b.1 ∧ b.1 < size) (h : pp a size = pp b size) : a = b := by
  obtain ⟨x, u⟩ := a; obtain ⟨y, v⟩ := b
  unfold pp at h
  cases u <;> cases v <;> simp at * <;> omega
theorem gap_zero (a b : Int × Bool) (size : Int) (ha : 0 ≤ a.1 ∧ a.1 < size) (hb : 0 ≤ b.1 ∧ b.1 < size) : gapP a b size = 0 ↔ a = b := by
  constructor
  · intro h
    apply pp_inj a b size ha hb
    have h1 := pp_in a size ha; have h2 := pp_in b size hb
    unfold gapP at h
    by_cases c : 0 ≤ pp b size - pp a size
    · rw [mod_lo _ _ (by omega)] at h; omega
    · rw [mod_neg _ _ (by omega)] at h; omega
  · intro h; subst h; unfold gapP; rw [Int.sub_self, Int.zero_emod]
theorem gap_step (a b : Int × Bool) (size : Int) (ha : 0 ≤ a.1 ∧ a.1 < size) (hb : 0 ≤ b.1 ∧ b.1 < size) (h : a ≠ b) : gapP (nextSp a 1 size) b size = gapP a b size - 1 := by
  have hz : gapP a b size ≠ 0 := fun e => h ((gap_zero a b size ha hb).1 e)
  have h1 := pp_in a size ha; have h2 := pp_in b size hb
  have e : pp (nextSp a 1 size) size = if pp a size + 1 = 2 * size then 0 else pp a size + 1 := by
    obtain ⟨x, u⟩ := a
    unfold nextSp pp
    by_cases c : x + 1 ≥ size
    · simp only [if_pos c]
      cases u <;> simp <;> first | (intro hh; simp at ha; omega) | (split <;> simp at * <;> omega)
    · simp only [if_neg c]
      cases u <;> simp <;> first | (intro hh; simp at ha; omega) | (split <;> simp at * <;> omega)
  unfold gapP at hz ⊢
  rw [e]
  by_cases c : 0 ≤ pp b size - pp a size
  · rw [mod_lo _ _ (by omega)] at hz ⊢
    split
    · omega
    · rw [mod_lo _ _ (by omega)]; omega
  · rw [mod_neg (pp b size - pp a size) _ (by omega)]
    split
    · rw [mod_lo _ _ (by omega)]; omega
    · rw [mod_neg _ _ (by omega)]; omega
theorem spotCheck_ok (k : Nat) (s : Int × Bool) (size : Int) (hz : 1 ≤ size ∧ size ≤ 32768) (hs : 0 ≤ s.1 ∧ s.1 < size) : F_spot_Check.S k s size = .ok 0 := by
  unfold F_spot_Check.S
  rw [O.cond_neg (by omega), O.cond_neg (by omega), O.cond_neg (by omega), O.cond_neg (by omega)]
theorem spotCheck_bad (k : Nat) (s : Int × Bool) (size : Int) (hz : 1 ≤ size ∧ size ≤ 32768) (hs : size ≤ s.1) : F_spot_Check.S k s size = .ok 1 := by
  unfold F_spot_Check.S
  rw [O.cond_neg (by omega), O.cond_neg (by omega), O.cond_neg (by omega), O.cond_pos (by omega)]
theorem spotGap_S (k : Nat) (hk : 5 ≤ k) (a b : Int × Bool) (size : Int) (hz : 1 ≤ size ∧ size ≤ 32768) (ha : 0 ≤ a.1 ∧ a.1 < size) (hb : 0 ≤ b.1) :
    F_spot_Gap.S k a b size = .ok (if b.1 < size then (gapP a b size, 0) else (0, 1)) := by
  obtain ⟨j, rfl⟩ : ∃ j, k = j + 3 := ⟨k - 3, by omega⟩
  unfold F_spot_Gap.S F_spot_Gap.top
  show F_spot_Gap.l0_b _ a b size (F_spot_Gap.l0 (j + 3) a b size (j + 2)) 0 = _
  unfold F_spot_Gap.l0_b
  rw [O.cond_pos (by omega), O.chk_dec (by simp), O.chk_dec (by simp), show gt ((0 : Int), false) [a, b] 0 = a from rfl, spotCheck_ok _ a size hz ha, O.bind_ok, O.cond_neg (by decide)]
  show F_spot_Gap.l0_b _ a b size (F_spot_Gap.l0 (j + 3) a b size (j + 1)) 1 = _
  unfold F_spot_Gap.l0_b
  rw [O.cond_pos (by omega), O.chk_dec (by simp), O.chk_dec (by simp), show gt ((0 : Int), false) [a, b] 1 = b from rfl]
  by_cases hv : b.1 < size
  · rw [spotCheck_ok _ b size hz ⟨hb, hv⟩, O.bind_ok, O.cond_neg (by decide), if_pos hv]
    show F_spot_Gap.l0_b _ a b size (F_spot_Gap.l0 (j + 3) a b size j) 2 = _
    unfold F_spot_Gap.l0_b
    rw [O.cond_neg (by omega)]
    obtain ⟨x, u⟩ := a; obtain ⟨y, v⟩ := b
    simp only at ha hb hv
    unfold gapP pp
    simp only
    rw [i64_in (y - x) (by omega), i64_in (2 * size) (by omega), i64_in (y - x + size) (by omega)]
    by_cases c : u ≠ v
    · rw [O.cond_pos c, O.cond_neg (by omega)]
      cases u <;> cases v <;> simp at c ⊢
      · rw [mod_neg _ _ (by omega)]; omega
      · rw [mod_lo _ _ (by omega)]; omega
    · rw [O.cond_neg c]
      have : u = v := by simpa using c
      subst this
      have e : y + (bif u then 0 else size) - (x + (bif u then 0 else size)) = y - x := by omega
      rw [e]
      by_cases c2 : y - x < 0
      · rw [O.cond_pos c2, i64_in _ (by omega), mod_neg _ _ (by omega)]
      · rw [O.cond_neg c2, mod_lo _ _ (by omega)]
  · rw [spotCheck_bad _ b size hz (by omega), O.bind_ok, O.cond_pos (by decide), if_neg hv]
theorem rGap_S (k : Nat) (a b : Int × Bool) (size : Int) (hz : 1 ≤ size ∧ size ≤ 32768) (ha : 0 ≤ a.1 ∧ a.1 < size) (hb : 0 ≤ b.1 ∧ b.1 < size) (hk : 2 * size < k) :
    F_aqueductref13_Gap.S k a b size = .ok (gapP a b size, 0) := by
  have lp : ∀ (r j : Nat) (i : Nat) (s : Int × Bool), 0 ≤ s.1 ∧ s.1 < size → gapP s b size = r → r < j → i + r ≤ 100000 → F_aqueductref13_Gap.l0 k b size j (i : Int) s.1 s.2 = .ok (((i + r : Nat) : Int), 0) := by
    intro r
    induction r with
    | zero =>
      intro j i s hs hg hj hi
      obtain ⟨j, rfl⟩ : ∃ i, j = i + 1 := ⟨j - 1, by omega⟩
      show F_aqueductref13_Gap.l0_b k _ _ _ _ _ _ = _
      unfold F_aqueductref13_Gap.l0_b
      have e := (gap_zero s b size hs hb).1 hg
      rw [decide_eq_true (show s.1 = b.1 by rw [e]), decide_eq_true (show s.2 = b.2 by rw [e])]
      show O.cond false _ _ = _
      rw [O.cond_false]; rfl
    | succ r ih =>
      intro j i s hs hg hj hi
      obtain ⟨j, rfl⟩ : ∃ i, j = i + 1 := ⟨j - 1, by omega⟩
      show F_aqueductref13_Gap.l0_b k _ _ _ _ _ _ = _
      unfold F_aqueductref13_Gap.l0_b
      have hne : s ≠ b := fun e => by have := (gap_zero s b size hs hb).2 e; omega
      have hc : (!(decide (s.1 = b.1) && (decide (s.2 = b.2) && true))) = true := by
        by_cases e1 : s.1 = b.1
        · by_cases e2 : s.2 = b.2
          · exact absurd (Prod.ext e1 e2) hne
          · simp [e2]
        · simp [e1]
      have hg2 := gap_step s b size hs hb hne
      rw [hc, O.cond_true, show ((s.1, s.2) : Int × Bool) = s from rfl, rOne_S k s size hs hz.2, O.bind_ok, i64_in ((i : Int) + 1) (by omega)]
      have := ih j (i + 1) (nextSp s 1 size) (nextSp_in s 1 size hs (by omega)) (by omega) (by omega) (by omega)
      rw [show i + 1 + r = i + (r + 1) by omega] at this
      exact this
  unfold F_aqueductref13_Gap.S F_aqueductref13_Gap.top
  have hg := gap_in a b size (by omega)
  rw [rSpCheck_S k a size hz ha, O.bind_ok, O.cond_neg (by decide), rSpCheck_S k b size hz hb, O.bind_ok, O.cond_neg (by decide)]
  have := lp (gapP a b size).toNat k 0 a ha (by omega) (by omega) (by omega)
  rw [show ((0 + (gapP a b size).toNat : Nat) : Int) = gapP a b size by omega] at this
  exact this
/-- Is it to be told? -/
def needP (e : Int × Bool × Int) (a b : Int × Bool) (size : Int) : Bool :=
  if gapP a b size > size then false else if e.2.2 = 0 then decide (gapP a b size > 0) else if e.2.2 = 2 then decide (e.1 < size ∧ gapP a (e.1, e.2.1) size < gapP a b size) else false
theorem spotNeed_S (k : Nat) (hk : 5 ≤ k) (e : Int × Bool × Int) (a b : Int × Bool) (size : Int) (hz : 1 ≤ size ∧ size ≤ 32768) (ha : 0 ≤ a.1 ∧ a.1 < size) (hb : 0 ≤ b.1 ∧ b.1 < size) (he : 0 ≤ e.1) :
    F_spot_Need.S k e a b size = .ok (needP e a b size) := by
  have hg := gap_in a b size (by omega)
  unfold F_spot_Need.S needP
  rw [spotGap_S k hk a b size hz ha hb.1, if_pos hb.2, O.bind_ok, O.cond_neg (by simp)]
  by_cases c1 : gapP a b size > size
  · rw [O.cond_pos c1, if_pos c1]
  rw [O.cond_neg c1, if_neg c1]
  by_cases c2 : e.2.2 = 0
  · rw [O.cond_pos c2, if_pos c2]
    congr 1
    have := gap_zero a b size ha hb
    by_cases c : a = b
    · have := this.2 c
      rw [decide_eq_true (show a.1 = b.1 by rw [c]), decide_eq_true (show a.2 = b.2 by rw [c]), decide_eq_false (by omega)]; rfl
    · have h0 : gapP a b size ≠ 0 := fun x => c (this.1 x)
      rw [decide_eq_true (show gapP a b size > 0 by omega)]
      by_cases e1 : a.1 = b.1
      · by_cases e2 : a.2 = b.2
        · exact absurd (Prod.ext e1 e2) c
        · simp [e2]
      · simp [e1]
  rw [O.cond_neg c2, if_neg c2]
  by_cases c3 : e.2.2 = 2
  · rw [O.cond_pos c3, if_pos c3, spotGap_S k hk a (e.1, e.2.1) size hz ha he, O.bind_ok]
    by_cases c4 : e.1 < size
    · rw [if_pos c4, O.cond_pos rfl]
      congr 1
      apply decide_eq_decide.2
      exact ⟨fun h => ⟨c4, h⟩, fun h => h.2⟩
    · rw [if_neg c4, O.cond_neg (by decide), decide_eq_false (fun h => c4 h.1)]
  · rw [O.cond_neg c3, if_neg c3]
theorem rNeed_S (k : Nat) (e : Int × Bool × Int) (a b : Int × Bool) (size : Int) (hz : 1 ≤ size ∧ size ≤ 32768) (ha : 0 ≤ a.1 ∧ a.1 < size) (hb : 0 ≤ b.1 ∧ b.1 < size) (he : 0 ≤ e.1) (hk : 2 * size < k) :
    F_aqueductref13_Need.S k e a b size = .ok (needP e a b size) := by
  have hg := gap_in a b size (by omega)
  unfold F_aqueductref13_Need.S F_aqueductref13_Need.top needP
  rw [rGap_S k a b size hz ha hb hk, O.bind_ok, O.cond_neg (by simp)]
  by_cases c1 : gapP a b size > size
  · rw [O.cond_pos c1, if_pos c1]
  rw [O.cond_neg c1, if_neg c1]
  by_cases c2 : e.2.2 = 0
  · rw [O.cond_pos c2, if_pos c2]
  rw [O.cond_neg c2, if_neg c2]
  have lp : ∀ (m j : Nat) (i : Nat) (s : Int × Bool), 0 ≤ s.1 ∧ s.1 < size → ((i + m : Nat) : Int) = gapP a b size → m < j →
      F_aqueductref13_Need.l0 k e size (gapP a b size, 0) j (i : Int) s.1 s.2 = .ok (if e.2.2 = 2 then decide (e.1 < size ∧ gapP s (e.1, e.2.1) size < m) else false) := by
    intro m
    induction m with
    | zero =>
      intro j i s hs hi hj
      obtain ⟨j, rfl⟩ : ∃ i, j = i + 1 := ⟨j - 1, by omega⟩
      show F_aqueductref13_Need.l0_b k _ _ _ _ _ _ _ = _
      unfold F_aqueductref13_Need.l0_b
      have := gap_in s (e.1, e.2.1) size (by omega)
      rw [O.cond_neg (by simp only; omega)]
      congr 1
      split
      · exact (decide_eq_false (by omega)).symm
      · rfl
    | succ m ih =>
      intro j i s hs hi hj
      obtain ⟨j, rfl⟩ : ∃ i, j = i + 1 := ⟨j - 1, by omega⟩
      show F_aqueductref13_Need.l0_b k _ _ _ _ _ _ _ = _
      unfold F_aqueductref13_Need.l0_b
      have hv := nextSp_in s 1 size hs (by omega)
      have nxt := ih j (i + 1) (nextSp s 1 size) hv (by omega) (by omega)
      have go : s ≠ (e.1, e.2.1) → O.bind (F_aqueductref13_one.S k (s.1, s.2) size) (fun r => F_aqueductref13_Need.l0 k e size (gapP a b size, 0) j (IntKind.i64.wrap ((i : Int) + 1)) r.1 r.2) = .ok (if e.2.2 = 2 then decide (e.1 < size ∧ gapP s (e.1, e.2.1) size < ((m + 1 : Nat) : Int)) else false) := by
        intro hne
        rw [show ((s.1, s.2) : Int × Bool) = s from rfl, rOne_S k s size hs hz.2, O.bind_ok, i64_in ((i : Int) + 1) (by omega)]
        refine Eq.trans nxt ?_
        congr 1
        split
        · apply decide_eq_decide.2
          constructor
          · rintro ⟨h1, h2⟩
            rw [gap_step s (e.1, e.2.1) size hs ⟨he, h1⟩ hne] at h2
            exact ⟨h1, by omega⟩
          · rintro ⟨h1, h2⟩
            refine ⟨h1, ?_⟩
            rw [gap_step s (e.1, e.2.1) size hs ⟨he, h1⟩ hne]; omega
        · rfl
      rw [O.cond_pos (by simp only; omega)]
      by_cases c3 : e.2.2 = 2
      · rw [O.cond_pos c3]
        by_cases e1 : s.1 = e.1
        · rw [O.cond_pos e1]
          by_cases e2 : s.2 = e.2.1
          · rw [O.cond_pos e2, if_pos c3, decide_eq_true]
            have : s = (e.1, e.2.1) := Prod.ext e1 e2
            rw [← this, (gap_zero s s size hs hs).2 rfl]
            exact ⟨by omega, by omega⟩
          · rw [O.cond_neg e2]; exact go (fun x => e2 (by rw [x]))
        · rw [O.cond_neg e1]; exact go (fun x => e1 (by rw [x]))
      · rw [O.cond_neg c3]
        rw [show ((s.1, s.2) : Int × Bool) = s from rfl, rOne_S k s size hs hz.2, O.bind_ok, i64_in ((i : Int) + 1) (by omega)]
        refine Eq.trans nxt ?_
        rw [if_neg c3, if_neg c3]
  have := lp (gapP a b size).toNat k 0 a ha (by omega) (by omega)
  rw [show ((gapP a b size).toNat : Int) = gapP a b size by omega] at this
  exact this
def eventP (s : ByteArray) : Int × Bool × Int := (bl s 2 2 % 32768, decide (bl s 2 2 ≥ 32768), bl s 4 2)
theorem bl2 (s : ByteArray) (e : Nat) : bl s (e + 2) 2 = bt s ((e + 1 : Nat) : Int) * 256 + bt s ((e : Nat) : Int) := by
  show (0 * 256 + bt s ((e + 2 - 1 - 0 : Nat) : Int)) * 256 + bt s ((e + 2 - 1 - 1 : Nat) : Int) = _
  rw [show e + 2 - 1 - 0 = e + 1 by omega, show e + 2 - 1 - 1 = e by omega]; omega
theorem bl2_in (s : ByteArray) (e : Nat) : 0 ≤ bl s e 2 ∧ bl s e 2 ≤ 65535 := by
  have := bl_lo s e 2
  rw [show (256 : Int) ^ 2 = 65536 from rfl] at this; omega
theorem bAndNot_top (v : Int) (h : 0 ≤ v ∧ v ≤ 65535) : bAndNot .i64 v 32768 = v % 32768 := by
  obtain ⟨n, rfl⟩ : ∃ n : Nat, v = n := ⟨v.toNat, by omega⟩
  have e : (BitVec.ofInt 64 (n : Int) &&& ~~~(BitVec.ofInt 64 32768)).toNat = n % 32768 := by
    have e1 : BitVec.ofInt 64 (n : Int) = BitVec.ofNat 64 n := by
      apply BitVec.eq_of_toNat_eq
      have := natOf_ofInt .i64 n (by show n < 2 ^ 64; omega)
      rw [BitVec.toNat_ofNat, Nat.mod_eq_of_lt (by omega)]; exact this
    have e2 : BitVec.ofInt 64 32768 = BitVec.twoPow 64 15 := by decide
    rw [e1, e2]
    apply Nat.eq_of_testBit_eq
    intro i
    rw [show (32768 : Nat) = 2 ^ 15 from rfl, Nat.testBit_mod_two_pow]
    show (BitVec.ofNat 64 n &&& ~~~(BitVec.twoPow 64 15)).getLsbD i = _
    rw [BitVec.getLsbD_and, BitVec.getLsbD_not, BitVec.getLsbD_ofNat, BitVec.getLsbD_twoPow]
    by_cases h1 : i < 15
    · have h2 : i < 64 := by omega
      have h3 : ¬ 15 = i := by omega
      simp [h1, h2, h3]
    · by_cases h2 : i = 15
      · subst h2; simp
      · have : n.testBit i = false := Nat.testBit_lt_two_pow (Nat.lt_of_lt_of_le (by omega : n < 2 ^ 16) (Nat.pow_le_pow_right (by decide) (by omega)))
        simp [this]
  show IntKind.i64.wrap (((BitVec.ofInt 64 (n : Int) &&& ~~~(BitVec.ofInt 64 32768)).toNat : Nat) : Int) = _
  rw [e, i64_in _ (by omega)]; omega
theorem bAnd_top (v : Int) (h : 0 ≤ v ∧ v ≤ 65535) : decide (bAnd .u64 v 32768 ≠ 0) = decide (v ≥ 32768) := by
  obtain ⟨n, rfl⟩ : ∃ n : Nat, v = n := ⟨v.toNat, by omega⟩
  have e := bAnd_nat .u64 n 32768 (by show n < 2 ^ 64; omega) (by decide)
  rw [show ((32768 : Nat) : Int) = 32768 from rfl] at e
  have e2 : n &&& 32768 = n / 32768 % 2 * 32768 := and_bit n 15
  rw [e, e2, u64_in _ (by omega)]
  apply decide_eq_decide.2
  constructor
  · intro _; omega
  · intro _; omega
theorem spotParse_S (k : Nat) (hk : 9 ≤ k) (s : ByteArray) (h : s.size = 4) : F_spot_Parse.S k s = .ok (eventP s, 0) := by
  unfold F_spot_Parse.S
  have g1 : F_words_Get.S k s (0 : Int) (2 : Int) false = _ := GetL_S k hk s (by omega) 0 2 (by omega) (by omega)
  have g2 : F_words_Get.S k s (2 : Int) (2 : Int) false = _ := GetL_S k hk s (by omega) 2 2 (by omega) (by omega)
  rw [if_pos (by omega)] at g1 g2
  have b1 := bl2_in s 2; have b2 := bl2_in s 4
  rw [O.cond_neg (by omega), g1, O.bind_ok, g2, O.bind_ok]
  show O.ok ((bAndNot .i64 (IntKind.i64.wrap (bl s 2 2)) 32768, decide (bAnd .u64 (bl s 2 2) 32768 ≠ 0), IntKind.i64.wrap (bl s 4 2)), (0 : Int)) = _
  rw [i64_in (bl s 2 2) (by omega), i64_in (bl s 4 2) (by omega), bAndNot_top _ b1, bAnd_top _ b1]; rfl
theorem rEvParse_S (k : Nat) (s : ByteArray) (h : s.size = 4) : F_aqueductref13_Parse.S k s = .ok (eventP s, 0) := by
  unfold F_aqueductref13_Parse.S
  have b1 := bl2_in s 2; have b2 := bl2_in s 4
  have e1 := bl2 s 0; have e2 := bl2 s 2
  have h0 := bt_lo s 0; have h0' := bt_hi s 0
  have h1 := bt_lo s 1; have h1' := bt_hi s 1
  have h2 := bt_lo s 2; have h2' := bt_hi s 2
  have h3 := bt_lo s 3; have h3' := bt_hi s 3
  change bl s 2 2 = bt s 1 * 256 + bt s 0 at e1
  change bl s 4 2 = bt s 3 * 256 + bt s 2 at e2
  rw [O.cond_neg (by omega), O.chk_dec (by omega), O.chk_dec (by omega), O.chk_dec (by omega), O.chk_dec (by omega)]
  rw [i64_in (bt s 0) (by omega), i64_in (bt s 1) (by omega), i64_in (bt s 2) (by omega), i64_in (bt s 3) (by omega), i64_in (256 * bt s 1) (by omega), i64_in (256 * bt s 3) (by omega), i64_in (bt s 0 + _) (by omega), i64_in (bt s 2 + _) (by omega), rem_in _ _ (by omega)]
  unfold eventP
  rw [show bt s 0 + 256 * bt s 1 = bl s 2 2 by omega, show bt s 2 + 256 * bt s 3 = bl s 4 2 by omega]
theorem event_in (s : ByteArray) : 0 ≤ (eventP s).1 ∧ 0 ≤ (eventP s).2.2 := by
  have b1 := bl2_in s 2; have b2 := bl2_in s 4
  unfold eventP; simp only; omega
def evB (e : Int × Bool × Int) : ByteArray := putL (e.1 + (bif e.2.1 then 32768 else 0)) 2 ++ putL e.2.2 2
def askP (e : Int × Bool × Int) : ByteArray × Int := if 0 ≤ e.1 ∧ e.1 ≤ 32767 ∧ 0 ≤ e.2.2 ∧ e.2.2 ≤ 65535 then (evB e, 0) else (⟨#[]⟩, 1)
theorem bOr_top (v : Int) (h : 0 ≤ v ∧ v ≤ 32767) : bOr .i64 v 32768 = v + 32768 := by
  have e := bOr_join .i64 1 v 15 (by decide) h.1 (by show v < 32768; omega) (by decide) (by decide)
  rw [show (1 : Int) * 2 ^ 15 = 32768 from rfl] at e
  have c : bOr .i64 v 32768 = bOr .i64 32768 v := by unfold bOr; rw [BitVec.or_comm]
  rw [c, e, i64_in _ (by omega)]; omega
theorem spotBuild_S (k : Nat) (hk : 9 ≤ k) (e : Int × Bool × Int) (hf : e.2.2 ≤ 9223372036854775807) : F_spot_Build.S k e = .ok (askP e) := by
  have pt : ∀ v : Int, 0 ≤ v ∧ v < 18446744073709551616 → F_words_Put.S k v (2 : Int) false = .ok (if v < 65536 then (putL v 2, 0) else (⟨#[]⟩, 1)) := by
    intro v hv
    have := PutL_S k hk v 2 hv (by omega)
    rw [show (256 : Int) ^ 2 = 65536 from rfl] at this
    exact this
  unfold F_spot_Build.S askP
  by_cases h1 : e.1 < 0
  · rw [O.cond_pos h1, if_neg (by omega)]
  rw [O.cond_neg h1]
  by_cases h2 : e.1 ≥ 32768
  · rw [O.cond_pos h2, if_neg (by omega)]
  rw [O.cond_neg h2]
  by_cases h3 : e.2.2 < 0
  · rw [O.cond_pos h3, if_neg (by omega)]
  rw [O.cond_neg h3]
  unfold evB
  cases hw : e.2.1 with
  | true =>
    rw [O.cond_true, bOr_top _ (by omega), u64_in (e.1 + 32768) (by omega), pt _ (by omega), if_pos (by omega), O.bind_ok, u64_in e.2.2 (by omega), pt _ (by omega), O.bind_ok]
    by_cases h4 : e.2.2 ≤ 65535
    · rw [if_pos (by omega), if_pos (by omega), O.cond_neg (by simp), O.chk_dec (by simp only [putL_size]; omega)]; rfl
    · rw [if_neg (by omega), if_neg (by omega), O.cond_pos (by simp)]
  | false =>
    rw [O.cond_false, u64_in e.1 (by omega), pt _ (by omega), if_pos (by omega), O.bind_ok, u64_in e.2.2 (by omega), pt _ (by omega), O.bind_ok]
    by_cases h4 : e.2.2 ≤ 65535
    · rw [if_pos (by omega), if_pos (by omega), O.cond_neg (by simp), O.chk_dec (by simp only [putL_size]; omega)]
      show O.ok (putL e.1 2 ++ putL e.2.2 2, (0 : Int)) = .ok (putL (e.1 + 0) 2 ++ putL e.2.2 2, 0)
      rw [Int.add_zero]
    · rw [if_neg (by omega), if_neg (by omega), O.cond_pos (by simp)]
theorem put2L (v : Int) (h : 0 ≤ v ∧ v ≤ 65535) : putL v 2 = Go.Aq.strOf [IntKind.u8.wrap (Int.tmod v 256), IntKind.u8.wrap (IntKind.i64.wrap (Int.tdiv v 256))] := by
  rw [putL_wl v h.1 2, rem_in _ _ h.1, quo_in _ _ h.1, i64_in (v / 256) (by omega), u8_in (v % 256) (by omega), u8_in (v / 256) (by omega)]
  show Go.Aq.strOf [v % 256, v / 256 % 256] = _
  rw [show v / 256 % 256 = v / 256 by omega]
theorem evB_eq (v f : Int) (h : 0 ≤ v ∧ v ≤ 65535) (hf : 0 ≤ f ∧ f ≤ 65535) : Go.Aq.strOf [IntKind.u8.wrap (Int.tmod v 256), IntKind.u8.wrap (IntKind.i64.wrap (Int.tdiv v 256)), IntKind.u8.wrap (Int.tmod f 256), IntKind.u8.wrap (IntKind.i64.wrap (Int.tdiv f 256))] = putL v 2 ++ putL f 2 := by
  rw [put2L v h, put2L f hf, ← strOf_app]; rfl
theorem rEvBuild_S (k : Nat) (e : Int × Bool × Int) : F_aqueductref13_Build.S k e = .ok (askP e) := by
  unfold F_aqueductref13_Build.S askP
  by_cases h1 : e.1 < 0
  · rw [O.cond_pos h1, if_neg (by omega)]
  rw [O.cond_neg h1]
  by_cases h2 : e.1 > 32767
  · rw [O.cond_pos h2, if_neg (by omega)]
  rw [O.cond_neg h2]
  by_cases h3 : e.2.2 < 0
  · rw [O.cond_pos h3, if_neg (by omega)]
  rw [O.cond_neg h3]
  by_cases h4 : e.2.2 > 65535
  · rw [O.cond_pos h4, if_neg (by omega)]
  rw [O.cond_neg h4, if_pos (by omega)]
  unfold evB
  cases hw : e.2.1 with
  | true => rw [O.cond_true, i64_in (e.1 + 32768) (by omega), evB_eq _ _ (by omega) (by omega)]; rfl
  | false =>
    rw [O.cond_false, evB_eq _ _ (by omega) (by omega)]
    show O.ok (putL e.1 2 ++ putL e.2.2 2, (0 : Int)) = .ok (putL (e.1 + 0) 2 ++ putL e.2.2 2, 0)
    rw [Int.add_zero]
theorem evB_size (e : Int × Bool × Int) : (evB e).size = 4 := by unfold evB; rw [app_size, putL_size, putL_size]
end Go.Proofs.YtpfddjdkafjjfaaGreat
