/- Layer 15, plain: one part is posted; nothing was given back, so nothing is reaped. -/
import Derived.Test.YtpfddjdkafjjfaaGreatDP15c
namespace Go.Proofs.YtpfddjdkafjjfaaGreat
open Go.Aq Go.IntWalk
set_option linter.unusedVariables false
abbrev D4 := Int × Int × Int × Int
def descP (s : ByteArray) : D4 := (bl s 8 8, bl s 12 4, bl s 14 2, bl s 16 2)
theorem Parse_S (k : Nat) (hk : 9 ≤ k) (s : ByteArray) (h : s.size = 16) : F_desc_Parse.S k s = .ok (descP s, 0) := by
  unfold F_desc_Parse.S
  have g1 : F_words_Get.S k s (0 : Int) (8 : Int) false = _ := GetL_S k hk s (by omega) 0 8 (by omega) (by omega)
  have g2 : F_words_Get.S k s (8 : Int) (4 : Int) false = _ := GetL_S k hk s (by omega) 8 4 (by omega) (by omega)
  have g3 : F_words_Get.S k s (12 : Int) (2 : Int) false = _ := GetL_S k hk s (by omega) 12 2 (by omega) (by omega)
  have g4 : F_words_Get.S k s (14 : Int) (2 : Int) false = _ := GetL_S k hk s (by omega) 14 2 (by omega) (by omega)
  rw [if_pos (by omega)] at g1 g2 g3 g4
  have b2 := bl_lo s 12 4; have b3 := bl_lo s 14 2; have b4 := bl_lo s 16 2
  rw [show (256 : Int) ^ 4 = 4294967296 from rfl] at b2
  rw [show (256 : Int) ^ 2 = 65536 from rfl] at b3 b4
  rw [O.cond_neg (by omega), g1, O.bind_ok, g2, O.bind_ok, g3, O.bind_ok, g4, O.bind_ok]
  show O.ok ((_, IntKind.u32.wrap (bl s 12 4), IntKind.i64.wrap (bl s 14 2), IntKind.i64.wrap (bl s 16 2)), (0 : Int)) = _
  rw [u32_in _ (by omega), i64_in _ (by omega), i64_in _ (by omega)]; rfl
/-- A descriptor at a place of memory. -/
def rdD (b : List Int) (a : Int) : D4 := descP (Go.Aq.strOf (sub b a 16))
/-- Memory, read. -/
def sameM (g g' : TM) : Prop := g'.1 = g.1 ∧ g'.2.1 = g.2.1 ∧ g'.2.2.length ≤ 8192
theorem sub_len (b : List Int) (a n : Int) (h : 0 ≤ a ∧ 0 ≤ n ∧ a + n ≤ b.length) : (sub b a n).length = n.toNat := by
  unfold sub; rw [List.length_take, List.length_drop]; omega
/-- The first places' descriptor says: available, not used. -/
def headOk (h : List Int) : Prop := ∃ L x, h = L ++ [x, 0] ∧ L.length = 14 ∧ (x = 128 ∨ x = 130)
theorem take_put16 (xs ys : List Int) (a : Int) (h : 16 ≤ a) (h2 : a + ys.length ≤ xs.length) : (putAt xs a ys).take 16 = xs.take 16 := by
  unfold putAt
  rw [List.take_append_of_le_length (by rw [List.length_take]; omega), List.take_take]
  congr 1; omega
theorem bt_str (L : List Int) (x : Int) (hl : L.length = 14) (hx : x = 128 ∨ x = 130) : bl (Go.Aq.strOf (L ++ [x, 0])) 16 2 = x := by
  have e : (Go.Aq.strOf (L ++ [x, 0])).data.toList = L.map (fun n => UInt8.ofNat n.toNat) ++ [UInt8.ofNat x.toNat, UInt8.ofNat (0 : Int).toNat] := by simp [Go.Aq.strOf]
  have b14 : bt (Go.Aq.strOf (L ++ [x, 0])) (14 : Int) = x := by
    unfold bt
    rw [e, List.getD_eq_getElem?_getD, List.getElem?_append_right (by simp [hl])]
    simp only [List.length_map, hl]
    rcases hx with rfl | rfl <;> rfl
  have b15 : bt (Go.Aq.strOf (L ++ [x, 0])) (15 : Int) = 0 := by
    unfold bt
    rw [e, List.getD_eq_getElem?_getD, List.getElem?_append_right (by simp [hl])]
    simp only [List.length_map, hl]
    rfl
  show (0 * 256 + bt _ ((16 - 1 - 0 : Nat) : Int)) * 256 + bt _ ((16 - 1 - 1 : Nat) : Int) = x
  have c15 : ((16 - 1 - 0 : Nat) : Int) = 15 := rfl
  have c14 : ((16 - 1 - 1 : Nat) : Int) = 14 := rfl
  rw [c15, c14, b15, b14]; omega
theorem Used_no (k : Nat) (x : Int) (hx : x = 128 ∨ x = 130) : F_desc_Used.S k x true = .ok false := by
  have hs : F_desc_says.S k x true = .ok 1 := by
    have h1 : bAnd .i64 x (128 : Int) ≠ 0 := by rcases hx with rfl | rfl <;> decide
    have h2 : ¬ bAnd .i64 x (32768 : Int) ≠ 0 := by rcases hx with rfl | rfl <;> decide
    unfold F_desc_says.S
    rw [decide_eq_true h1, decide_eq_false h2, O.cond_neg (by simp), O.cond_pos (by simp), O.cond_pos rfl]
  unfold F_desc_Used.S
  rw [hs, O.bind_ok]; rfl
theorem Reap_no (k : Nat) (hk : 9 ≤ k) (q : TV) (g : TM) (n : Int) (hq : q.1 = layQ n) (hb : q.2.2.1 = (0, true)) (h : okM g) (hl : g.1.length = 1024) (hh : headOk (g.1.take 16)) :
    F_drvq_Queue_Reap.S k q g = .ok ((0, 0, false, 0), (q, rdM g 0 16)) := by
  obtain ⟨L, x, hx, hL, hx'⟩ := hh
  have ea : IntKind.i64.wrap (q.1.1 + (IntKind.i64.wrap ((16 : Int) * q.2.2.1.1))) = 0 := by
    rw [hq, hb]; rfl
  have esub : sub g.1 0 16 = L ++ [x, 0] := by
    unfold sub
    rw [show (0 : Int).toNat = 0 from rfl, List.drop_zero, show (16 : Int).toNat = 16 from rfl, hx]
  have es : (Go.Aq.strOf (sub g.1 0 16)).size = 16 := by rw [size_strOf, esub]; simp [hL]
  unfold F_drvq_Queue_Reap.S
  rw [ea, Read_S k 0 16 g h, if_neg (by omega), if_pos (mayM_iff.2 (by rw [hl]; omega)), O.bind_ok]
  dsimp only
  rw [Parse_S k hk _ es, O.bind_ok]
  have ef : IntKind.i64.wrap (bl (Go.Aq.strOf (sub g.1 0 16)) 16 2) = x := by
    rw [esub, bt_str L x hL hx', i64_in _ (by omega)]
  have eu : F_desc_Used.S k (descP (Go.Aq.strOf (sub g.1 0 16)), (0 : Int)).1.2.2.2 q.2.2.1.2 = .ok false := by
    rw [hb]
    have : (descP (Go.Aq.strOf (sub g.1 0 16)), (0 : Int)).1.2.2.2 = x := by
      first
      | exact ef
      | (show bl (Go.Aq.strOf (sub g.1 0 16)) 16 2 = x; rw [esub, bt_str L x hL hx'])
    rw [this]
    exact Used_no k x hx'
  rw [eu, O.bind_ok, Bool.not_false, O.cond_true]
theorem Store_hd (k : Nat) (hk : 9 ≤ k) (a : Int) (n : Nat) (hn : n = 2 ∨ n = 4 ∨ n = 8) (v : Int) (g : TM) (h : okM g) :
    ∃ r, F_gmem_Memory_Store.S k a (n : Int) (IntKind.u64.wrap v) g = .ok r ∧ okM r.2 ∧ r.2.1.length = g.1.length ∧ (16 ≤ a → r.2.1.take 16 = g.1.take 16) := by
  rw [Store_S k hk a n hn _ (u64_lo v) g h]
  split
  · split
    · rename_i hm
      have hw := wrM_ok g a (putL (IntKind.u64.wrap v) n) h (by rw [putL_size]; exact hm)
      have hm' := mayM_iff.1 hm
      exact ⟨_, rfl, hw.1, hw.2, fun h16 => take_put16 _ _ _ h16 (by rw [bytesOf_len, putL_size]; omega)⟩
    · exact ⟨_, rfl, h, rfl, fun _ => rfl⟩
  · exact ⟨_, rfl, h, rfl, fun _ => rfl⟩
theorem Mark_new (k : Nat) (f : Int) (hf : f = 0 ∨ f = 2) : ∃ x, F_desc_Mark.S k f true false = .ok x ∧ (x = 128 ∨ x = 130) := by
  unfold F_desc_Mark.S
  rw [O.cond_true, O.cond_neg (by simp)]
  rcases hf with rfl | rfl
  · exact ⟨_, rfl, .inl (by decide)⟩
  · exact ⟨_, rfl, .inr (by decide)⟩
theorem head_put (g : TM) (x : Int) (hx : x = 128 ∨ x = 130) (hl : g.1.length = 1024) : headOk ((wrM g 14 (putL x 2)).1.take 16) := by
  have hb : bytesOf (putL x 2) = [x, 0] := by rcases hx with rfl | rfl <;> rfl
  refine ⟨g.1.take 14, x, ?_, by rw [List.length_take]; omega, hx⟩
  show (putAt g.1 14 (bytesOf (putL x 2))).take 16 = _
  rw [hb]
  unfold putAt
  have h14 : (List.take (14 : Int).toNat g.1).length = 14 := by rw [List.length_take, hl]; rfl
  rw [List.take_append, h14, List.take_of_length_le (by rw [h14]; omega)]
  rfl
/-- One part is posted. -/
theorem Post_one (k : Nat) (hk : 70 ≤ k) (N : Int) (wr : Bool) (hN : 1 ≤ N ∧ N ≤ 64) (q : TV) (g : TM) (n : Int) (hq : q.1 = layQ n) (hn : n ≤ 8) (hg : okM g) (hl : g.1.length = 1024) (hf : 1 ≤ q.2.2.2.2.2.1) (hat : 0 ≤ q.2.1.1 ∧ q.2.1.1 < n) (he : q.2.2.2.2.2.2.length ≤ 1000) :
    ∃ g', F_drvq_Queue_Post.S k [((600 : Int), N, wr)] q g = .ok ((((leastN q.2.2.2.2.2.2 : Nat) : Int), 0), (q.1, nextP q.2.1 n, q.2.2.1, q.2.2.2.1, min (IntKind.i64.wrap (q.2.2.2.2.1 + ((1 : Nat) : Int))) (IntKind.i64.wrap (2 * n)), IntKind.i64.wrap (q.2.2.2.2.2.1 - ((1 : Nat) : Int)), mput q.2.2.2.2.2.2 ((leastN q.2.2.2.2.2.2 : Nat) : Int) ((1 : Nat) : Int)), g') ∧
      okM g' ∧ g'.1.length = 1024 ∧ (1 ≤ q.2.1.1 → g'.1.take 16 = g.1.take 16) ∧ (q.2.1 = (0, true) → headOk (g'.1.take 16)) := by
  have hp : OkP [((600 : Int), N, wr)] g.1.length := ⟨by simp, by simp, fun x hx => by
    have : x = ((600 : Int), N, wr) := by simpa using hx
    subst this
    exact ⟨hN.1, mayM_iff.2 (by show 0 ≤ (600 : Int) ∧ 0 ≤ N ∧ N ≤ (g.1.length : Int) ∧ (600 : Int) ≤ (g.1.length : Int) - N; omega)⟩, .inr rfl⟩
  unfold F_drvq_Queue_Post.S F_drvq_Queue_Post.top
  rw [may_S k hk _ q g hg hp, O.bind_ok, if_neg (by simp; omega), O.cond_neg (by simp), O.twice_eq, O.chk_dec (by show q.2.2.2.2.2.2.length ≤ 1000000; omega)]
  obtain ⟨k2, rfl⟩ : ∃ k2, k = k2 + 2 := ⟨k - 2, by omega⟩
  show ∃ g', F_drvq_Queue_Post.l1 (k2 + 2) [((600 : Int), N, wr)] (0, q, g) (k2 + 1 + 1) 0 0 q.2.1.1 q.2.1.2 g.1 g.2.2 g.2.1 = _ ∧ _
  show ∃ g', F_drvq_Queue_Post.l1_b _ _ _ _ _ _ _ _ _ _ _ _ = _ ∧ _
  unfold F_drvq_Queue_Post.l1_b
  rw [O.cond_pos (by simp), O.chk_dec (by simp), O.chk_dec (by simp), O.cond_neg (by simp; decide)]
  have j9 : ∀ fl : Int, (fl = 0 ∨ fl = 2) → ∃ g', F_drvq_Queue_Post.j9 (k2 + 2) [((600 : Int), N, wr)] (0, q, g) 0 0 q.2.1.1 q.2.1.2 g.1 g.2.2 g.2.1 (F_drvq_Queue_Post.l1 (k2 + 2) [((600 : Int), N, wr)] (0, q, g) (k2 + 1)) fl = .ok ((((leastN q.2.2.2.2.2.2 : Nat) : Int), 0), (q.1, nextP q.2.1 n, q.2.2.1, q.2.2.2.1, min (IntKind.i64.wrap (q.2.2.2.2.1 + ((1 : Nat) : Int))) (IntKind.i64.wrap (2 * n)), IntKind.i64.wrap (q.2.2.2.2.2.1 - ((1 : Nat) : Int)), mput q.2.2.2.2.2.2 ((leastN q.2.2.2.2.2.2 : Nat) : Int) ((1 : Nat) : Int)), g') ∧
      okM g' ∧ g'.1.length = 1024 ∧ (1 ≤ q.2.1.1 → g'.1.take 16 = g.1.take 16) ∧ (q.2.1 = (0, true) → headOk (g'.1.take 16)) := by
    intro fl hfl
    have er : q.1.1 = 0 := by rw [hq]; rfl
    have eS : q.1.2.1 = n := by rw [hq]; rfl
    have w0 : IntKind.i64.wrap (q.1.1 + (IntKind.i64.wrap ((16 : Int) * q.2.1.1))) = 16 * q.2.1.1 := by rw [er, i64_in ((16 : Int) * q.2.1.1) (by omega), i64_in _ (by omega)]; omega
    show ∃ g', F_drvq_Queue_Post.j9_b _ _ _ _ _ _ _ _ _ _ _ _ = _ ∧ _
    unfold F_drvq_Queue_Post.j9_b
    have hmk : ∃ x, F_desc_Mark.S (k2 + 2) fl q.2.1.2 false = .ok x ∧ (q.2.1 = (0, true) → x = 128 ∨ x = 130) := by
      cases hw : q.2.1.2 with
      | true =>
        obtain ⟨x, h1, h2⟩ := Mark_new (k2 + 2) fl hfl
        exact ⟨x, h1, fun _ => h2⟩
      | false =>
        obtain ⟨x, h1⟩ := Mark_ok (k2 + 2) fl false false
        exact ⟨x, h1, fun h => by rw [h] at hw; cases hw⟩
    obtain ⟨x, hx, hx'⟩ := hmk
    obtain ⟨a, ha, a1, a2, a3⟩ := Store_hd (k2 + 2) (by omega) (16 * q.2.1.1) 8 (by omega) (gt ((0 : Int), (0 : Int), false) [((600 : Int), N, wr)] (0 : Int)).1 g hg
    have ha' : F_gmem_Memory_Store.S (k2 + 2) (16 * q.2.1.1) (8 : Int) (IntKind.u64.wrap (gt ((0 : Int), (0 : Int), false) [((600 : Int), N, wr)] (0 : Int)).1) (g.1, g.2.1, g.2.2) = .ok a := ha
    obtain ⟨b, hb, b1, b2, b3⟩ := Store_hd (k2 + 2) (by omega) (IntKind.i64.wrap (16 * q.2.1.1 + (8 : Int))) 4 (by omega) (gt ((0 : Int), (0 : Int), false) [((600 : Int), N, wr)] (0 : Int)).2.1 a.2 a1
    have hb' : F_gmem_Memory_Store.S (k2 + 2) (IntKind.i64.wrap (16 * q.2.1.1 + (8 : Int))) (4 : Int) (IntKind.u64.wrap (gt ((0 : Int), (0 : Int), false) [((600 : Int), N, wr)] (0 : Int)).2.1) a.2 = .ok b := hb
    obtain ⟨c, hc, c1, c2, c3⟩ := Store_hd (k2 + 2) (by omega) (IntKind.i64.wrap (16 * q.2.1.1 + (12 : Int))) 2 (by omega) ((leastN q.2.2.2.2.2.2 : Nat) : Int) b.2 b1
    have hc' : F_gmem_Memory_Store.S (k2 + 2) (IntKind.i64.wrap (16 * q.2.1.1 + (12 : Int))) (2 : Int) (IntKind.u64.wrap ((leastN q.2.2.2.2.2.2 : Nat) : Int)) b.2 = .ok c := hc
    dsimp only
    rw [hx, O.bind_ok, w0, ha', O.bind_ok, hb', O.bind_ok, hc', O.bind_ok, O.cond_pos rfl, show ((q.2.1.1, q.2.1.2) : Int × Bool) = q.2.1 from rfl, eS, Next_S (k2 + 2) q.2.1 n (by omega), O.bind_ok]
    show ∃ g', F_drvq_Queue_Post.l1_b _ _ _ _ _ _ _ _ _ _ _ _ = _ ∧ _
    unfold F_drvq_Queue_Post.l1_b
    rw [O.cond_neg (by simp; decide)]
    dsimp only
    rw [w0, eS]
    by_cases h0 : q.2.1 = (0, true)
    · have hxx := hx' h0
      have e14 : IntKind.i64.wrap (16 * q.2.1.1 + (14 : Int)) = 14 := by rw [h0]; rfl
      have eu : IntKind.u64.wrap x = x := by rcases hxx with rfl | rfl <;> rfl
      have hs := Store_S (k2 + 2) (by omega) 14 2 (by omega) x (by omega) c.2 c1
      have hlc : c.2.1.length = 1024 := by omega
      have hmay : mayM 14 ((2 : Nat) : Int) (c.2.1.length : Int) = true := mayM_iff.2 (by omega)
      rw [if_pos (by omega), if_pos hmay] at hs
      have hs' : F_gmem_Memory_Store.S (k2 + 2) 14 (2 : Int) x (c.2.1, c.2.2.1, c.2.2.2) = .ok (0, wrM c.2 14 (putL x 2)) := hs
      have hw := wrM_ok c.2 14 (putL x 2) c1 (by rw [putL_size]; exact hmay)
      rw [e14, eu, hs', O.bind_ok]
      exact ⟨_, rfl, hw.1, by rw [hw.2]; exact hlc, fun h1 => by rw [h0] at h1; exact absurd h1 (by decide), fun _ => head_put c.2 x hxx hlc⟩
    · obtain ⟨d, hd, d1, d2, d3⟩ := Store_hd (k2 + 2) (by omega) (IntKind.i64.wrap (16 * q.2.1.1 + (14 : Int))) 2 (by omega) x c.2 c1
      have hd' : F_gmem_Memory_Store.S (k2 + 2) (IntKind.i64.wrap (16 * q.2.1.1 + (14 : Int))) (2 : Int) (IntKind.u64.wrap x) (c.2.1, c.2.2.1, c.2.2.2) = .ok d := hd
      rw [hd', O.bind_ok]
      refine ⟨_, rfl, d1, by omega, fun h1 => ?_, fun h => absurd h h0⟩
      rw [d3 (by rw [i64_in _ (by omega)]; omega), c3 (by rw [i64_in _ (by omega)]; omega), b3 (by rw [i64_in _ (by omega)]; omega), a3 (by omega)]
  show ∃ g', F_drvq_Queue_Post.j8_b _ _ _ _ _ _ _ _ _ _ _ _ _ = _ ∧ _
  unfold F_drvq_Queue_Post.j8_b
  cases (gt ((0 : Int), (0 : Int), false) [((600 : Int), N, wr)] (0 : Int)).2.2 with
  | true => rw [O.cond_true]; exact j9 _ (.inr (by decide))
  | false => rw [O.cond_false]; exact j9 _ (.inl rfl)
end Go.Proofs.YtpfddjdkafjjfaaGreat
