/- Layer 18, plain: the document's functions: the kind of an address, where a row stands, Learn, Tick. -/
import Derived.Test.YthdmjbndfnolmaaDPFm
import Derived.Test.YthdmjbndfnolmaaDPFn
namespace Go.Proofs.Ythdmjbndfnolmaa
open Go.Aq Go.IntWalk
set_option linter.unusedVariables false
/-! ### The kind of an address -/
def allF (m : ByteArray) (i : Nat) : Bool := (List.range i).all fun t => decide (bt m (t : Int) = 255)
theorem allF_succ (m : ByteArray) (i : Nat) : allF m (i + 1) = (allF m i && decide (bt m (i : Int) = 255)) := by
  unfold allF
  rw [List.range_succ, List.all_append]; simp
theorem u8_low : ∀ n : Fin 256, decide (bAnd .u8 ((n.val : Nat) : Int) (1 : Int) = (1 : Int)) = decide (Int.tmod (IntKind.i64.wrap ((n.val : Nat) : Int)) (2 : Int) = (1 : Int)) := by decide +kernel
theorem six {m : ByteArray} (h : m.size = 6) : ∃ a b c d e f, m.data.toList = [a, b, c, d, e, f] := by
  have hl : m.data.toList.length = 6 := by rw [Array.length_toList]; exact h
  revert hl
  generalize m.data.toList = l
  intro hl
  match l, hl with
  | [a, b, c, d, e, f], _ => exact ⟨a, b, c, d, e, f, rfl⟩
theorem all_six {m : ByteArray} (h : m.size = 6) : allF m 6 = decide (m = (⟨#[255, 255, 255, 255, 255, 255]⟩ : ByteArray)) := by
  obtain ⟨a, b, c, d, e, f, hl⟩ := six h
  have hb : ∀ x : UInt8, ((x.toNat : Nat) : Int) = 255 ↔ x = 255 := by
    intro x
    constructor
    · intro h; exact UInt8.toNat_inj.1 (by have : x.toNat = 255 := by omega
                                           rw [this]; rfl)
    · rintro rfl; rfl
  rw [Bool.eq_iff_iff, decide_eq_true_eq]
  have h0 : ∀ t : Nat, t < 6 → bt m (t : Int) = ((([a, b, c, d, e, f] : List UInt8).getD t 0).toNat : Int) := by
    intro t _
    unfold bt
    rw [hl, Int.toNat_natCast]
  constructor
  · intro hh
    refine ba_ext ?_
    rw [hl]
    unfold allF at hh
    rw [List.all_eq_true] at hh
    have g : ∀ t, t < 6 → ([a, b, c, d, e, f] : List UInt8).getD t 0 = 255 := fun t ht => (hb _).1 (by
      have := hh t (by simpa using ht)
      rw [decide_eq_true_eq, h0 t ht] at this
      exact this)
    have g0 := g 0 (by omega); have g1 := g 1 (by omega); have g2 := g 2 (by omega); have g3 := g 3 (by omega); have g4 := g 4 (by omega); have g5 := g 5 (by omega)
    simp at g0 g1 g2 g3 g4 g5
    rw [g0, g1, g2, g3, g4, g5]
  · intro hm
    have e : ([a, b, c, d, e, f] : List UInt8) = [255, 255, 255, 255, 255, 255] := by rw [← hl, hm]
    unfold allF
    rw [List.all_eq_true]
    intro t ht
    have ht : t < 6 := by simpa using ht
    rw [decide_eq_true_eq, h0 t ht, e]
    have : t = 0 ∨ t = 1 ∨ t = 2 ∨ t = 3 ∨ t = 4 ∨ t = 5 := by omega
    rcases this with rfl | rfl | rfl | rfl | rfl | rfl <;> rfl
theorem rKind_S (k : Nat) (hk : 8 ≤ k) (m : ByteArray) : F_aqueductref05_Kind.S k m = .ok (kindB m) := by
  unfold F_aqueductref05_Kind.S F_aqueductref05_Kind.top
  by_cases h : m.size = 6
  · rw [O.cond_neg (by omega)]
    have lp : ∀ (n i j : Nat), i + n = 6 → n < j → F_aqueductref05_Kind.l0 k m j (allF m i) (i : Int) = .ok (kindB m) := by
      intro n
      induction n with
      | zero =>
        intro i j hi hj
        obtain ⟨j, rfl⟩ : ∃ i, j = i + 1 := ⟨j - 1, by omega⟩
        obtain rfl : i = 6 := by omega
        show F_aqueductref05_Kind.l0_b _ _ _ _ _ = _
        unfold F_aqueductref05_Kind.l0_b kindB
        rw [O.cond_neg (by omega), if_neg (by omega), all_six h, O.cond_dec]
        split
        · rfl
        · have hb : ∃ n : Fin 256, bt m (0 : Int) = ((n.val : Nat) : Int) := ⟨⟨(m.data.toList.getD 0 0).toNat, UInt8.toNat_lt _⟩, rfl⟩
          obtain ⟨n, hn⟩ := hb
          have hc := u8_low n
          rw [O.chk_dec (by omega), hn, ← hc, O.cond_dec]
          split <;> rfl
      | succ n ih =>
        intro i j hi hj
        obtain ⟨j, rfl⟩ : ∃ i, j = i + 1 := ⟨j - 1, by omega⟩
        show F_aqueductref05_Kind.l0_b _ _ _ _ _ = _
        unfold F_aqueductref05_Kind.l0_b
        have nx := ih (i + 1) j (by omega) (by omega)
        rw [allF_succ] at nx
        rw [O.cond_pos (by omega), i64_in _ (by omega)]
        cases ha : allF m i with
        | true =>
          rw [ha, Bool.true_and] at nx
          rw [O.cond_true, O.chk_dec (by omega)]
          exact nx
        | false =>
          rw [ha, Bool.false_and] at nx
          rw [O.cond_false]
          exact nx
    exact lp 6 0 k (by omega) (by omega)
  · rw [O.cond_pos (by omega)]
    unfold kindB
    rw [if_pos h]
/-! ### Rows -/
abbrev HT := Int × Int × List VT
theorem at_S (k : Nat) (v : Int) (m : ByteArray) (g : HT) (hk : g.2.2.length < k) (hl : g.2.2.length ≤ 1000000) :
    ∃ r : Int, F_aqueductref18_Table_at.S k v m g = .ok (r, g) ∧ ((r = -1 ∧ (v, m) ∉ g.2.2.map keyV) ∨ ∃ i : Nat, r = (i : Int) ∧ ∃ h : i < g.2.2.length, keyV (g.2.2[i]) = (v, m)) := by
  unfold F_aqueductref18_Table_at.S F_aqueductref18_Table_at.top
  have lp : ∀ (n i j : Nat), i + n = g.2.2.length → n < j → (∀ t (h : t < g.2.2.length), t < i → keyV (g.2.2[t]) ≠ (v, m)) → ∃ r : Int, F_aqueductref18_Table_at.l0 k v m g j (i : Int) = .ok (r, g) ∧ ((r = -1 ∧ (v, m) ∉ g.2.2.map keyV) ∨ ∃ i : Nat, r = (i : Int) ∧ ∃ h : i < g.2.2.length, keyV (g.2.2[i]) = (v, m)) := by
    intro n
    induction n with
    | zero =>
      intro i j hi hj hno
      obtain ⟨j, rfl⟩ : ∃ i, j = i + 1 := ⟨j - 1, by omega⟩
      refine ⟨-1, ?_, .inl ⟨rfl, fun hm => ?_⟩⟩
      · show F_aqueductref18_Table_at.l0_b _ _ _ _ _ _ = _
        unfold F_aqueductref18_Table_at.l0_b
        rw [O.cond_neg (by omega)]
      · obtain ⟨x, hx, he⟩ := List.mem_map.1 hm
        obtain ⟨t, ht, rfl⟩ := List.getElem_of_mem hx
        exact hno t ht (by omega) he
    | succ n ih =>
      intro i j hi hj hno
      obtain ⟨j, rfl⟩ : ∃ i, j = i + 1 := ⟨j - 1, by omega⟩
      have hlt : i < g.2.2.length := by omega
      have nx : keyV (g.2.2[i]) ≠ (v, m) → _ := fun hne => ih (i + 1) j (by omega) (by omega) (fun t h ht => by
        by_cases h' : t < i
        · exact hno t h h'
        · obtain rfl : t = i := by omega
          exact hne)
      have un : F_aqueductref18_Table_at.l0 k v m g (j + 1) (i : Int) = O.cond (decide ((g.2.2[i]).1 = v)) (O.cond (decide ((g.2.2[i]).2.1 = m)) (.ok ((i : Int), g)) (F_aqueductref18_Table_at.l0 k v m g j ((i + 1 : Nat) : Int))) (F_aqueductref18_Table_at.l0 k v m g j ((i + 1 : Nat) : Int)) := by
        show F_aqueductref18_Table_at.l0_b _ _ _ _ _ _ = _
        unfold F_aqueductref18_Table_at.l0_b
        rw [O.cond_pos (by omega), O.chk_dec (by omega), O.chk_dec (by omega), O.chk_dec (by omega), O.chk_dec (by omega), gt_at _ g.2.2 i hlt, i64_in _ (by omega)]
        rfl
      rw [un]
      by_cases h1 : (g.2.2[i]).1 = v
      · rw [O.cond_pos h1]
        by_cases h2 : (g.2.2[i]).2.1 = m
        · rw [O.cond_pos h2]
          exact ⟨(i : Int), rfl, .inr ⟨i, rfl, hlt, Prod.ext h1 h2⟩⟩
        · rw [O.cond_neg h2]
          exact nx fun h => h2 (congrArg Prod.snd h)
      · rw [O.cond_neg h1]
        exact nx fun h => h1 (congrArg Prod.fst h)
  exact lp g.2.2.length 0 k (by omega) (by omega) (fun t _ ht => by omega)
/-- What the document's Learn makes of the rows. -/
def rput (x : VT) : Bool → List VT → List VT
  | put, [] => if put = true then [] else [x]
  | put, y :: r => if keyV y = keyV x then rput x put r else if put = false ∧ ltV x y = true then x :: y :: rput x true r else y :: rput x put r
def notK (x y : VT) : Bool := !decide (keyV y = keyV x)
theorem rput_true (x : VT) : ∀ l, rput x true l = l.filter (notK x)
  | [] => rfl
  | y :: r => by
    unfold rput
    by_cases h : keyV y = keyV x
    · rw [if_pos h, rput_true x r]; simp [h, notK]
    · rw [if_neg h, if_neg (by simp), rput_true x r]; simp [h, notK]
theorem rput_false (x : VT) : ∀ l, rput x false l = ins x (l.filter (notK x))
  | [] => rfl
  | y :: r => by
    unfold rput
    by_cases h : keyV y = keyV x
    · rw [if_pos h, rput_false x r]; simp [h, notK]
    · have hf : (y :: r).filter (notK x) = y :: r.filter (notK x) := by simp [h, notK]
      rw [if_neg h, hf]
      unfold ins
      by_cases hl : ltV x y = true
      · rw [if_pos ⟨rfl, hl⟩, if_pos hl, rput_true]
      · rw [if_neg (fun h => hl h.2), if_neg hl, rput_false x r]
theorem rput_up (x : VT) {l : List VT} (h : Up l) : Up (rput x false l) := by
  rw [rput_false]
  refine ins_up x _ (List.Pairwise.filter _ h) fun y hy e => ?_
  have := (List.mem_filter.1 hy).2
  simp [notK, e] at this
theorem rput_perm (x : VT) (l : List VT) : (rput x false l).Perm (x :: l.filter (notK x)) := by
  rw [rput_false]; exact ins_perm _ _
theorem rput_len (x : VT) (l : List VT) : (rput x false l).length ≤ l.length + 1 := by
  rw [(rput_perm x l).length_eq, List.length_cons]
  have := List.length_filter_le (notK x) l
  omega
theorem sLt_flip (a b : ByteArray) : (!(sLt a b || decide (a = b))) = sLt b a := by
  cases h : sLt b a with
  | true =>
    rw [sLt_asymm h]
    have : a ≠ b := fun e => by rw [e, sLt_irrefl] at h; cases h
    simp [this]
  | false =>
    cases h' : sLt a b with
    | true => rfl
    | false => simp [sLt_total h' h]
theorem ltV_code (v : Int) (m : ByteArray) (p a : Int) (y : VT) {α : Type} (A B : O α) : O.cond (decide (y.1 > v)) A (O.cond (decide (y.1 = v)) (O.cond (!(sLt y.2.1 m || decide (y.2.1 = m))) A B) B) = O.cond (ltV (v, m, p, a) y) A B := by
  unfold ltV
  rw [sLt_flip]
  by_cases h1 : y.1 > v
  · rw [O.cond_pos h1, decide_eq_true (show v < y.1 from h1), Bool.true_or, O.cond_true]
  · rw [O.cond_neg h1, decide_eq_false (show ¬ v < y.1 from h1), Bool.false_or]
    by_cases h2 : y.1 = v
    · rw [O.cond_pos h2, decide_eq_true (show v = y.1 from h2.symm), Bool.true_and]
    · rw [O.cond_neg h2, decide_eq_false (show ¬ v = y.1 from fun h => h2 h.symm), Bool.false_and, O.cond_false]
theorem put_S (k : Nat) (v : Int) (m : ByteArray) (p : Int) (l : List VT) (room ticks : Int) (hk : l.length < k) (hl : l.length ≤ 1000000) :
    F_aqueductref18_Table_Learn.l1 k v m p l room ticks k false (0 : Int) [] = .ok (true, room, ticks, rput (v, m, p, (0 : Int)) false l) := by
  have lp : ∀ (n i j : Nat) (put : Bool) (acc : List VT), i + n = l.length → n < j → acc.length ≤ 2 * i → F_aqueductref18_Table_Learn.l1 k v m p l room ticks j put (i : Int) acc = .ok (true, room, ticks, acc ++ rput (v, m, p, (0 : Int)) put (l.drop i)) := by
    intro n
    induction n with
    | zero =>
      intro i j put acc hi hj ha
      obtain ⟨j, rfl⟩ : ∃ i, j = i + 1 := ⟨j - 1, by omega⟩
      show F_aqueductref18_Table_Learn.l1_b _ _ _ _ _ _ _ _ _ _ _ = _
      unfold F_aqueductref18_Table_Learn.l1_b
      rw [O.cond_neg (by omega), List.drop_eq_nil_of_le (by omega)]
      cases put with
      | true => rw [Bool.not_true, O.cond_false]; simp [rput]
      | false => rw [Bool.not_false, O.cond_true, O.chk_dec (by simp; omega)]; simp [rput]
    | succ n ih =>
      intro i j put acc hi hj ha
      obtain ⟨j, rfl⟩ : ∃ i, j = i + 1 := ⟨j - 1, by omega⟩
      have hlt : i < l.length := by omega
      have e2 : IntKind.i64.wrap ((i : Int) + 1) = ((i + 1 : Nat) : Int) := by rw [i64_in _ (by omega)]; omega
      show F_aqueductref18_Table_Learn.l1_b _ _ _ _ _ _ _ _ _ _ _ = _
      unfold F_aqueductref18_Table_Learn.l1_b
      rw [O.cond_pos (by omega), O.chk_dec (by omega), O.chk_dec (by omega), gt_at _ l i hlt, e2, List.drop_eq_getElem_cons hlt]
      generalize l[i] = y
      have c1 : List.length acc + List.length [y] ≤ 1073741824 := by simp; omega
      have c2 : List.length acc + List.length [((v, m, p, (0 : Int)) : VT)] ≤ 1073741824 := by simp; omega
      have c3 : List.length (acc ++ [((v, m, p, (0 : Int)) : VT)]) + List.length [y] ≤ 1073741824 := by simp; omega
      rw [O.chk_dec c1, O.chk_dec c2, O.chk_dec c3]
      simp only [ltV_code v m p 0 y]
      by_cases hkey : keyV y = (v, m)
      · have h1 : y.1 = v := congrArg Prod.fst hkey
        have h2 : y.2.1 = m := congrArg Prod.snd hkey
        rw [O.cond_pos h1, O.cond_pos h2, ih (i + 1) j put acc (by omega) (by omega) (by omega)]
        conv => rhs; unfold rput
        rw [if_pos (show keyV y = keyV ((v, m, p, (0 : Int)) : VT) from hkey)]
      · have rest : O.cond (!put) (O.cond (ltV (v, m, p, 0) y) (F_aqueductref18_Table_Learn.l1 k v m p l room ticks j true ((i + 1 : Nat) : Int) (acc ++ [(v, m, p, (0 : Int))] ++ [y])) (F_aqueductref18_Table_Learn.l1 k v m p l room ticks j put ((i + 1 : Nat) : Int) (acc ++ [y]))) (F_aqueductref18_Table_Learn.l1 k v m p l room ticks j put ((i + 1 : Nat) : Int) (acc ++ [y])) = .ok (true, room, ticks, acc ++ rput (v, m, p, (0 : Int)) put (y :: l.drop (i + 1))) := by
          conv => rhs; unfold rput
          rw [if_neg (show ¬ keyV y = keyV ((v, m, p, (0 : Int)) : VT) from hkey)]
          cases put with
          | true =>
            rw [Bool.not_true, O.cond_false, ih (i + 1) j true _ (by omega) (by omega) (by simp; omega), if_neg (by simp)]
            simp
          | false =>
            rw [Bool.not_false, O.cond_true]
            cases hlv : ltV (v, m, p, 0) y with
            | true =>
              rw [O.cond_true, if_pos ⟨rfl, rfl⟩]
              rw [ih (i + 1) j true _ (by omega) (by omega) (by simp; omega)]
              simp
            | false =>
              rw [O.cond_false, ih (i + 1) j false _ (by omega) (by omega) (by simp; omega), if_neg (by simp)]
              simp
        by_cases h1 : y.1 = v
        · have h2 : ¬ y.2.1 = m := fun h2 => hkey (Prod.ext h1 h2)
          rw [O.cond_pos h1, O.cond_neg h2]
          exact rest
        · rw [O.cond_neg h1]
          exact rest
  have := lp l.length 0 k false [] (by omega) hk (by simp)
  simpa using this
def hasK (k : KT) (l : List VT) : Bool := l.any fun x => decide (keyV x = k)
theorem hasK_iff {k : KT} {l : List VT} : hasK k l = true ↔ k ∈ l.map keyV := by
  unfold hasK
  rw [List.any_eq_true, List.mem_map]
  constructor
  · rintro ⟨e, he, h⟩; exact ⟨e, he, by simpa using h⟩
  · rintro ⟨e, he, h⟩; exact ⟨e, he, by simpa using h⟩
theorem hasK_not {k : KT} {l : List VT} : hasK k l = false ↔ k ∉ l.map keyV := by rw [← hasK_iff, Bool.not_eq_true]
def learnH (v : Int) (m : ByteArray) (p : Int) (g : HT) : Bool × HT :=
  if okLearn v m p = true then (if hasK (v, m) g.2.2 = false ∧ g.1 ≤ (g.2.2.length : Int) then (false, g) else (true, g.1, g.2.1, rput (v, m, p, (0 : Int)) false g.2.2)) else (false, g)
theorem rLearn_S (k : Nat) (v : Int) (m : ByteArray) (p : Int) (g : HT) (hk : g.2.2.length + 8 < k) (hl : g.2.2.length ≤ 1000000) : F_aqueductref18_Table_Learn.S k v m p g = .ok (learnH v m p g) := by
  unfold F_aqueductref18_Table_Learn.S F_aqueductref18_Table_Learn.top learnH okLearn
  rw [rKind_S k (by omega), O.bind_ok]
  by_cases h1 : v < 0
  · rw [O.cond_pos h1, if_neg (by simp; omega)]
  rw [O.cond_neg h1]
  by_cases h2 : v > 4094
  · rw [O.cond_pos h2, if_neg (by simp; omega)]
  rw [O.cond_neg h2]
  by_cases h3 : kindB m ≠ 1
  · rw [O.cond_pos h3, if_neg (by simp [h3])]
  rw [O.cond_neg h3]
  by_cases h4 : p < 0
  · rw [O.cond_pos h4, if_neg (by simp; omega)]
  rw [O.cond_neg h4]
  by_cases h5 : p > 15
  · rw [O.cond_pos h5, if_neg (by simp; omega)]
  rw [O.cond_neg h5, if_pos (by simp; omega)]
  have hp := put_S k v m p g.2.2 g.1 g.2.1 (by omega) hl
  obtain ⟨r, hr, hc⟩ := at_S k v m g (by omega) hl
  rw [hr, O.bind_ok]
  rcases hc with ⟨rfl, hc⟩ | ⟨i, rfl, hi, hc⟩
  · rw [O.cond_pos (by omega), O.twice_eq]
    by_cases h7 : g.1 ≤ (g.2.2.length : Int)
    · rw [O.cond_pos h7, if_pos ⟨hasK_not.2 hc, h7⟩]
    · rw [O.cond_neg h7, if_neg (fun h => h7 h.2)]
      exact hp
  · rw [O.cond_neg (by omega), O.twice_eq, if_neg]
    · exact hp
    · intro h
      exact hasK_not.1 h.1 (List.mem_map.2 ⟨g.2.2[i], List.getElem_mem hi, hc⟩)
def bumpV (t : Int) (x : VT) : Option VT := if t ≤ (upV x).2.2.2 then none else some (upV x)
theorem rTick_S (k : Nat) (g : HT) (hk : g.2.2.length < k) (hl : g.2.2.length ≤ 1000000) :
    F_aqueductref18_Table_Tick.S k g = .ok (IntKind.i64.wrap ((g.2.2.length : Int) - ((g.2.2.filterMap (bumpV g.2.1)).length : Int)), g.1, g.2.1, g.2.2.filterMap (bumpV g.2.1)) := by
  unfold F_aqueductref18_Table_Tick.S F_aqueductref18_Table_Tick.top
  have lp : ∀ (n i j : Nat) (acc : List VT), i + n = g.2.2.length → n < j → acc.length ≤ i → F_aqueductref18_Table_Tick.l0 k g j (i : Int) acc = .ok (IntKind.i64.wrap ((g.2.2.length : Int) - ((acc ++ (g.2.2.drop i).filterMap (bumpV g.2.1)).length : Int)), g.1, g.2.1, acc ++ (g.2.2.drop i).filterMap (bumpV g.2.1)) := by
    intro n
    induction n with
    | zero =>
      intro i j acc hi hj ha
      obtain ⟨j, rfl⟩ : ∃ i, j = i + 1 := ⟨j - 1, by omega⟩
      show F_aqueductref18_Table_Tick.l0_b _ _ _ _ _ = _
      unfold F_aqueductref18_Table_Tick.l0_b
      rw [O.cond_neg (by omega), List.drop_eq_nil_of_le (by omega)]
      simp
    | succ n ih =>
      intro i j acc hi hj ha
      obtain ⟨j, rfl⟩ : ∃ i, j = i + 1 := ⟨j - 1, by omega⟩
      have hlt : i < g.2.2.length := by omega
      have e2 : IntKind.i64.wrap ((i : Int) + 1) = ((i + 1 : Nat) : Int) := by rw [i64_in _ (by omega)]; omega
      show F_aqueductref18_Table_Tick.l0_b _ _ _ _ _ = _
      unfold F_aqueductref18_Table_Tick.l0_b
      rw [O.cond_pos (by omega), O.chk_dec (by omega), O.chk_dec (by omega), gt_at _ g.2.2 i hlt, e2, List.drop_eq_getElem_cons hlt, List.filterMap_cons]
      generalize g.2.2[i] = y
      by_cases hb : g.2.1 ≤ (upV y).2.2.2
      · have e : bumpV g.2.1 y = none := if_pos hb
        rw [O.cond_neg (by show ¬ (upV y).2.2.2 < g.2.1; omega), ih (i + 1) j acc (by omega) (by omega) (by omega), e]
      · have e : bumpV g.2.1 y = some (upV y) := if_neg hb
        rw [O.cond_pos (by show (upV y).2.2.2 < g.2.1; omega), O.chk_dec (by simp; omega), ih (i + 1) j _ (by omega) (by omega) (by simp; omega), e]
        simp [upV]
  have := lp g.2.2.length 0 k [] (by omega) hk (by simp)
  simpa using this
end Go.Proofs.Ythdmjbndfnolmaa
