/- The order of an fdb's rows: that of the comparison's closure; a sorted list of its own; plain. -/
import Derived.Sort.Walk0
import Derived.Test.YthdmjbndfnolmaaDTab
namespace Go.Proofs.Ythdmjbndfnolmaa
open Go.Aq (sLt)
set_option linter.unusedVariables false
def cmpI (x y : Int) : Int := if x < y then -1 else if y < x then 1 else 0
def cmpT (x y : ByteArray) : Int := if sLt x y = true then -1 else if x = y then 0 else 1
def orI (a b : Int) : Int := if a ≠ 0 then a else b
def cmpV (x y : Int × ByteArray × Int × Int) : Int := orI (cmpI x.1 y.1) (cmpT x.2.1 y.2.1)
def vcells (v : Int × ByteArray × Int × Int) : List Value := [.int .i64 v.1, .string v.2.1, .int .i64 v.2.2.1, .int .i64 v.2.2.2]
theorem sLt_eq (a b : ByteArray) : sLt a b = decide (a.data.toList < b.data.toList) := by unfold sLt; rw [bytesLess_eq]
theorem ba_ext {a b : ByteArray} (h : a.data.toList = b.data.toList) : a = b := by
  cases a; cases b
  simp at h
  simp [h]
theorem sLt_irrefl (a : ByteArray) : sLt a a = false := by
  rw [sLt_eq]; simp
theorem sLt_trans {a b c : ByteArray} (h : sLt a b = true) (k : sLt b c = true) : sLt a c = true := by
  rw [sLt_eq, decide_eq_true_eq] at *
  exact List.lt_trans h k
theorem sLt_total {a b : ByteArray} (h : sLt a b = false) (k : sLt b a = false) : a = b := by
  rw [sLt_eq, decide_eq_false_iff_not] at *
  exact ba_ext (List.le_antisymm (List.not_lt.1 k) (List.not_lt.1 h))
theorem sLt_asymm {a b : ByteArray} (h : sLt a b = true) : sLt b a = false := by
  cases k : sLt b a with
  | false => rfl
  | true => have := sLt_trans h k; rw [sLt_irrefl] at this; cases this
/-- By network, then by address. -/
def ltV (x y : Int × ByteArray × Int × Int) : Bool := decide (x.1 < y.1) || (decide (x.1 = y.1) && sLt x.2.1 y.2.1)
theorem cmpV_lt (x y : Int × ByteArray × Int × Int) : decide (cmpV x y < 0) = ltV x y := by
  unfold cmpV orI cmpI cmpT ltV
  by_cases h1 : x.1 < y.1
  · simp [h1]
  · by_cases h2 : y.1 < x.1
    · have h3 : ¬ x.1 = y.1 := by omega
      simp [h1, h2, h3]
    · have h3 : x.1 = y.1 := by omega
      simp only [h3, Int.lt_irrefl, if_false]
      cases h4 : sLt x.2.1 y.2.1 with
      | true => simp
      | false =>
        by_cases h5 : x.2.1 = y.2.1 <;> simp [h5]
theorem ltV_irrefl (x : Int × ByteArray × Int × Int) : ltV x x = false := by simp [ltV, sLt_irrefl]
theorem ltV_trans {x y z : Int × ByteArray × Int × Int} (h : ltV x y = true) (k : ltV y z = true) : ltV x z = true := by
  simp only [ltV, Bool.or_eq_true, Bool.and_eq_true, decide_eq_true_eq] at *
  rcases h with h | ⟨h, h'⟩ <;> rcases k with k | ⟨k, k'⟩
  · left; omega
  · left; omega
  · left; omega
  · right; exact ⟨by omega, sLt_trans h' k'⟩
theorem ltV_asymm {x y : Int × ByteArray × Int × Int} (h : ltV x y = true) : ltV y x = false := by
  cases k : ltV y x with
  | false => rfl
  | true => have := ltV_trans h k; rw [ltV_irrefl] at this; cases this
def keyV (v : Int × ByteArray × Int × Int) : Int × ByteArray := (v.1, v.2.1)
theorem ltV_total {x y : Int × ByteArray × Int × Int} (h : ltV x y = false) (k : ltV y x = false) : keyV x = keyV y := by
  simp only [ltV, Bool.or_eq_false_iff, Bool.and_eq_false_iff, decide_eq_false_iff_not] at *
  have e : x.1 = y.1 := by omega
  have h' : sLt x.2.1 y.2.1 = false := by rcases h.2 with h | h; exact absurd e h; exact h
  have k' : sLt y.2.1 x.2.1 = false := by rcases k.2 with h | h; exact absurd e.symm h; exact h
  unfold keyV
  rw [e, sLt_total h' k']
theorem ltV_key {x y x' y' : Int × ByteArray × Int × Int} (h : keyV x = keyV x') (k : keyV y = keyV y') : ltV x y = ltV x' y' := by
  unfold keyV at h k
  simp only [Prod.mk.injEq] at h k
  unfold ltV
  rw [h.1, h.2, k.1, k.2]
theorem ltV_ntrans {x y z : Int × ByteArray × Int × Int} (h : ltV x y = false) (k : ltV y z = false) : ltV x z = false := by
  cases hyx : ltV y x with
  | false =>
    rw [ltV_key (ltV_total h hyx) rfl]; exact k
  | true =>
    cases hxz : ltV x z with
    | false => rfl
    | true => rw [ltV_trans hyx hxz] at k; cases k
def ins (x : Int × ByteArray × Int × Int) : List (Int × ByteArray × Int × Int) → List (Int × ByteArray × Int × Int)
  | [] => [x]
  | y :: r => if ltV x y = true then x :: y :: r else y :: ins x r
def isort : List (Int × ByteArray × Int × Int) → List (Int × ByteArray × Int × Int)
  | [] => []
  | x :: r => ins x (isort r)
theorem ins_perm (x : Int × ByteArray × Int × Int) : ∀ l, (ins x l).Perm (x :: l)
  | [] => List.Perm.refl _
  | y :: r => by
    unfold ins
    split
    · exact List.Perm.refl _
    · exact ((ins_perm x r).cons y).trans (List.Perm.swap x y r)
theorem isort_perm : ∀ l, (isort l).Perm l
  | [] => List.Perm.refl _
  | x :: r => (ins_perm x (isort r)).trans ((isort_perm r).cons x)
/-- Rising, each once. -/
def Up (l : List (Int × ByteArray × Int × Int)) : Prop := l.Pairwise fun a b => ltV a b = true
theorem ins_up (x : Int × ByteArray × Int × Int) : ∀ l, Up l → (∀ y ∈ l, keyV x ≠ keyV y) → Up (ins x l)
  | [], _, _ => List.pairwise_singleton _ _
  | y :: r, h, hk => by
    unfold ins
    obtain ⟨h1, h2⟩ := List.pairwise_cons.1 h
    split
    · rename_i hlt
      refine List.pairwise_cons.2 ⟨fun z hz => ?_, h⟩
      rcases List.mem_cons.1 hz with rfl | hz
      · exact hlt
      · exact ltV_trans hlt (h1 z hz)
    · rename_i hlt
      rw [Bool.not_eq_true] at hlt
      have hyx : ltV y x = true := by
        cases e : ltV y x with
        | true => rfl
        | false => exact absurd (ltV_total hlt e) (hk y (by simp))
      refine List.pairwise_cons.2 ⟨fun z hz => ?_, ins_up x r h2 (fun z hz => hk z (by simp [hz]))⟩
      rcases List.mem_cons.1 ((ins_perm x r).mem_iff.1 hz) with rfl | hz
      · exact hyx
      · exact h1 z hz
theorem isort_up : ∀ l, (l.map keyV).Nodup → Up (isort l)
  | [], _ => List.Pairwise.nil
  | x :: r, h => by
    rw [List.map_cons, List.nodup_cons] at h
    refine ins_up x _ (isort_up r h.2) fun y hy e => h.1 ?_
    rw [e]
    exact List.mem_map.2 ⟨y, (isort_perm r).mem_iff.1 hy, rfl⟩
theorem up_uniq : ∀ (a b : List (Int × ByteArray × Int × Int)), Up a → Up b → a.Perm b → a = b
  | [], b, _, _, h => h.nil_eq
  | x :: a, [], _, _, h => by simpa using h.length_eq
  | x :: a, y :: b, ha, hb, h => by
    obtain ⟨a1, a2⟩ := List.pairwise_cons.1 ha
    obtain ⟨b1, b2⟩ := List.pairwise_cons.1 hb
    have e : x = y := by
      rcases List.mem_cons.1 (h.mem_iff.1 (List.mem_cons_self (a := x) (l := a))) with e | hx
      · exact e
      · rcases List.mem_cons.1 (h.mem_iff.2 (List.mem_cons_self (a := y) (l := b))) with e | hy
        · exact e.symm
        · have := ltV_asymm (a1 y hy); rw [b1 x hx] at this; cases this
    subst e
    rw [up_uniq a b a2 b2 (List.Perm.cons_inv h)]
theorem isort_is {l r : List (Int × ByteArray × Int × Int)} (hp : r.Perm l) (hu : Up r) : isort l = r := by
  have hn : (r.map keyV).Nodup := by
    unfold List.Nodup
    rw [List.pairwise_map]
    refine List.Pairwise.imp ?_ hu
    intro a b h e
    rw [ltV_key e rfl, ltV_irrefl] at h
    cases h
  have hn' : (l.map keyV).Nodup := (hp.map keyV).nodup_iff.1 hn
  exact up_uniq _ _ (isort_up l hn') hu ((isort_perm l).trans hp.symm)
end Go.Proofs.Ythdmjbndfnolmaa
