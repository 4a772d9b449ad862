/- Layer 18, plain: when an address is learned; how many keys there may be; the bits of numbers. -/
import Derived.Test.YthdmjbndfnolmaaDPFb
namespace Go.Proofs.Ythdmjbndfnolmaa
open Go.Aq Go.IntWalk
set_option linter.unusedVariables false
theorem bAnd_le (a : Int) (m : Nat) (hm : m < 1000000) : 0 ≤ bAnd .i64 a (m : Int) ∧ bAnd .i64 a (m : Int) ≤ m := by
  have e : (BitVec.ofInt 64 (m : Int)).toNat = m := natOf_ofInt .i64 m (by show m < 2 ^ 64; omega)
  have h : (BitVec.ofInt 64 a &&& BitVec.ofInt 64 (m : Int)).toNat ≤ m := by
    rw [BitVec.toNat_and, e]; exact Nat.and_le_right
  unfold bAnd
  rw [show IntKind.i64.bits = 64 from rfl, i64_in _ (by omega)]
  omega
theorem bAnd_3 (a : Int) : 0 ≤ bAnd .i64 a (3 : Int) ∧ bAnd .i64 a (3 : Int) ≤ 3 := bAnd_le a 3 (by decide)
theorem bAnd_15 (a : Int) : 0 ≤ bAnd .i64 a (15 : Int) ∧ bAnd .i64 a (15 : Int) ≤ 15 := bAnd_le a 15 (by decide)
theorem bAnd_63 (a : Int) : 0 ≤ bAnd .i64 a (63 : Int) ∧ bAnd .i64 a (63 : Int) ≤ 63 := bAnd_le a 63 (by decide)
theorem bAnd_127 (a : Int) : 0 ≤ bAnd .i64 a (127 : Int) ∧ bAnd .i64 a (127 : Int) ≤ 127 := bAnd_le a 127 (by decide)
theorem bAnd_255 (a : Int) : 0 ≤ bAnd .i64 a (255 : Int) ∧ bAnd .i64 a (255 : Int) ≤ 255 := bAnd_le a 255 (by decide)
theorem bAnd_65535 (a : Int) : 0 ≤ bAnd .i64 a (65535 : Int) ∧ bAnd .i64 a (65535 : Int) ≤ 65535 := bAnd_le a 65535 (by decide)
theorem nodup_len : ∀ (n : Nat) (l : List Int), l.Nodup → (∀ x ∈ l, 0 ≤ x ∧ x < n) → l.length ≤ n
  | 0, l, _, h => by
    cases l with
    | nil => simp
    | cons x l => have := h x (by simp); omega
  | n + 1, l, hn, h => by
    have ih := nodup_len n (l.erase (n : Int)) (hn.erase _) fun x hx => by
      rw [hn.mem_erase_iff] at hx
      have := h x hx.2
      exact ⟨this.1, by omega⟩
    rw [List.length_erase] at ih
    split at ih <;> omega
theorem learn_yes {v : Int} {m : ByteArray} {p : Int} {g : GT} (h : okLearn v m p = true) (hr : mhas g.2.2 (v, m) = true ∨ (g.2.2.length : Int) < g.1) : learnG v m p g = (true, g.1, g.2.1, mput g.2.2 (v, m) (v, m, p, (0 : Int))) := by
  unfold learnG
  rw [if_pos h, if_neg]
  rintro ⟨h1, h2⟩
  rcases hr with hr | hr
  · rw [hr] at h1; cases h1
  · omega
theorem learn_no {v : Int} {m : ByteArray} {p : Int} {g : GT} (h : okLearn v m p = false) : learnG v m p g = (false, g) := by
  unfold learnG
  rw [if_neg (by rw [h]; simp)]
theorem learn_full {v : Int} {m : ByteArray} {p : Int} {g : GT} (h : okLearn v m p = true) (h1 : mhas g.2.2 (v, m) = false) (h2 : g.1 ≤ (g.2.2.length : Int)) : learnG v m p g = (false, g) := by
  unfold learnG
  rw [if_pos h, if_pos ⟨h1, h2⟩]
theorem okLearn_iff {v : Int} {m : ByteArray} {p : Int} : okLearn v m p = true ↔ (0 ≤ v ∧ v ≤ 4094 ∧ kindB m = 1 ∧ 0 ≤ p ∧ p < 16) := by unfold okLearn; simp
theorem okLearn_not {v : Int} {m : ByteArray} {p : Int} : okLearn v m p = false ↔ ¬ (0 ≤ v ∧ v ≤ 4094 ∧ kindB m = 1 ∧ 0 ≤ p ∧ p < 16) := by unfold okLearn; simp only [decide_eq_false_iff_not]
theorem max_len : maxLen = 9223372036854775807 := by decide
end Go.Proofs.Ythdmjbndfnolmaa
