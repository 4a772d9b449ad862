/- From a function's contract to a law's row; words for the plain laws. -/
import Derived.Test.YtpfddjdkafjjfaaGreatV16
import Derived.IntWalk
import Derived.Laws.BitsLemmas
import Derived.Laws.BitsAllLaws
namespace Go.Aq
open Go.RowKit (Below)

/-- A law's row, out of its contract: no objects, no other end than a bool. -/
theorem FnOkC.law {P : Program} {f : FuncId} {as : As} {S : as.T → Unit → O Bool} (h : FnOkC P f ⟨as, [], [⟨.val (.leaf .bool), [], []⟩]⟩ S) {x : as.T} (hm : S x () = .ok true) {w : World} {vs : List Value} (ha : repAs w (fun _ => .pointer none) (fun b => b < w.heap.size ∧ b ∉ []) as x vs) {va : Array Value} (hva : vs.toArray = va) :
    Calls P f va w fun e w' => e = .returned (.bool true) ∧ Below w.heap.size w w' := by
  subst hva
  refine (h x () (by rw [hm]; intro h; cases h) w vs (fun _ => .pointer none) [] rfl List.nodup_nil ha).mono ?_
  intro e w' hp
  obtain ⟨z, hz, hK, α', F1, F2, _, _, r2, _, _⟩ := hp
  rw [hm] at hz
  obtain rfl := O.ok.inj hz
  cases e with
  | returned v =>
    obtain ⟨cs, ⟨rfl, _⟩, h2⟩ := r2
    have h2 : [den ν0 (Lf.bool.enc true)] = [v] := h2
    simp only [List.cons.injEq, and_true] at h2
    exact ⟨by rw [← h2]; rfl, hK.os, hK.tape, hK.output, hK.size, fun b hb => hK.heap b hb (by simp)⟩
  | panicked ch => exact r2.elim
  | outgrown => exact r2.elim

@[simp] theorem O.bind_ok {α β : Type} (a : α) (f : α → O β) : O.bind (.ok a) f = f a := O.both_eq _ _ _
@[simp] theorem O.bind_pan {α β : Type} (e : PV) (f : α → O β) : O.bind (.pan e) f = .no := O.both_eq _ _ _
@[simp] theorem O.both_ok {α β : Type} (a : α) (f : α → O β) (g : PV → O β) : O.both (.ok a) f g = f a := O.both_eq _ _ _
@[simp] theorem O.both_pan {α β : Type} (e : PV) (f : α → O β) (g : PV → O β) : O.both (.pan e) f g = g e := O.both_eq _ _ _
@[simp] theorem O.cond_true {α : Type} (x y : O α) : O.cond true x y = x := O.cond_eq _ _ _
@[simp] theorem O.cond_false {α : Type} (x y : O α) : O.cond false x y = y := O.cond_eq _ _ _
@[simp] theorem O.chk_true {α : Type} (x : O α) : O.chk true x = x := O.chk_eq _ _
theorem O.cond_dec {α : Type} (p : Prop) [Decidable p] (x y : O α) : O.cond (decide p) x y = if p then x else y := by
  by_cases h : p <;> simp [h]
theorem O.chk_dec {α : Type} {p : Prop} [Decidable p] (h : p) (x : O α) : O.chk (decide p) x = x := by simp [h]
theorem O.cond_pos {α : Type} {p : Prop} [Decidable p] (h : p) (x y : O α) : O.cond (decide p) x y = x := by simp [h]
theorem O.cond_neg {α : Type} {p : Prop} [Decidable p] (h : ¬ p) (x y : O α) : O.cond (decide p) x y = y := by simp [h]

theorem wf_u16 {a : Int} (h : (Lit.int .u16 a).wf = true) : 0 ≤ a ∧ a ≤ 65535 := by
  simp [Lit.wf, IntKind.min, IntKind.max, IntKind.bits, IntKind.signed] at h; omega
theorem wf_u8 {a : Int} (h : (Lit.int .u8 a).wf = true) : 0 ≤ a ∧ a ≤ 255 := by
  simp [Lit.wf, IntKind.min, IntKind.max, IntKind.bits, IntKind.signed] at h; omega
theorem wf_u32 {a : Int} (h : (Lit.int .u32 a).wf = true) : 0 ≤ a ∧ a ≤ 4294967295 := by
  simp [Lit.wf, IntKind.min, IntKind.max, IntKind.bits, IntKind.signed] at h; omega
theorem wf_i64 {a : Int} (h : (Lit.int .i64 a).wf = true) : -9223372036854775808 ≤ a ∧ a ≤ 9223372036854775807 := by
  simp [Lit.wf, IntKind.min, IntKind.max, IntKind.bits, IntKind.signed] at h; omega

theorem bt_lo (s : ByteArray) (i : Int) : 0 ≤ bt s i := Int.natCast_nonneg _
theorem bt_hi (s : ByteArray) (i : Int) : bt s i ≤ 255 := by
  have := (s.data.toList.getD i.toNat 0).toNat_lt
  unfold bt; omega

theorem shR_eq (k : IntKind) (a : Int) (j : Nat) (h : j ≤ k.bits) : shR k a (j : Int) = a / 2 ^ j := by
  unfold shR
  rw [Int.toNat_natCast, Nat.min_eq_left h, Int.fdiv_eq_ediv_of_nonneg _ (by exact Int.pow_nonneg (by decide))]
theorem shL_eq (k : IntKind) (a : Int) (j : Nat) (h : j ≤ k.bits) : shL k a (j : Int) = k.wrap (a * 2 ^ j) := by
  unfold shL
  rw [Int.toNat_natCast, Nat.min_eq_left h]
theorem quo_in (x y : Int) (h : 0 ≤ x) : x.tdiv y = x / y := Int.tdiv_eq_ediv_of_nonneg h
theorem bits32 : IntKind.u32.bits = 32 := rfl
theorem bits16 : IntKind.u16.bits = 16 := rfl

/-- The bits of numbers that have no sign: as those of natural numbers. -/
theorem natOf_ofInt (k : IntKind) (a : Nat) (h : a < 2 ^ k.bits) : (BitVec.ofInt k.bits (a : Int)).toNat = a := by
  rw [BitVec.toNat_ofInt]
  have : ((a : Int) % ((2 ^ k.bits : Nat) : Int)) = a := by
    rw [Int.emod_eq_of_lt (Int.natCast_nonneg a) (by exact_mod_cast h)]
  rw [this]; rfl
theorem bAnd_nat (k : IntKind) (a b : Nat) (ha : a < 2 ^ k.bits) (hb : b < 2 ^ k.bits) : bAnd k (a : Int) (b : Int) = k.wrap ((a &&& b : Nat) : Int) := by
  unfold bAnd; rw [BitVec.toNat_and, natOf_ofInt k a ha, natOf_ofInt k b hb]
theorem bOr_nat (k : IntKind) (a b : Nat) (ha : a < 2 ^ k.bits) (hb : b < 2 ^ k.bits) : bOr k (a : Int) (b : Int) = k.wrap ((a ||| b : Nat) : Int) := by
  unfold bOr; rw [BitVec.toNat_or, natOf_ofInt k a ha, natOf_ofInt k b hb]
theorem bXor_nat (k : IntKind) (a b : Nat) (ha : a < 2 ^ k.bits) (hb : b < 2 ^ k.bits) : bXor k (a : Int) (b : Int) = k.wrap ((a ^^^ b : Nat) : Int) := by
  unfold bXor; rw [BitVec.toNat_xor, natOf_ofInt k a ha, natOf_ofInt k b hb]
/-- Low bits of a number. -/
theorem bAnd_mask (k : IntKind) (a : Int) (j : Nat) (h0 : 0 ≤ a) (h : a < 2 ^ k.bits) (hj : j ≤ k.bits) : bAnd k a (2 ^ j - 1) = k.wrap (a % 2 ^ j) := by
  obtain ⟨n, rfl⟩ := Int.eq_ofNat_of_zero_le h0
  have h2 : (2 ^ j - 1 : Int) = ((2 ^ j - 1 : Nat) : Int) := by rw [Int.natCast_sub (Nat.one_le_two_pow)]; push_cast; rfl
  have hn : n < 2 ^ k.bits := by exact_mod_cast h
  rw [h2, bAnd_nat k _ _ hn (Nat.lt_of_lt_of_le (Nat.sub_lt (Nat.two_pow_pos j) Nat.one_pos) (Nat.pow_le_pow_right (by decide) hj)), Nat.and_two_pow_sub_one_eq_mod]
  push_cast; rfl
/-- Two numbers side by side. -/
theorem bOr_join (k : IntKind) (a b : Int) (j : Nat) (ha : 0 ≤ a) (hb : 0 ≤ b) (hbj : b < 2 ^ j) (h : a * 2 ^ j < 2 ^ k.bits) (hj : j ≤ k.bits) : bOr k (a * 2 ^ j) b = k.wrap (a * 2 ^ j + b) := by
  obtain ⟨n, rfl⟩ := Int.eq_ofNat_of_zero_le ha
  obtain ⟨m, rfl⟩ := Int.eq_ofNat_of_zero_le hb
  have hm : m < 2 ^ j := by exact_mod_cast hbj
  have hn : n * 2 ^ j < 2 ^ k.bits := by exact_mod_cast h
  have hm' : m < 2 ^ k.bits := Nat.lt_of_lt_of_le hm (Nat.pow_le_pow_right (by decide) hj)
  have := bOr_nat k (n * 2 ^ j) m hn hm'
  push_cast at this
  rw [this]
  have h3 : (n * 2 ^ j ||| m) = n * 2 ^ j + m := by
    have := Nat.two_pow_add_eq_or_of_lt hm n
    rw [Nat.mul_comm] at this
    exact this.symm
  rw [h3]; push_cast; rfl
end Go.Aq
