/- Texts of this proof, joined (4 of them): V17, V18, V19, V20.
   Conditions: none but those that stand at each theorem. -/
import Derived.Test.YtpfddjdkafjjfaaE4
import Derived.IntWalk
import Derived.Laws.BitsLemmas
import Derived.Laws.BitsAllLaws
import Derived.ChangeSlices
import Derived.Carry
import Derived.Deep.Slices
section
namespace Go.Aq
open Go.RowKit (Below)
theorem FnOkC.law {P : Program} {f : FuncId} {as : As} {S : as.T → Unit → O Bool} (h : FnOkC P f ⟨as, [], [⟨.val (.leaf .bool), [], []⟩]⟩ S) {x : as.T} (hm : S x () = .ok true) {w : World} {vs : List Value} (ha : repAs w (fun _ => .pointer none) (fun b => b < w.heap.size ∧ b ∉ []) as x vs) {va : Array Value} (hva : vs.toArray = va) :
  Calls P f va w fun e w' => e = .returned (.bool true) ∧ Below w.heap.size w w' := by
 subst hva
 refine (h x () (by rw [hm]; intro h; cases h) w vs (fun _ => .pointer none) [] (fun b => b < w.heap.size ∧ b ∉ ([] : List Nat)) (fun b hb => hb) rfl List.nodup_nil ha).mono ?_
 intro e w' hp
 obtain ⟨z, hz, hK, α', F1, F2, _, _, _, r2, _, _⟩ := hp
 rw [hm] at hz
 obtain rfl := O.ok.inj hz
 cases e with
 | returned v =>
  obtain ⟨cs, ⟨rfl, _⟩, h2⟩ := r2
  have h2 : [den ν0 (Lf.bool.enc true)] = [v] := h2
  simp only [List.cons.injEq, and_true] at h2
  exact ⟨by rw [← h2]; rfl, hK.os, hK.tape, hK.output, hK.size, fun b hb => hK.heap b hb (by simp)⟩
 | panicked ch => exact r2.elim
 | outgrown => exact r2.elim
@[simp] theorem O.bind_ok {α β : Type} (a : α) (f : α → O β) : O.bind (.ok a) f = f a := O.both_eq _ _ _
@[simp] theorem O.cond_true {α : Type} (x y : O α) : O.cond true x y = x := O.cond_eq _ _ _
@[simp] theorem O.cond_false {α : Type} (x y : O α) : O.cond false x y = y := O.cond_eq _ _ _
@[simp] theorem O.chk_true {α : Type} (x : O α) : O.chk true x = x := O.chk_eq _ _
theorem O.cond_dec {α : Type} (p : Prop) [Decidable p] (x y : O α) : O.cond (decide p) x y = if p then x else y := by
 by_cases h : p <;> simp [h]
theorem O.chk_dec {α : Type} {p : Prop} [Decidable p] (h : p) (x : O α) : O.chk (decide p) x = x := by simp [h]
theorem O.cond_pos {α : Type} {p : Prop} [Decidable p] (h : p) (x y : O α) : O.cond (decide p) x y = x := by simp [h]
theorem O.cond_neg {α : Type} {p : Prop} [Decidable p] (h : ¬ p) (x y : O α) : O.cond (decide p) x y = y := by simp [h]
theorem bt_lo (s : ByteArray) (i : Int) : 0 ≤ bt s i := Int.natCast_nonneg _
theorem bt_hi (s : ByteArray) (i : Int) : bt s i ≤ 255 := by
 have := (s.data.toList.getD i.toNat 0).toNat_lt
 unfold bt; omega
theorem shR_eq (k : IntKind) (a : Int) (j : Nat) (h : j ≤ k.bits) : shR k a (j : Int) = a / 2 ^ j := by
 unfold shR
 rw [Int.toNat_natCast, Nat.min_eq_left h, Int.fdiv_eq_ediv_of_nonneg _ (by exact Int.pow_nonneg (by decide))]
theorem shL_eq (k : IntKind) (a : Int) (j : Nat) (h : j ≤ k.bits) : shL k a (j : Int) = k.wrap (a * 2 ^ j) := by
 unfold shL
 rw [Int.toNat_natCast, Nat.min_eq_left h]
theorem natOf_ofInt (k : IntKind) (a : Nat) (h : a < 2 ^ k.bits) : (BitVec.ofInt k.bits (a : Int)).toNat = a := by
 rw [BitVec.toNat_ofInt]
 have : ((a : Int) % ((2 ^ k.bits : Nat) : Int)) = a := by
  rw [Int.emod_eq_of_lt (Int.natCast_nonneg a) (by exact_mod_cast h)]
 rw [this]; rfl
theorem bOr_nat (k : IntKind) (a b : Nat) (ha : a < 2 ^ k.bits) (hb : b < 2 ^ k.bits) : bOr k (a : Int) (b : Int) = k.wrap ((a ||| b : Nat) : Int) := by
 unfold bOr; rw [BitVec.toNat_or, natOf_ofInt k a ha, natOf_ofInt k b hb]
theorem bOr_join (k : IntKind) (a b : Int) (j : Nat) (ha : 0 ≤ a) (hb : 0 ≤ b) (hbj : b < 2 ^ j) (h : a * 2 ^ j < 2 ^ k.bits) (hj : j ≤ k.bits) : bOr k (a * 2 ^ j) b = k.wrap (a * 2 ^ j + b) := by
 obtain ⟨n, rfl⟩ := Int.eq_ofNat_of_zero_le ha
 obtain ⟨m, rfl⟩ := Int.eq_ofNat_of_zero_le hb
 have hm : m < 2 ^ j := by exact_mod_cast hbj
 have hn : n * 2 ^ j < 2 ^ k.bits := by exact_mod_cast h
 have hm' : m < 2 ^ k.bits := Nat.lt_of_lt_of_le hm (Nat.pow_le_pow_right (by decide) hj)
 have := bOr_nat k (n * 2 ^ j) m hn hm'
 push_cast at this
 rw [this]
 have h3 : (n * 2 ^ j ||| m) = n * 2 ^ j + m := by
  have := Nat.two_pow_add_eq_or_of_lt hm n
  rw [Nat.mul_comm] at this
  exact this.symm
 rw [h3]; push_cast; rfl
end Go.Aq
end
section
namespace Go.Aq
open Go.RowKit (Below)
set_option linter.unusedVariables false
mutual
def leavesS : Sh → Option (List Lf)
 | .leaf l => some [l]
 | .row _ _ _ => none
 | .map _ _ _ _ _ => none
 | .tab _ _ _ => none
 | .box _ _ => none
 | .agg f => leavesF f
def leavesF : Shs → Option (List Lf)
 | .one s [] => leavesS s
 | .cons s r => match leavesS s, leavesF r with
  | some a, some b => some (a ++ b)
  | _, _ => none
 | _ => none
end
mutual
def fitE (P : Program) : TypeId → Sh → Prop
 | t, .leaf (.int k) => P.underlying t = some (.int k)
 | t, .leaf .bool => P.underlying t = some .bool
 | t, .leaf .str => P.underlying t = some .string
 | t, .row _ _ _ => False
 | t, .map _ _ _ _ _ => False
 | t, .tab _ _ _ => False
 | t, .box _ _ => False
 | t, .agg f => ∃ fs, P.underlying t = some (.struct fs) ∧ fitEF P fs.toList 0 f ∧ P.cellsOf t = f.sz
def fitEF (P : Program) : List Field → Nat → Shs → Prop
 | [f], o, .one s [] => f.offset = o ∧ P.cellsOf f.type = s.sz ∧ fitE P f.type s
 | f :: g :: fs, o, .cons s r => f.offset = o ∧ P.cellsOf f.type = s.sz ∧ fitE P f.type s ∧ fitEF P (g :: fs) (o + s.sz) r
 | _, _, _ => False
end
mutual
def fitS (P : Program) : TypeId → Sh → Prop
 | t, .leaf (.int k) => P.underlying t = some (.int k)
 | t, .leaf .bool => P.underlying t = some .bool
 | t, .leaf .str => P.underlying t = some .string
 | t, .row own e ls => own = false ∧ P.underlying t = some (.slice e) ∧ P.cellsOf e = ls.length ∧ ls ≠ [] ∧ ∃ s, leavesS s = some ls ∧ fitE P e s
 | t, .map _ _ _ _ _ => False
 | t, .box _ _ => False
 | t, .tab own e f => own = false ∧ P.underlying t = some (.slice e) ∧ P.cellsOf e = f.sz ∧ 1 ≤ f.sz ∧ ∃ fs, P.underlying e = some (.struct fs) ∧ fitF P fs.toList 0 f
 | t, .agg f => ∃ fs, P.underlying t = some (.struct fs) ∧ fitF P fs.toList 0 f ∧ P.cellsOf t = f.sz
def fitF (P : Program) : List Field → Nat → Shs → Prop
 | [f], o, .one s [] => f.offset = o ∧ P.cellsOf f.type = s.sz ∧ fitS P f.type s
 | f :: g :: fs, o, .cons s r => f.offset = o ∧ P.cellsOf f.type = s.sz ∧ fitS P f.type s ∧ fitF P (g :: fs) (o + s.sz) r
 | _, _, _ => False
end
def okLf : (l : Lf) → l.T → Prop
 | .int k, n => (Lit.int k n).wf = true
 | .bool, _ => True
 | .str, s => s.size ≤ maxLen
def okL : (ls : List Lf) → LT ls → Prop
 | [], _ => True
 | [l], x => okLf l x
 | l :: m :: ls, x => okLf l x.1 ∧ okL (m :: ls) x.2
mutual
def okS : (s : Sh) → s.T → Prop
 | .leaf l, x => okLf l x
 | .row _ _ ls, xs => xs.length ≤ maxLen ∧ ∀ x ∈ (show List (LT ls) from xs), okL ls x
 | .map _ _ _ _ _, _ => True
 | .box _ _, _ => True
 | .tab _ _ f, xs => xs.length ≤ maxLen ∧ ∀ x ∈ (show List f.T from xs), okF f x
 | .agg f, x => okF f x
def okF : (f : Shs) → f.T → Prop
 | .one s _, x => okS s x
 | .cons s r, x => okS s x.1 ∧ okF r x.2
 | .pin _ r, x => okF r x
 | .pins _, _ => True
end
theorem joinL : ∀ (a b : List Lf) (x : LT a) (y : LT b), okL a x → okL b y → ∃ z : LT (a ++ b), cellsV (a ++ b) z = cellsV a x ++ cellsV b y ∧ okL (a ++ b) z
 | [], b, x, y, _, hy => ⟨y, rfl, hy⟩
 | [l], [], x, y, hx, _ => ⟨x, by simp [cellsV, encL, denL], hx⟩
 | [l], m :: b, x, y, hx, hy => ⟨(x, y), by simp [cellsV, encL, denL], hx, hy⟩
 | l :: m :: a, b, x, y, hx, hy => by
  obtain ⟨z, h1, h2⟩ := joinL (m :: a) b x.2 y hx.2 hy
  refine ⟨(x.1, z), ?_, hx.1, h2⟩
  have e1 : cellsV (l :: m :: (a ++ b)) (x.1, z) = den ν0 (l.enc x.1) :: cellsV (m :: (a ++ b)) z := by simp [cellsV, encL, denL]
  have e2 : cellsV (l :: m :: a) x = den ν0 (l.enc x.1) :: cellsV (m :: a) x.2 := by simp [cellsV, encL, denL]
  rw [show cellsV (l :: m :: a ++ b) (x.1, z) = cellsV (l :: m :: (a ++ b)) (x.1, z) from rfl, e1, e2]
  rw [show cellsV (m :: (a ++ b)) z = cellsV (m :: a ++ b) z from rfl, h1]; rfl
section
variable {H : Type} {enc : TypeId × Value → H} {P : Program} {w : World} {base : Nat} {spare : Nat → Bool} {held : Bool}
mutual
theorem trod_flat : ∀ (s : Sh) (ls : List Lf) (t : TypeId) (fuel : Nat) (cs : List Value) (x : DataW H × List MemPlace), leavesS s = some ls → fitE P t s → DataW.trod enc P w base spare held fuel t cs = some x → ∃ z : LT ls, cs = cellsV ls z ∧ okL ls z ∧ cs.length = s.sz
 | .leaf (.int k), ls, t, fuel, cs, x, hl, hf, h => by
  obtain ⟨n, rfl, _, hw⟩ := DataW.trod_int hf h
  simp only [leavesS, Option.some.injEq] at hl; subst hl
  exact ⟨n, rfl, hw, rfl⟩
 | .leaf .bool, ls, t, fuel, cs, x, hl, hf, h => by
  obtain ⟨b, rfl, _⟩ := DataW.trod_bool hf h
  simp only [leavesS, Option.some.injEq] at hl; subst hl
  exact ⟨b, rfl, trivial, rfl⟩
 | .leaf .str, ls, t, fuel, cs, x, hl, hf, h => by
  obtain ⟨s, rfl, _, hs⟩ := DataW.trod_string hf h
  simp only [leavesS, Option.some.injEq] at hl; subst hl
  exact ⟨s, rfl, hs, rfl⟩
 | .row _ _ _, ls, t, fuel, cs, x, hl, hf, h => hf.elim
 | .map _ _ _ _ _, ls, t, fuel, cs, x, hl, hf, h => hf.elim
 | .tab _ _ _, ls, t, fuel, cs, x, hl, hf, h => hf.elim
 | .box _ _, ls, t, fuel, cs, x, hl, hf, h => hf.elim
 | .agg f, ls, t, fuel, cs, x, hl, hf, h => by
  obtain ⟨fs, ht, hff, hsz⟩ := hf
  obtain ⟨xs, n, _, _, hlen, hxs, hall⟩ := DataW.trod_struct ht h
  obtain ⟨z, h1, h2⟩ := trod_flatF f ls fs.toList 0 n cs hl hff (fun j g hg => by
   have hj : j < fs.size := by
    have := (List.getElem?_eq_some_iff.1 hg).1
    simpa using this
   have := hall j g (by rw [← Array.getElem?_toList]; exact hg)
   rw [List.getElem?_eq_getElem (by omega : j < xs.length)] at this
   exact ⟨_, this⟩) (by rw [hlen, hsz]; omega)
  exact ⟨z, (by rw [List.drop_zero] at h1; exact h1), h2, by rw [hlen, hsz]; rfl⟩
theorem trod_flatF : ∀ (f : Shs) (ls : List Lf) (fs : List Field) (o n : Nat) (cs : List Value), leavesF f = some ls → fitEF P fs o f → (∀ (j : Nat) (g : Field), fs[j]? = some g → ∃ x, DataW.trod enc P w base spare held n g.type ((cs.drop g.offset).take (P.cellsOf g.type)) = some x) → cs.length = o + f.sz → ∃ z : LT ls, cs.drop o = cellsV ls z ∧ okL ls z
 | .one s [], ls, [f], o, n, cs, hl, hf, hall, hlen => by
  obtain ⟨ho, hsz, hfit⟩ := hf
  obtain ⟨x, hx⟩ := hall 0 f rfl
  obtain ⟨z, h1, h2, h3⟩ := trod_flat s ls f.type n _ x hl hfit hx
  rw [ho, hsz, List.take_of_length_le (by rw [List.length_drop, hlen]; simp only [Shs.sz, List.length_nil]; omega)] at h1
  exact ⟨z, h1, h2⟩
 | .one s [], ls, [], o, n, cs, hl, hf, hall, hlen => hf.elim
 | .one s [], ls, _ :: _ :: _, o, n, cs, hl, hf, hall, hlen => hf.elim
 | .one s (_ :: _), ls, fs, o, n, cs, hl, hf, hall, hlen => by simp [leavesF] at hl
 | .pin _ _, ls, fs, o, n, cs, hl, hf, hall, hlen => by simp [leavesF] at hl
 | .pins _, ls, fs, o, n, cs, hl, hf, hall, hlen => by simp [leavesF] at hl
 | .cons s r, ls, [], o, n, cs, hl, hf, hall, hlen => hf.elim
 | .cons s r, ls, [_], o, n, cs, hl, hf, hall, hlen => hf.elim
 | .cons s r, ls, f :: g :: fs, o, n, cs, hl, hf, hall, hlen => by
  obtain ⟨ho, hsz, hfit, hrest⟩ := hf
  simp only [leavesF] at hl
  split at hl
  ·rename_i a b ha hb
   cases hl
   obtain ⟨x, hx⟩ := hall 0 f rfl
   obtain ⟨y, h1, h2, h3⟩ := trod_flat s a f.type n _ x ha hfit hx
   rw [ho, hsz] at h1
   obtain ⟨z, h4, h5⟩ := trod_flatF r b (g :: fs) (o + s.sz) n cs hb hrest (fun j g' hg => hall (j + 1) g' hg) (by rw [hlen]; simp only [Shs.sz]; omega)
   obtain ⟨u, h6, h7⟩ := joinL a b y z h2 h5
   refine ⟨u, ?_, h7⟩
   rw [h6, ← h1, ← h4, ← List.drop_drop, List.take_append_drop]
  ·cases hl
end
theorem flat_idx (ls : List Lf) (hls : ls ≠ []) : ∀ (xs : List (LT ls)) (i : Nat) (u : Value), (flat ls xs)[i]? = some u → ∃ q r z, xs[q]? = some z ∧ (cellsV ls z)[r]? = some u ∧ i = q * ls.length + r
 | [], i, u, h => by simp [flat] at h
 | x :: xs, i, u, h => by
  have hl := cellsV_length ls x
  rw [flat, List.getElem?_append, hl] at h
  split at h
  ·exact ⟨0, i, x, rfl, h, by omega⟩
  ·obtain ⟨q, r, z, h1, h2, h3⟩ := flat_idx ls hls xs _ u h
   refine ⟨q + 1, r, z, by simpa using h1, h2, ?_⟩
   rw [Nat.add_mul, Nat.one_mul]; omega
theorem cells?_at {a : Addr} {n : Nat} {cs : List Value} (h : w.cells? base a n = some cs) (i : Nat) (u : Value) (hu : cs[i]? = some u) : w.cell? (a.add i) = some u := by
 unfold World.cells? at h
 split at h
 ·have hl := mapM_some_length h
  rw [List.length_range] at hl
  have hi : i < n := by
   have := (List.getElem?_eq_some_iff.1 hu).1
   omega
  have := mapM_some_get h i i (List.getElem?_range hi)
  rw [this, hu]
 ·cases h
theorem trod_row {t e : TypeId} {s : Sh} {ls : List Lf} {fuel : Nat} {cs : List Value} {x : DataW H × List MemPlace} (ht : P.underlying t = some (.slice e)) (hc : P.cellsOf e = ls.length) (hls : ls ≠ []) (hl : leavesS s = some ls) (he : fitE P e s) (h : DataW.trod enc P w base spare held fuel t cs = some x) :
  ∃ (v : Value) (xs : List (LT ls)), cs = [v] ∧ RowSat w v false e ls xs ∧ xs.length ≤ maxLen ∧ ∀ z ∈ xs, okL ls z := by
 rcases Deep.open_slice ht h with ⟨rfl, _⟩ | ⟨a, len, cap, m, n, D, Pl, rfl, hb, hlc, hcm, hm, _, hall⟩
 ·exact ⟨_, [], rfl, .inl ⟨rfl, rfl⟩, Nat.zero_le _, fun n hn => by cases hn⟩
 ·have hlm : len ≤ m := by rw [hm]; split <;> omega
  have each : ∀ i, i < len → ∃ z : LT ls, okL ls z ∧ w.cells? base (a.add (i * ls.length)) ls.length = some (cellsV ls z) := by
   intro i hi
   obtain ⟨cs', h1, h2⟩ := hall i (by omega)
   obtain ⟨z, rfl, hz, _⟩ := trod_flat s ls e n cs' _ hl he h2
   rw [hc] at h1
   exact ⟨z, hz, h1⟩
  have pick : ∀ k, k ≤ len → ∃ xs : List (LT ls), xs.length = k ∧ ∀ (i : Nat) (z : LT ls), xs[i]? = some z → okL ls z ∧ w.cells? base (a.add (i * ls.length)) ls.length = some (cellsV ls z) := by
   intro k
   induction k with
   | zero => exact fun _ => ⟨[], rfl, fun i z h => by simp at h⟩
   | succ k ih =>
    intro hk
    obtain ⟨xs, h1, h2⟩ := ih (by omega)
    obtain ⟨z, hz, hc⟩ := each k (by omega)
    refine ⟨xs ++ [z], by simp [h1], fun i y hy => ?_⟩
    rw [List.getElem?_append] at hy
    split at hy
    ·exact h2 i y hy
    ·rename_i hik
     have : i = k := by
      rcases Nat.lt_trichotomy i k with h | h | h
      ·omega
      ·exact h
      ·rw [List.getElem?_eq_none (by simp; omega)] at hy; cases hy
     subst this
     rw [h1, Nat.sub_self] at hy
     cases hy
     exact ⟨hz, hc⟩
  obtain ⟨xs, hlen, hx⟩ := pick len (Nat.le_refl _)
  have cell : ∀ i u, (flat ls xs)[i]? = some u → w.cell? (a.add i) = some u := by
   intro i u hu
   obtain ⟨q, r, z, h1, h2, rfl⟩ := flat_idx ls hls xs i u hu
   rw [← Deep.add_add]
   exact cells?_at (hx q z h1).2 r u h2
  refine ⟨_, xs, rfl, .inr ⟨a, cap, by rw [hlen], by omega, fun _ => ⟨cell, fun hne hls' => ?_⟩, fun h => by cases h⟩, by omega, fun z hz => ?_⟩
  ·have hp : 0 < (flat ls xs).length := by
    rw [flat_length]
    exact Nat.mul_pos (List.length_pos_iff.2 hne) (List.length_pos_iff.2 hls')
   have := World.cell?_spot (cell 0 _ (List.getElem?_eq_getElem hp))
   simpa [Addr.add] using this
  ·obtain ⟨i, hi⟩ := List.getElem?_of_mem hz
   exact (hx i z hi).1
mutual
theorem trod_rep {α : Nat → Value} : ∀ (s : Sh) (t : TypeId) (fuel : Nat) (cs : List Value) (x : DataW H × List MemPlace), fitS P t s → DataW.trod enc P w base spare held fuel t cs = some x → ∃ y : s.T, repS w α (fun b => b < w.heap.size ∧ b ∉ ([] : List Nat)) s y cs [] ∧ okS s y ∧ cs.length = s.sz
 | .leaf (.int k), t, fuel, cs, x, hf, h => by
  obtain ⟨n, rfl, _, hw⟩ := DataW.trod_int hf h
  exact ⟨n, ⟨rfl, rfl⟩, hw, rfl⟩
 | .leaf .bool, t, fuel, cs, x, hf, h => by
  obtain ⟨b, rfl, _⟩ := DataW.trod_bool hf h
  exact ⟨b, ⟨rfl, rfl⟩, trivial, rfl⟩
 | .leaf .str, t, fuel, cs, x, hf, h => by
  obtain ⟨s, rfl, _, hs⟩ := DataW.trod_string hf h
  exact ⟨s, ⟨rfl, rfl⟩, hs, rfl⟩
 | .row own e ls, t, fuel, cs, x, hf, h => by
  obtain ⟨rfl, ht, hc, hls, s, hl, he⟩ := hf
  obtain ⟨v, xs, rfl, hr, hn, hw⟩ := trod_row ht hc hls hl he h
  refine ⟨xs, ⟨v, rfl, hls, hr, rfl, fun b hb => ⟨?_, by simp⟩⟩, ⟨hn, hw⟩, rfl⟩
  have hs : hoSat (fun _ => v) w 0 (.row false e ls xs) := ⟨hls, hr⟩
  exact hoSat_lt hs b (.inr hb)
 | .map _ _ _ _ _, t, fuel, cs, x, hf, h => hf.elim
 | .box _ _, t, fuel, cs, x, hf, h => hf.elim
 | .tab own e f, t, fuel, cs, x, hf, h => by
  obtain ⟨rfl, ht, hc, hpos, fs, hfs, hff⟩ := hf
  rcases Deep.open_slice ht h with ⟨rfl, _⟩ | ⟨a, len, cap, m, n, D, Pl, rfl, hb, hlc, hcm, hm, _, hall⟩
  ·exact ⟨[], ⟨_, [], [], [], rfl, rfl, hpos, .inl ⟨rfl, rfl, rfl, rfl⟩, rfl, rfl⟩, ⟨Nat.zero_le _, fun n hn => by cases hn⟩, rfl⟩
  ·have hlm : len ≤ m := by rw [hm]; split <;> omega
   have each : ∀ i, i < len → ∃ y : f.T, okF f y ∧ ∃ us, us.length = f.sz ∧ w.cells? base (a.add (i * f.sz)) f.sz = some us ∧ repF w α (fun b => b < w.heap.size ∧ b ∉ ([] : List Nat)) f y us [] := by
    intro i hi
    obtain ⟨cs', h1, h2⟩ := hall i (by omega)
    rw [hc] at h1
    obtain ⟨xs, n', _, _, hlen, hxs, hall'⟩ := DataW.trod_struct hfs h2
    obtain ⟨y, g1, g2⟩ := trod_repF (α := α) f fs.toList 0 n' cs' hff (fun j g hg => by
     have hj : j < fs.size := by
      have := (List.getElem?_eq_some_iff.1 hg).1
      simpa using this
     have := hall' j g (by rw [← Array.getElem?_toList]; exact hg)
     rw [List.getElem?_eq_getElem (by omega : j < xs.length)] at this
     exact ⟨_, this⟩) (by rw [hlen, hc]; omega)
    rw [List.drop_zero] at g1
    exact ⟨y, g2, cs', by rw [hlen, hc], h1, g1⟩
   have pick : ∀ k, k ≤ len → ∃ (ys : List f.T) (us : List Value), ys.length = k ∧ (∀ z ∈ ys, okF f z) ∧ us.length = k * f.sz ∧ (∀ i u, us[i]? = some u → w.cell? (a.add i) = some u) ∧ Elts (repF w α (fun b => b < w.heap.size ∧ b ∉ ([] : List Nat)) f) f.sz ys us [] := by
    intro k
    induction k with
    | zero => exact fun _ => ⟨[], [], rfl, (fun z h => absurd h List.not_mem_nil), (by rw [Nat.zero_mul]; rfl), (fun i u h => by simp at h), rfl, rfl⟩
    | succ k ih =>
     intro hk
     obtain ⟨ys, us, h1, h2, h3, h4, h5⟩ := ih (by omega)
     obtain ⟨z, hz, us', g1, g2, g3⟩ := each k (by omega)
     refine ⟨ys ++ [z], us ++ us', by simp [h1], fun y hy => ?_, by rw [List.length_append, h3, g1, Nat.add_mul, Nat.one_mul], fun i u hu => ?_, ?_⟩
     ·rcases List.mem_append.1 hy with hy | hy
      ·exact h2 y hy
      ·rw [List.mem_singleton.1 hy]; exact hz
     ·rw [List.getElem?_append] at hu
      split at hu
      ·exact h4 i u hu
      ·rename_i hik
       have g4 := cells?_at g2 _ u hu
       rw [Deep.add_add, h3] at g4
       rw [h3] at hik
       rwa [show k * f.sz + (i - k * f.sz) = i by omega] at g4
     ·have := h5.append (ys := [z]) (us := us') (G := []) ⟨us', [], [], [], by simp, rfl, g1, g3, rfl, rfl⟩
      simpa using this
   obtain ⟨ys, us, hlen, hok, hul, hcell, hel⟩ := pick len (Nat.le_refl _)
   refine ⟨ys, ⟨_, us, [], [], rfl, rfl, hpos, .inr ⟨a, cap, by rw [hlen], by omega, fun _ => ⟨rfl, hcell, fun hne => ?_⟩, fun h => by cases h⟩, hel⟩, ⟨by rw [hlen]; omega, hok⟩, rfl⟩
   have hp : 0 < us.length := by
    rw [hul, ← hlen]
    exact Nat.mul_pos (by omega) hpos
   have h3 := hcell 0 _ (List.getElem?_eq_getElem hp)
   rw [show a.add 0 = a from rfl] at h3
   refine ⟨World.cell?_spot h3, ?_, by simp⟩
   exact block_lt_of_cell h3
 | .agg f, t, fuel, cs, x, hf, h => by
  obtain ⟨fs, ht, hff, hsz⟩ := hf
  obtain ⟨xs, n, _, _, hlen, hxs, hall⟩ := DataW.trod_struct ht h
  obtain ⟨y, h1, h2⟩ := trod_repF f fs.toList 0 n cs hff (fun j g hg => by
   have hj : j < fs.size := by
    have := (List.getElem?_eq_some_iff.1 hg).1
    simpa using this
   have := hall j g (by rw [← Array.getElem?_toList]; exact hg)
   rw [List.getElem?_eq_getElem (by omega : j < xs.length)] at this
   exact ⟨_, this⟩) (by rw [hlen, hsz]; omega)
  exact ⟨y, (by rw [List.drop_zero] at h1; exact h1), h2, by rw [hlen, hsz]; rfl⟩
theorem trod_repF {α : Nat → Value} : ∀ (f : Shs) (fs : List Field) (o n : Nat) (cs : List Value), fitF P fs o f → (∀ (j : Nat) (g : Field), fs[j]? = some g → ∃ x, DataW.trod enc P w base spare held n g.type ((cs.drop g.offset).take (P.cellsOf g.type)) = some x) → cs.length = o + f.sz → ∃ y : f.T, repF w α (fun b => b < w.heap.size ∧ b ∉ ([] : List Nat)) f y (cs.drop o) [] ∧ okF f y
 | .one s [], [f], o, n, cs, hf, hall, hlen => by
  obtain ⟨ho, hsz, hfit⟩ := hf
  obtain ⟨x, hx⟩ := hall 0 f rfl
  obtain ⟨y, h1, h2, h3⟩ := trod_rep (α := α) s f.type n _ x hfit hx
  rw [ho, hsz, List.take_of_length_le (by rw [List.length_drop, hlen]; simp only [Shs.sz, List.length_nil]; omega)] at h1
  exact ⟨y, ⟨_, by simp, h1⟩, h2⟩
 | .one s [], [], o, n, cs, hf, hall, hlen => hf.elim
 | .one s [], _ :: _ :: _, o, n, cs, hf, hall, hlen => hf.elim
 | .one s (_ :: _), fs, o, n, cs, hf, hall, hlen => by cases fs <;> simp [fitF] at hf
 | .pin _ _, fs, o, n, cs, hf, hall, hlen => by cases fs <;> simp [fitF] at hf
 | .pins _, fs, o, n, cs, hf, hall, hlen => by cases fs <;> simp [fitF] at hf
 | .cons s r, [], o, n, cs, hf, hall, hlen => hf.elim
 | .cons s r, [_], o, n, cs, hf, hall, hlen => hf.elim
 | .cons s r, f :: g :: fs, o, n, cs, hf, hall, hlen => by
  obtain ⟨ho, hsz, hfit, hrest⟩ := hf
  obtain ⟨x, hx⟩ := hall 0 f rfl
  obtain ⟨y, h1, h2, h3⟩ := trod_rep (α := α) s f.type n _ x hfit hx
  rw [ho, hsz] at h1
  obtain ⟨z, h4, h5⟩ := trod_repF (α := α) r (g :: fs) (o + s.sz) n cs hrest (fun j g' hg => hall (j + 1) g' hg) (by rw [hlen]; simp only [Shs.sz]; omega)
  refine ⟨(y, z), ⟨_, _, [], [], ?_, rfl, h1, h4⟩, h2, h5⟩
  rw [← List.drop_drop, List.take_append_drop]
end
theorem open_tb {α : Nat → Value} {r : Reach} {b0 : Nat} {t e : TypeId} {v : Value} {d : DataW H} {ps : List MemPlace} {f : Shs} (hf : fitS P t (.tab false e f)) (hval : Value.okWide P w r b0 t v) (hd : DataW.Trod enc P w base spare held t v d ps) :
  ∃ y : List f.T, repV w α (fun b => b < w.heap.size ∧ b ∉ ([] : List Nat)) (.tab false e f) y v [] ∧ okS (.tab false e f) y := by
 obtain ⟨fuel, h⟩ := hd
 have hv : v.cells.toList = [v] := by
  obtain ⟨_, ht, _⟩ := hf
  unfold Value.okWide at hval
  rw [ht] at hval
  cases v <;> first | rfl | skip
  unfold Cell.okWide at hval
  rw [ht] at hval
  unfold Cell.ok at hval
  rw [ht] at hval
  simp at hval
 rw [hv] at h
 obtain ⟨y, h1, h2, _⟩ := trod_rep (α := α) (.tab false e f) t fuel _ _ hf h
 exact ⟨y, ⟨_, h1, by simp [valIs]⟩, h2⟩
end
end Go.Aq
end
section
namespace Go.Aq
open Go.IntWalk
set_option linter.unusedVariables false
def O.sat {α : Type} (x : O α) (P : α → Prop) : Prop := ∃ a, x = .ok a ∧ P a
section
variable {α β : Type} {P : α → Prop} {x y : O α}
theorem O.sat_ok {a : α} (h : P a) : O.sat (.ok a) P := ⟨a, rfl, h⟩
theorem O.sat_mono {Q : α → Prop} (h : O.sat x Q) (hq : ∀ a, Q a → P a) : O.sat x P := by obtain ⟨a, h, hp⟩ := h; exact ⟨a, h, hq a hp⟩
theorem O.sat_eq {m : O β} {f : β → O α} {b : β} (h : m = .ok b) (hf : O.sat (f b) P) : O.sat (O.bind m f) P := by
 rw [h, O.bind_ok]; exact hf
theorem O.sat_twice (h : O.sat x P) : O.sat (O.twice x) P := by rw [O.twice_eq]; exact h
end
theorem size_list (s : ByteArray) : s.size = s.data.toList.length := Array.length_toList.symm
theorem app_list (a b : ByteArray) : (a ++ b).data.toList = a.data.toList ++ b.data.toList := by simp
theorem app_size (a b : ByteArray) : (a ++ b).size = a.size + b.size := by rw [size_list, app_list, List.length_append, ← size_list, ← size_list]
theorem ext_list (s : ByteArray) (i j : Nat) : (s.extract i j).data.toList = (s.data.toList.drop i).take (j - i) := by
 simp [ByteArray.data_extract, Array.toList_extract, List.extract_eq_take_drop]
theorem ext_size (s : ByteArray) (i j : Nat) : (s.extract i j).size = min j s.size - i := ByteArray.size_extract
theorem list_eq {a b : ByteArray} (h : a.data.toList = b.data.toList) : a = b := by
 cases a; cases b; simp at h; rw [h]
theorem bt_getD (s : ByteArray) (i : Nat) : bt s (i : Int) = ((s.data.toList.getD i 0).toNat : Int) := by unfold bt; rw [Int.toNat_natCast]
theorem bt_at (s : ByteArray) (i : Nat) (h : i < s.data.toList.length) : bt s (i : Int) = ((s.data.toList[i]'h).toNat : Int) := by
 unfold bt; rw [Int.toNat_natCast, List.getD_eq_getElem?_getD, List.getElem?_eq_getElem h]; rfl
theorem bt_strOf (L : List Int) (h : ∀ x ∈ L, 0 ≤ x ∧ x ≤ 255) (i : Nat) : bt (strOf L) (i : Int) = L.getD i 0 := by
 rw [bt_getD]
 show (((L.map fun n => UInt8.ofNat n.toNat).getD i 0).toNat : Int) = _
 simp only [List.getD_eq_getElem?_getD, List.getElem?_map]
 cases hx : L[i]? with
 | none => rfl
 | some x =>
  have hm := h x (List.mem_of_getElem? hx)
  show ((UInt8.ofNat x.toNat).toNat : Int) = x
  rw [UInt8.toNat_ofNat']
  omega
theorem size_strOf (L : List Int) : (strOf L).size = L.length := by
 rw [size_list]; show (L.map fun n => UInt8.ofNat n.toNat).length = _; simp
theorem bt_app (a b : ByteArray) (i : Nat) : bt (a ++ b) (i : Int) = if i < a.size then bt a (i : Int) else bt b ((i - a.size : Nat) : Int) := by
 rw [bt_getD, bt_getD, bt_getD, app_list, size_list, List.getD_eq_getElem?_getD, List.getD_eq_getElem?_getD, List.getD_eq_getElem?_getD]
 split
 ·rw [List.getElem?_append_left (by assumption)]
 ·rw [List.getElem?_append_right (by omega)]
theorem bt_ext (a : ByteArray) (i j n : Nat) (h : n < j - i) : bt (a.extract i j) (n : Int) = bt a ((i + n : Nat) : Int) := by
 rw [bt_getD, bt_getD, ext_list, List.getD_eq_getElem?_getD, List.getD_eq_getElem?_getD, List.getElem?_take_of_lt h, List.getElem?_drop]
def be (s : ByteArray) (i : Nat) : Nat → Int
 | 0 => 0
 | n + 1 => be s i n * 256 + bt s ((i + n : Nat) : Int)
theorem be_lo (s : ByteArray) (i : Nat) : ∀ n, 0 ≤ be s i n ∧ be s i n < 256 ^ n
 | 0 => by simp [be]
 | n + 1 => by
  have := be_lo s i n; have h1 := bt_lo s ((i + n : Nat) : Int); have h2 := bt_hi s ((i + n : Nat) : Int)
  unfold be
  rw [Int.pow_succ]
  omega
theorem be_app (a b : ByteArray) (o : Nat) : ∀ n, o + n ≤ a.size → be (a ++ b) o n = be a o n
 | 0, _ => rfl
 | n + 1, h => by
  unfold be
  rw [be_app a b o n (by omega), bt_app, if_pos (by omega)]
theorem bits64 : IntKind.u64.bits = 64 := rfl
theorem step_u64 (v b : Int) (hv : 0 ≤ v ∧ v < 2 ^ 56) (hb : 0 ≤ b ∧ b ≤ 255) : bOr .u64 (shL .u64 v 8) (IntKind.u64.wrap b) = v * 256 + b := by
 have s8 : shL .u64 v 8 = IntKind.u64.wrap (v * 2 ^ 8) := shL_eq .u64 v 8 (by decide)
 rw [u64_in b (by omega), s8, show ((2 : Int) ^ 8) = 256 from rfl, u64_in _ (by omega)]
 have := bOr_join .u64 v b 8 hv.1 hb.1 (by omega) (by rw [bits64]; omega) (by decide)
 rw [show ((2 : Int) ^ 8) = 256 from rfl] at this
 rw [this, u64_in _ (by omega)]
end Go.Aq
end
section
namespace Go.Aq
open Go.RowKit (Below)
set_option linter.unusedVariables false
def Sh.flat : Sh → Bool
 | .leaf _ => true
 | _ => false
def Shs.flat : Shs → Bool
 | .one s ps => s.flat && ps.isEmpty
 | .cons s r => s.flat && r.flat
 | _ => false
def AK.flat : AK → Bool
 | .unit => true
 | .val s => s.flat
 | .tup f => f.flat
 | .pan _ _ _ _ => true
 | .pan0 _ _ => true
 | _ => false
theorem repV_flat {w : World} {α : Nat → Value} {Av : Nat → Prop} : ∀ {s : Sh} {x : s.T} {v : Value} {F : List Nat}, s.flat = true → repV w α Av s x v F → F = []
 | .leaf l, x, v, F, _, h => by obtain ⟨cs, h, _⟩ := h; exact h.2
 | .row _ _ _, _, _, _, h, _ => by cases h
 | .agg _, _, _, _, h, _ => by cases h
 | .map _ _ _ _ _, _, _, _, h, _ => by cases h
 | .tab _ _ _, _, _, _, h, _ => by cases h
 | .box _ _, _, _, _, h, _ => by cases h
theorem repA_flat {w : World} {α : Nat → Value} {Av : Nat → Prop} : ∀ {f : Shs} {x : f.T} {vs : List Value} {F : List Nat}, f.flat = true → repA w α Av f x vs F → F = []
 | .one s [], x, vs, F, hf, h => by
  simp only [Shs.flat, Bool.and_eq_true] at hf
  simp only [repA] at h
  obtain ⟨v, h1, h2⟩ := h
  exact repV_flat hf.1 h2
 | .one s (_ :: _), x, vs, F, hf, h => by simp [Shs.flat] at hf
 | .cons s r, x, vs, F, hf, h => by
  simp only [Shs.flat, Bool.and_eq_true] at hf
  simp only [repA] at h
  obtain ⟨v, vs', F1, F2, h1, h2, h3, h4⟩ := h
  have e1 := repV_flat hf.1 h3
  have e2 := repA_flat hf.2 h4
  subst e1 e2
  exact h2
 | .pin _ _, _, _, _, hf, _ => by cases hf
 | .pins _, _, _, _, hf, _ => by cases hf
theorem repE_flat {w : World} {α : Nat → Value} {Z : Nat → Prop} {k : AK} {x : k.T} {e : Ending} {F : List Nat} (hf : k.flat = true) (h : repE w α Z k x e F) : F = [] := by
 cases k <;> cases e <;> simp only [repE] at h
 all_goals first
  | exact h.2
  | exact h.elim
  | exact repV_flat hf h
  | (obtain ⟨vs, _, h⟩ := h; exact repA_flat hf h)
  | cases hf
def FnPostR (w : World) (C : Ct) (α : Nat → Value) (m : O (AltsT [] C.outs)) (e : Ending) (w' : World) : Prop :=
 ∃ z, m = .ok z ∧ Keep [] w w' ∧ isAlt [] C.outs z fun a y => ∃ α', repE w' α' (fun _ => False) a.k (prK a.k _ y) e []
def FnOkR (P : Program) (f : FuncId) (C : Ct) (S : C.as.T → ObT C.ob → O (AltsT [] C.outs)) : Prop :=
 ∀ x g, S x g ≠ .no → ∀ w vs α F0 (Z : Nat → Prop), (∀ b, Z b → b < w.heap.size ∧ b ∉ F0) → repO w α Z 0 C.ob g F0 → F0.Nodup → repAs w α Z C.as x vs → Calls P f vs.toArray w (FnPostR w C α (S x g))
def Ct.goodR (C : Ct) : Bool := Ct.good ⟨C.as, C.ob, []⟩ && C.outs.all fun a => a.new.isEmpty && a.k.flat && a.k.fresh && a.k.lt 0
theorem isAlt_monoM {ob : Obs} : ∀ {l : List Alt} {z : AltsT ob l} {P Q : (a : Alt) → PT a.k (ob ++ a.new) → Prop}, isAlt ob l z P → (∀ a ∈ l, ∀ y, P a y → Q a y) → isAlt ob l z Q
 | [], _, _, _, h, _ => h
 | [a], y, _, _, h, k => k a (by simp) y h
 | a :: _ :: _, .inl y, _, _, h, k => k a (by simp) y h
 | _ :: b :: r, .inr z, _, _, h, k => isAlt_monoM (l := b :: r) (z := z) h fun a ha => k a (List.mem_cons_of_mem _ ha)
theorem flatOf {l : List Alt} (h : (l.all fun a => a.new.isEmpty && a.k.flat && a.k.fresh && a.k.lt 0) = true) {a : Alt} (ha : a ∈ l) : a.new = [] ∧ a.k.flat = true ∧ a.k.fresh = true ∧ a.k.lt 0 = true := by
 have := List.all_eq_true.1 h a ha
 simp only [Bool.and_eq_true, List.isEmpty_iff] at this
 exact ⟨this.1.1.1, this.1.1.2, this.1.2, this.2⟩
theorem flatEnd {l : List Alt} (h : (l.all fun a => a.new.isEmpty && a.k.flat && a.k.fresh && a.k.lt 0) = true) {a : Alt} (ha : a ∈ l) {S : Bl} {w0 w : World} {α : Nat → Value} {e : Ending} {y : PT a.k ([] ++ a.new)} (hy : AltIs S w0 w α [] e a y) : ∃ α', repE w α' (fun _ => False) a.k (prK a.k _ y) e [] := by
 obtain ⟨α', F1, F2, Z', _, _, h2, _⟩ := hy
 have := repE_flat (flatOf h ha).2.1 h2
 subst this
 exact ⟨α', fresh_E a.k _ [] (flatOf h ha).2.2.1 h2⟩
theorem keepR {F0 : List Nat} {w w' : World} {ν ν' : Nat → Value} {st st' : St} {Z : Nat → Prop} (hR : RelW ⟨(· ∈ F0), Z⟩ w ν' st' w') (hs : Step ν st w ν' st' w') (hd : st'.dirty = false) : Keep [] w w' :=
 ⟨hR.os, hR.tape, hR.output, hR.size, fun b hb _ => hs.same hd b hb⟩
theorem FnOkR.of_ev {P : Program} {tab : Tab} (hT : tabChk P tab = true) {C : Ct} (hg : C.goodR = true) {cal : Cal (AltsT [] C.outs)} (hC : CalOk P cal) (hM : P.follows .mixedOrders = true) {f : FuncId} {fn : Func} (hf : P.funcs[f]? = some fn) (nt : Notes) (k : Nat)
  {S : C.as.T → ObT C.ob → O (AltsT [] C.outs)} (ha : ∀ x g, Nat.ble (giveAs (γ0 C) C.as x (startO C g).nx).1.length fn.ntmps = true)
  (h : ∀ x g, evFn tab cal fn nt k C.ob.length (giveAs (γ0 C) C.as x (startO C g).nx).1 [] ((startO C g).adds (giveAs (γ0 C) C.as x (startO C g).nx).2) (fun v st => ifb st.dirty .no (outK [] [] C.outs v st .ok)) (fun e st => ifb st.dirty .no (outP [] [] C.outs e st .ok)) = S x g) : FnOkR P f C S := by
 intro x g hne w vs α F0 Z hZ hO hnd hA
 unfold Ct.goodR at hg
 rw [Bool.and_eq_true] at hg
 obtain ⟨hg, hg'⟩ := hg
 obtain ⟨ν, hR, hden, hlt, hbx, hν⟩ := start_sound (C := ⟨C.as, C.ob, []⟩) hg x g hZ hO hnd hA
 have hp : ∀ k, k < C.ob.length → ∃ b, α k = .pointer (some ⟨b, 0, none⟩) := fun k hk => repO_ptr hO k (Nat.zero_le _) (by omega)
 rw [← hden]
 refine (evFn_sound hT hC hM f fn hf nt k (ha x g) hbx hR hlt (h x g) hne).mono ?_
 intro e w' hp'
 cases e with
 | returned v =>
  obtain ⟨ν', st', r, hR', hs, rfl, hrl, hk⟩ := hp'
  dsimp only at hk
  cases hd : st'.dirty with
  | true => rw [hd] at hk; exact absurd hk.symm hne
  | false =>
   rw [hd] at hk
   have hk' : outK [] [] C.outs r st' .ok = S x g := hk
   have hGT : GamT [] (fun _ => undef) ν' := fun i hi => by cases hi
   obtain ⟨z, h1, h2⟩ := outK_sound (α := fun _ => undef) hR' rfl (fun k hk => by cases hk) hGT hne r hrl C.outs _ hk'
   exact ⟨z, h1.symm, keepR hR' hs hd, isAlt_monoM h2 fun a ha y hy => flatEnd hg' ha hy⟩
 | panicked ch =>
  obtain ⟨ν', st', e, hR', hs, rfl, hk⟩ := hp'
  dsimp only at hk
  cases hd : st'.dirty with
  | true => rw [hd] at hk; exact absurd hk.symm hne
  | false =>
   rw [hd] at hk
   have hk' : outP [] [] C.outs e st' .ok = S x g := hk
   have hGT : GamT [] (fun _ => undef) ν' := fun i hi => by cases hi
   obtain ⟨z, h1, h2⟩ := outP_sound (α := fun _ => undef) hR' rfl (fun k hk => by cases hk) hGT hne e C.outs _ hk'
   exact ⟨z, h1.symm, keepR hR' hs hd, isAlt_monoM h2 fun a ha y hy => flatEnd hg' ha hy⟩
 | outgrown => exact hp'.elim
noncomputable def pureR {T : Type} (C : Ct) (bd : List Pth) (S : C.as.T → ObT C.ob → O (AltsT [] C.outs)) : Hd T := fun args sl st K Kp =>
 foldJs (opnsFor C args st.H) st fun st => match bindG args st.H bd [] with
 | some γ => ifb (Nat.beq γ.length C.ob.length) (takeO γ 0 C.ob (frzO γ 0 C.ob st).H fun g H => takeAs γ false C.as args H fun x => altsK [] C.outs (S x g) fun a y => giveK [] (frzO γ 0 C.ob st) K Kp a.k (prK a.k _ y)) .no
 | none => .no
theorem pureR_ok {P : Program} {f : FuncId} {T : Type} {C : Ct} (hg : C.goodR = true) (bd : List Pth) {S : C.as.T → ObT C.ob → O (AltsT [] C.outs)} (hF : FnOkR P f C S) (hcall : ∀ as w, (callFunc f as).run P w = .ok (.enter f as) w) : HdOk P f (pureR (T := T) C bd S) := by
 intro args sl st K Kp hne
 refine ⟨hcall, fun Sp w0 ν w hR hb => ?_⟩
 unfold Ct.goodR at hg
 rw [Bool.and_eq_true] at hg
 obtain ⟨hg, hg'⟩ := hg
 have G := Ct.good' hg
 generalize hres : pureR C bd S args sl st K Kp = res at hne ⊢
 unfold pureR at hres
 obtain ⟨ν0', st0, hre0, hres⟩ := foldJs_sound hne (opnsFor C args st.H) hR hres
 have hdargs : denL ν args = denL ν0' args := denL_congr hre0.agree args hb
 have hb0 : belowL st0.nx args = true := belowL_mono hre0.nx args hb
 rw [hdargs]
 cases hbd : bindG args st0.H bd [] with
 | none => rw [hbd] at hres; exact absurd hres.symm hne
 | some γ =>
  rw [hbd] at hres
  dsimp only at hres
  by_cases hlen : Nat.beq γ.length C.ob.length = true
  case neg => rw [Bool.not_eq_true] at hlen; rw [hlen] at hres; exact absurd hres.symm hne
  rw [hlen, ifb_true] at hres
  have hlen := Nat.eq_of_beq_eq_true hlen
  obtain ⟨ν', z1⟩ := frzO_sound (γ := γ) C.ob 0 hre0.rel
  have hre := hre0.trans z1.re
  have hag := z1.agree
  generalize hst2 : frzO γ 0 C.ob st0 = st2 at hres hre hag z1
  rw [denL_congr hag args hb0]
  have hstep0 := hre.step
  have hR := hre.rel
  clear hdargs hag z1
  have hGT : GamT γ (fun i => den ν' (.ptr (nth γ i) 0)) ν' := fun i _ => rfl
  obtain ⟨g, H, F0, h1, hO, t⟩ := takeO_sound hR hGT hne C.ob 0 (by omega) st2.H _ (fun _ _ h => h) (Av := fun b => ∃ j o, lkp j st2.H = some o ∧ b ∈ seenL ν' j o) (fun j o b hj hb => by
   rcases hb with hb | hb
   ·exact ⟨j, o, hj, hb⟩
   ·cases hb.1) hres
  obtain ⟨x, h2, hA⟩ := takeAs_sound (fz := false) (Av := fun b => ∃ j o, lkp j H = some o ∧ (b ∈ seenL ν' j o ∨ (false = false ∧ b ∈ mineL ν' j o))) hR hGT hne C.as G.seen args H _ (t.sub (fun _ _ h => h)) (fun j o b hj hb => ⟨j, o, hj, hb⟩) h1
  obtain ⟨z, hz, hq⟩ := altsK_is hne h2
  let Z : Nat → Prop := fun b => (∃ j o, lkp j st2.H = some o ∧ b ∈ seenL ν' j o) ∨ (∃ j o, lkp j H = some o ∧ b ∈ mineL ν' j o)
  have hZ : ∀ b, Z b → b < w.heap.size ∧ b ∉ F0 := by
   intro b hb
   rcases hb with ⟨j, o, hj, hb⟩ | ⟨j, o, hj, hb⟩
   ·refine ⟨hoSat_lt (hR.sat j o hj) b (.inr hb), fun hF => ?_⟩
    obtain ⟨j', o', q1, _, q3⟩ := t.2.2 b hF
    exact hR.apart j' j o' o b q1 hj q3 hb
   ·exact ⟨hoSat_lt (hR.sat j o (t.1 j o hj)) b (.inl hb), t.apart hR hj (.inl hb)⟩
  refine (hF x g (by rw [hz]; intro h; cases h) w _ _ F0 Z hZ (mono_O (fun b hb => .inl hb) C.ob 0 g F0 hO) t.2.1 (mono_As (fun b hb => by
   obtain ⟨j, o, hj, hb⟩ := hb
   rcases hb with hb | hb
   ·exact .inl ⟨j, o, t.1 j o hj, hb⟩
   ·exact .inr ⟨j, o, hj, hb.2⟩) C.as x _ hA)).mono ?_
  intro e w' hp
  obtain ⟨z', hz', hK, hp⟩ := hp
  rw [hz] at hz'
  obtain rfl := O.ok.inj hz'
  obtain ⟨a, ha, y, hy, α', hr⟩ := isAlt_and hq hp
  have hR' : RelW Sp w0 ν' st2 w' := hR.below ⟨hK.os, hK.tape, hK.output, hK.size, fun b hb => hK.heap b hb (by simp)⟩
  obtain ⟨q1, q2, q3, q4⟩ := flatOf hg' ha
  have hG : Gam [] 0 α' ν' st2.nx := ⟨rfl, fun i hi => absurd hi (Nat.not_lt_zero i)⟩
  have hfree : Free Sp w0 w' ν' st2 (fun _ => False) [] := ⟨List.nodup_nil, fun b hb => absurd hb List.not_mem_nil, fun b hb => absurd hb List.not_mem_nil, fun b hb => hb.elim⟩
  obtain ⟨ν3, st3, k1, k2, k3, k4, k5⟩ := giveK_sound hR' hG a.k q4 (prK a.k _ y) e [] hr hfree hy
  have hstep : Step ν' st2 w ν3 st3 w' := ⟨k2, k4, fun h => by rw [k3, h], hK.size, fun _ b hb => hK.heap b hb (by simp)⟩
  cases e with
  | returned v =>
   obtain ⟨r, e1, e2, e3⟩ := k5
   exact ⟨ν3, st3, r, k1, hstep0.trans hstep, e1, e2, e3⟩
  | panicked ch =>
   obtain ⟨p, e1, e2⟩ := k5
   exact ⟨ν3, st3, p, k1, hstep0.trans hstep, e1, e2⟩
  | outgrown => exact k5.elim
end Go.Aq
end
