/- What a row's arguments are, as plain things: numbers, bools, strings, rows of plain things, structs of such. -/
import Derived.Test.YtpfddjdkafjjfaaGreatV17
import Derived.ChangeSlices
import Derived.Carry
import Derived.Deep.Slices
namespace Go.Aq
open Go.RowKit (Below)
set_option linter.unusedVariables false

mutual
/-- The plain things of which a thing without rows is made. -/
def leavesS : Sh → Option (List Lf)
  | .leaf l => some [l]
  | .row _ _ _ => none
  | .map _ _ _ _ _ => none
  | .tab _ _ => none
  | .agg f => leavesF f
def leavesF : Shs → Option (List Lf)
  | .one s [] => leavesS s
  | .cons s r => match leavesS s, leavesF r with
    | some a, some b => some (a ++ b)
    | _, _ => none
  | _ => none
end
mutual
/-- Is a type of that shape, without rows? -/
def fitE (P : Program) : TypeId → Sh → Prop
  | t, .leaf (.int k) => P.underlying t = some (.int k)
  | t, .leaf .bool => P.underlying t = some .bool
  | t, .leaf .str => P.underlying t = some .string
  | t, .row _ _ _ => False
  | t, .map _ _ _ _ _ => False
  | t, .tab _ _ => False
  | t, .agg f => ∃ fs, P.underlying t = some (.struct fs) ∧ fitEF P fs.toList 0 f ∧ P.cellsOf t = f.sz
def fitEF (P : Program) : List Field → Nat → Shs → Prop
  | [f], o, .one s [] => f.offset = o ∧ P.cellsOf f.type = s.sz ∧ fitE P f.type s
  | f :: g :: fs, o, .cons s r => f.offset = o ∧ P.cellsOf f.type = s.sz ∧ fitE P f.type s ∧ fitEF P (g :: fs) (o + s.sz) r
  | _, _, _ => False
end
mutual
/-- Is a type of that shape? -/
def fitS (P : Program) : TypeId → Sh → Prop
  | t, .leaf (.int k) => P.underlying t = some (.int k)
  | t, .leaf .bool => P.underlying t = some .bool
  | t, .leaf .str => P.underlying t = some .string
  | t, .row own e ls => own = false ∧ P.underlying t = some (.slice e) ∧ P.cellsOf e = ls.length ∧ ls ≠ [] ∧ ∃ s, leavesS s = some ls ∧ fitE P e s
  | t, .map _ _ _ _ _ => False
  | t, .tab e f => P.underlying t = some (.slice e) ∧ P.cellsOf e = f.sz ∧ f.tabOk = true ∧ 1 ≤ f.sz ∧ ∃ fs, P.underlying e = some (.struct fs) ∧ fitF P fs.toList 0 f
  | t, .agg f => ∃ fs, P.underlying t = some (.struct fs) ∧ fitF P fs.toList 0 f ∧ P.cellsOf t = f.sz
def fitF (P : Program) : List Field → Nat → Shs → Prop
  | [f], o, .one s [] => f.offset = o ∧ P.cellsOf f.type = s.sz ∧ fitS P f.type s
  | f :: g :: fs, o, .cons s r => f.offset = o ∧ P.cellsOf f.type = s.sz ∧ fitS P f.type s ∧ fitF P (g :: fs) (o + s.sz) r
  | _, _, _ => False
end
def okLf : (l : Lf) → l.T → Prop
  | .int k, n => (Lit.int k n).wf = true
  | .bool, _ => True
  | .str, s => s.size ≤ maxLen
def okL : (ls : List Lf) → LT ls → Prop
  | [], _ => True
  | [l], x => okLf l x
  | l :: m :: ls, x => okLf l x.1 ∧ okL (m :: ls) x.2
mutual
/-- What a row says of its arguments' plain things. -/
def okS : (s : Sh) → s.T → Prop
  | .leaf l, x => okLf l x
  | .row _ _ ls, xs => xs.length ≤ maxLen ∧ ∀ x ∈ (show List (LT ls) from xs), okL ls x
  | .map _ _ _ _ _, _ => True
  | .tab _ f, xs => xs.length ≤ maxLen ∧ ∀ x ∈ (show List f.T from xs), okF f x
  | .agg f, x => okF f x
def okF : (f : Shs) → f.T → Prop
  | .one s _, x => okS s x
  | .cons s r, x => okS s x.1 ∧ okF r x.2
  | .pin _ r, x => okF r x
  | .pins _, _ => True
end

theorem joinL : ∀ (a b : List Lf) (x : LT a) (y : LT b), okL a x → okL b y → ∃ z : LT (a ++ b), cellsV (a ++ b) z = cellsV a x ++ cellsV b y ∧ okL (a ++ b) z
  | [], b, x, y, _, hy => ⟨y, rfl, hy⟩
  | [l], [], x, y, hx, _ => ⟨x, by simp [cellsV, encL, denL], hx⟩
  | [l], m :: b, x, y, hx, hy => ⟨(x, y), by simp [cellsV, encL, denL], hx, hy⟩
  | l :: m :: a, b, x, y, hx, hy => by
    obtain ⟨z, h1, h2⟩ := joinL (m :: a) b x.2 y hx.2 hy
    refine ⟨(x.1, z), ?_, hx.1, h2⟩
    have e1 : cellsV (l :: m :: (a ++ b)) (x.1, z) = den ν0 (l.enc x.1) :: cellsV (m :: (a ++ b)) z := by simp [cellsV, encL, denL]
    have e2 : cellsV (l :: m :: a) x = den ν0 (l.enc x.1) :: cellsV (m :: a) x.2 := by simp [cellsV, encL, denL]
    rw [show cellsV (l :: m :: a ++ b) (x.1, z) = cellsV (l :: m :: (a ++ b)) (x.1, z) from rfl, e1, e2]
    rw [show cellsV (m :: (a ++ b)) z = cellsV (m :: a ++ b) z from rfl, h1]; rfl

section
variable {H : Type} {enc : TypeId × Value → H} {P : Program} {w : World} {base : Nat} {spare : Nat → Bool} {held : Bool}
mutual
theorem trod_flat : ∀ (s : Sh) (ls : List Lf) (t : TypeId) (fuel : Nat) (cs : List Value) (x : DataW H × List MemPlace), leavesS s = some ls → fitE P t s → DataW.trod enc P w base spare held fuel t cs = some x → ∃ z : LT ls, cs = cellsV ls z ∧ okL ls z ∧ cs.length = s.sz
  | .leaf (.int k), ls, t, fuel, cs, x, hl, hf, h => by
    obtain ⟨n, rfl, _, hw⟩ := DataW.trod_int hf h
    simp only [leavesS, Option.some.injEq] at hl; subst hl
    exact ⟨n, rfl, hw, rfl⟩
  | .leaf .bool, ls, t, fuel, cs, x, hl, hf, h => by
    obtain ⟨b, rfl, _⟩ := DataW.trod_bool hf h
    simp only [leavesS, Option.some.injEq] at hl; subst hl
    exact ⟨b, rfl, trivial, rfl⟩
  | .leaf .str, ls, t, fuel, cs, x, hl, hf, h => by
    obtain ⟨s, rfl, _, hs⟩ := DataW.trod_string hf h
    simp only [leavesS, Option.some.injEq] at hl; subst hl
    exact ⟨s, rfl, hs, rfl⟩
  | .row _ _ _, ls, t, fuel, cs, x, hl, hf, h => hf.elim
  | .map _ _ _ _ _, ls, t, fuel, cs, x, hl, hf, h => hf.elim
  | .tab _ _, ls, t, fuel, cs, x, hl, hf, h => hf.elim
  | .agg f, ls, t, fuel, cs, x, hl, hf, h => by
    obtain ⟨fs, ht, hff, hsz⟩ := hf
    obtain ⟨xs, n, _, _, hlen, hxs, hall⟩ := DataW.trod_struct ht h
    obtain ⟨z, h1, h2⟩ := trod_flatF f ls fs.toList 0 n cs hl hff (fun j g hg => by
      have hj : j < fs.size := by
        have := (List.getElem?_eq_some_iff.1 hg).1
        simpa using this
      have := hall j g (by rw [← Array.getElem?_toList]; exact hg)
      rw [List.getElem?_eq_getElem (by omega : j < xs.length)] at this
      exact ⟨_, this⟩) (by rw [hlen, hsz]; omega)
    exact ⟨z, (by rw [List.drop_zero] at h1; exact h1), h2, by rw [hlen, hsz]; rfl⟩
theorem trod_flatF : ∀ (f : Shs) (ls : List Lf) (fs : List Field) (o n : Nat) (cs : List Value), leavesF f = some ls → fitEF P fs o f → (∀ (j : Nat) (g : Field), fs[j]? = some g → ∃ x, DataW.trod enc P w base spare held n g.type ((cs.drop g.offset).take (P.cellsOf g.type)) = some x) → cs.length = o + f.sz → ∃ z : LT ls, cs.drop o = cellsV ls z ∧ okL ls z
  | .one s [], ls, [f], o, n, cs, hl, hf, hall, hlen => by
    obtain ⟨ho, hsz, hfit⟩ := hf
    obtain ⟨x, hx⟩ := hall 0 f rfl
    obtain ⟨z, h1, h2, h3⟩ := trod_flat s ls f.type n _ x hl hfit hx
    rw [ho, hsz, List.take_of_length_le (by rw [List.length_drop, hlen]; simp only [Shs.sz, List.length_nil]; omega)] at h1
    exact ⟨z, h1, h2⟩
  | .one s [], ls, [], o, n, cs, hl, hf, hall, hlen => hf.elim
  | .one s [], ls, _ :: _ :: _, o, n, cs, hl, hf, hall, hlen => hf.elim
  | .one s (_ :: _), ls, fs, o, n, cs, hl, hf, hall, hlen => by simp [leavesF] at hl
  | .pin _ _, ls, fs, o, n, cs, hl, hf, hall, hlen => by simp [leavesF] at hl
  | .pins _, ls, fs, o, n, cs, hl, hf, hall, hlen => by simp [leavesF] at hl
  | .cons s r, ls, [], o, n, cs, hl, hf, hall, hlen => hf.elim
  | .cons s r, ls, [_], o, n, cs, hl, hf, hall, hlen => hf.elim
  | .cons s r, ls, f :: g :: fs, o, n, cs, hl, hf, hall, hlen => by
    obtain ⟨ho, hsz, hfit, hrest⟩ := hf
    simp only [leavesF] at hl
    split at hl
    · rename_i a b ha hb
      cases hl
      obtain ⟨x, hx⟩ := hall 0 f rfl
      obtain ⟨y, h1, h2, h3⟩ := trod_flat s a f.type n _ x ha hfit hx
      rw [ho, hsz] at h1
      obtain ⟨z, h4, h5⟩ := trod_flatF r b (g :: fs) (o + s.sz) n cs hb hrest (fun j g' hg => hall (j + 1) g' hg) (by rw [hlen]; simp only [Shs.sz]; omega)
      obtain ⟨u, h6, h7⟩ := joinL a b y z h2 h5
      refine ⟨u, ?_, h7⟩
      rw [h6, ← h1, ← h4, ← List.drop_drop, List.take_append_drop]
    · cases hl
end
theorem flat_idx (ls : List Lf) (hls : ls ≠ []) : ∀ (xs : List (LT ls)) (i : Nat) (u : Value), (flat ls xs)[i]? = some u → ∃ q r z, xs[q]? = some z ∧ (cellsV ls z)[r]? = some u ∧ i = q * ls.length + r
  | [], i, u, h => by simp [flat] at h
  | x :: xs, i, u, h => by
    have hl := cellsV_length ls x
    rw [flat, List.getElem?_append, hl] at h
    split at h
    · exact ⟨0, i, x, rfl, h, by omega⟩
    · obtain ⟨q, r, z, h1, h2, h3⟩ := flat_idx ls hls xs _ u h
      refine ⟨q + 1, r, z, by simpa using h1, h2, ?_⟩
      rw [Nat.add_mul, Nat.one_mul]; omega
theorem cells?_at {a : Addr} {n : Nat} {cs : List Value} (h : w.cells? base a n = some cs) (i : Nat) (u : Value) (hu : cs[i]? = some u) : w.cell? (a.add i) = some u := by
  unfold World.cells? at h
  split at h
  · have hl := mapM_some_length h
    rw [List.length_range] at hl
    have hi : i < n := by
      have := (List.getElem?_eq_some_iff.1 hu).1
      omega
    have := mapM_some_get h i i (List.getElem?_range hi)
    rw [this, hu]
  · cases h
/-- A row of plain things. -/
theorem trod_row {t e : TypeId} {s : Sh} {ls : List Lf} {fuel : Nat} {cs : List Value} {x : DataW H × List MemPlace} (ht : P.underlying t = some (.slice e)) (hc : P.cellsOf e = ls.length) (hls : ls ≠ []) (hl : leavesS s = some ls) (he : fitE P e s) (h : DataW.trod enc P w base spare held fuel t cs = some x) :
    ∃ (v : Value) (xs : List (LT ls)), cs = [v] ∧ RowSat w v false e ls xs ∧ xs.length ≤ maxLen ∧ ∀ z ∈ xs, okL ls z := by
  rcases Deep.open_slice ht h with ⟨rfl, _⟩ | ⟨a, len, cap, m, n, D, Pl, rfl, hb, hlc, hcm, hm, _, hall⟩
  · exact ⟨_, [], rfl, .inl ⟨rfl, rfl⟩, Nat.zero_le _, fun n hn => by cases hn⟩
  · have hlm : len ≤ m := by rw [hm]; split <;> omega
    have each : ∀ i, i < len → ∃ z : LT ls, okL ls z ∧ w.cells? base (a.add (i * ls.length)) ls.length = some (cellsV ls z) := by
      intro i hi
      obtain ⟨cs', h1, h2⟩ := hall i (by omega)
      obtain ⟨z, rfl, hz, _⟩ := trod_flat s ls e n cs' _ hl he h2
      rw [hc] at h1
      exact ⟨z, hz, h1⟩
    have pick : ∀ k, k ≤ len → ∃ xs : List (LT ls), xs.length = k ∧ ∀ (i : Nat) (z : LT ls), xs[i]? = some z → okL ls z ∧ w.cells? base (a.add (i * ls.length)) ls.length = some (cellsV ls z) := by
      intro k
      induction k with
      | zero => exact fun _ => ⟨[], rfl, fun i z h => by simp at h⟩
      | succ k ih =>
        intro hk
        obtain ⟨xs, h1, h2⟩ := ih (by omega)
        obtain ⟨z, hz, hc⟩ := each k (by omega)
        refine ⟨xs ++ [z], by simp [h1], fun i y hy => ?_⟩
        rw [List.getElem?_append] at hy
        split at hy
        · exact h2 i y hy
        · rename_i hik
          have : i = k := by
            rcases Nat.lt_trichotomy i k with h | h | h
            · omega
            · exact h
            · rw [List.getElem?_eq_none (by simp; omega)] at hy; cases hy
          subst this
          rw [h1, Nat.sub_self] at hy
          cases hy
          exact ⟨hz, hc⟩
    obtain ⟨xs, hlen, hx⟩ := pick len (Nat.le_refl _)
    have cell : ∀ i u, (flat ls xs)[i]? = some u → w.cell? (a.add i) = some u := by
      intro i u hu
      obtain ⟨q, r, z, h1, h2, rfl⟩ := flat_idx ls hls xs i u hu
      rw [← Deep.add_add]
      exact cells?_at (hx q z h1).2 r u h2
    refine ⟨_, xs, rfl, .inr ⟨a, cap, by rw [hlen], by omega, fun _ => ⟨cell, fun hne hls' => ?_⟩, fun h => by cases h⟩, by omega, fun z hz => ?_⟩
    · have hp : 0 < (flat ls xs).length := by
        rw [flat_length]
        exact Nat.mul_pos (List.length_pos_iff.2 hne) (List.length_pos_iff.2 hls')
      have := World.cell?_spot (cell 0 _ (List.getElem?_eq_getElem hp))
      simpa [Addr.add] using this
    · obtain ⟨i, hi⟩ := List.getElem?_of_mem hz
      exact (hx i z hi).1
mutual
theorem rep_rdS {α : Nat → Value} {Av : Nat → Prop} : ∀ (s : Sh) (x : s.T) (vs : List Value) (F : List Nat), s.tabOk = true → repS w α Av s x vs F → rdS w Av s x vs
  | .leaf l, x, vs, F, _, h => h.1
  | .row own t ls, x, vs, F, hk, h => by
    obtain ⟨v, h1, h2, h3, h4, h5⟩ := h
    cases own with
    | true => cases hk
    | false => exact ⟨rfl, v, h1, h2, h3, h5⟩
  | .map _ _ _ _ _, x, vs, F, hk, h => by cases hk
  | .tab _ _, x, vs, F, hk, h => by cases hk
  | .agg f, x, vs, F, hk, h => rep_rdF f x vs F hk h
theorem rep_rdF {α : Nat → Value} {Av : Nat → Prop} : ∀ (f : Shs) (x : f.T) (vs : List Value) (F : List Nat), f.tabOk = true → repF w α Av f x vs F → rdF w Av f x vs
  | .one s ps, x, vs, F, hk, h => by
    obtain ⟨us, rfl, h⟩ := h
    simp only [Shs.tabOk, Bool.and_eq_true, List.isEmpty_iff] at hk
    obtain ⟨hk, rfl⟩ := hk
    refine ⟨rfl, ?_⟩
    rw [List.map_nil, List.append_nil]
    exact rep_rdS s x us F hk h
  | .cons s r, x, vs, F, hk, h => by
    obtain ⟨vs1, vs2, F1, F2, rfl, rfl, h1, h2⟩ := h
    simp only [Shs.tabOk, Bool.and_eq_true] at hk
    exact ⟨vs1, vs2, rfl, rep_rdS s x.1 vs1 F1 hk.1 h1, rep_rdF r x.2 vs2 F2 hk.2 h2⟩
  | .pin _ _, x, vs, F, hk, h => by cases hk
  | .pins _, x, vs, F, hk, h => by cases hk
end
mutual
theorem trod_rep {α : Nat → Value} : ∀ (s : Sh) (t : TypeId) (fuel : Nat) (cs : List Value) (x : DataW H × List MemPlace), fitS P t s → DataW.trod enc P w base spare held fuel t cs = some x → ∃ y : s.T, repS w α (fun b => b < w.heap.size ∧ b ∉ ([] : List Nat)) s y cs [] ∧ okS s y ∧ cs.length = s.sz
  | .leaf (.int k), t, fuel, cs, x, hf, h => by
    obtain ⟨n, rfl, _, hw⟩ := DataW.trod_int hf h
    exact ⟨n, ⟨rfl, rfl⟩, hw, rfl⟩
  | .leaf .bool, t, fuel, cs, x, hf, h => by
    obtain ⟨b, rfl, _⟩ := DataW.trod_bool hf h
    exact ⟨b, ⟨rfl, rfl⟩, trivial, rfl⟩
  | .leaf .str, t, fuel, cs, x, hf, h => by
    obtain ⟨s, rfl, _, hs⟩ := DataW.trod_string hf h
    exact ⟨s, ⟨rfl, rfl⟩, hs, rfl⟩
  | .row own e ls, t, fuel, cs, x, hf, h => by
    obtain ⟨rfl, ht, hc, hls, s, hl, he⟩ := hf
    obtain ⟨v, xs, rfl, hr, hn, hw⟩ := trod_row ht hc hls hl he h
    refine ⟨xs, ⟨v, rfl, hls, hr, rfl, fun b hb => ⟨?_, by simp⟩⟩, ⟨hn, hw⟩, rfl⟩
    have hs : hoSat (fun _ => v) w 0 (.row false e ls xs) := ⟨hls, hr⟩
    exact hoSat_lt hs b (seen_on hb)
  | .map _ _ _ _ _, t, fuel, cs, x, hf, h => hf.elim
  | .tab e f, t, fuel, cs, x, hf, h => by
    obtain ⟨ht, hc, hok, hpos, fs, hfs, hff⟩ := hf
    rcases Deep.open_slice ht h with ⟨rfl, _⟩ | ⟨a, len, cap, m, n, D, Pl, rfl, hb, hlc, hcm, hm, _, hall⟩
    · exact ⟨[], ⟨_, rfl, rfl, .inl ⟨rfl, rfl⟩⟩, ⟨Nat.zero_le _, fun n hn => by cases hn⟩, rfl⟩
    · have hlm : len ≤ m := by rw [hm]; split <;> omega
      have each : ∀ i, i < len → ∃ y : f.T, okF f y ∧ ∃ us, us.length = f.sz ∧ w.cells? base (a.add (i * f.sz)) f.sz = some us ∧ rdF w (fun b => b < w.heap.size ∧ b ∉ ([] : List Nat)) f y us := by
        intro i hi
        obtain ⟨cs', h1, h2⟩ := hall i (by omega)
        rw [hc] at h1
        obtain ⟨xs, n', _, _, hlen, hxs, hall'⟩ := DataW.trod_struct hfs h2
        obtain ⟨y, g1, g2⟩ := trod_repF (α := α) f fs.toList 0 n' cs' hff (fun j g hg => by
          have hj : j < fs.size := by
            have := (List.getElem?_eq_some_iff.1 hg).1
            simpa using this
          have := hall' j g (by rw [← Array.getElem?_toList]; exact hg)
          rw [List.getElem?_eq_getElem (by omega : j < xs.length)] at this
          exact ⟨_, this⟩) (by rw [hlen, hc]; omega)
        rw [List.drop_zero] at g1
        exact ⟨y, g2, cs', by rw [hlen, hc], h1, rep_rdF f y cs' [] hok g1⟩
      have pick : ∀ k, k ≤ len → ∃ ys : List f.T, ys.length = k ∧ ∀ (i : Nat) (z : f.T), ys[i]? = some z → okF f z ∧ ∃ us, us.length = f.sz ∧ w.cells? base (a.add (i * f.sz)) f.sz = some us ∧ rdF w (fun b => b < w.heap.size ∧ b ∉ ([] : List Nat)) f z us := by
        intro k
        induction k with
        | zero => exact fun _ => ⟨[], rfl, fun i z h => by simp at h⟩
        | succ k ih =>
          intro hk
          obtain ⟨ys, h1, h2⟩ := ih (by omega)
          obtain ⟨z, hz, hc⟩ := each k (by omega)
          refine ⟨ys ++ [z], by simp [h1], fun i y hy => ?_⟩
          rw [List.getElem?_append] at hy
          split at hy
          · exact h2 i y hy
          · rename_i hik
            have : i = k := by
              rcases Nat.lt_trichotomy i k with h | h | h
              · omega
              · exact h
              · rw [List.getElem?_eq_none (by simp; omega)] at hy; cases hy
            subst this
            rw [h1, Nat.sub_self] at hy
            cases hy
            exact ⟨hz, hc⟩
      obtain ⟨ys, hlen, hy⟩ := pick len (Nat.le_refl _)
      have hcell : ∀ (i : Nat) (z : f.T), ys[i]? = some z → ∃ us, us.length = f.sz ∧ (∀ k u, us[k]? = some u → w.cell? (a.add (i * f.sz + k)) = some u) ∧ rdF w (fun b => b < w.heap.size ∧ b ∉ ([] : List Nat)) f z us := by
        intro i z hz
        obtain ⟨_, us, h1, h2, h3⟩ := hy i z hz
        refine ⟨us, h1, fun k u hu => ?_, h3⟩
        rw [← Deep.add_add]
        exact cells?_at h2 k u hu
      refine ⟨ys, ⟨_, rfl, rfl, .inr ⟨a, cap, by rw [hlen], fun hne => ?_, hcell⟩⟩, ⟨by rw [hlen]; omega, fun z hz => ?_⟩, rfl⟩
      · obtain ⟨z0, hz0⟩ : ∃ z0, ys[0]? = some z0 := by
          cases ys with
          | nil => exact absurd rfl hne
          | cons z zs => exact ⟨z, rfl⟩
        obtain ⟨us, h1, h2, _⟩ := hcell 0 z0 hz0
        have h3 := h2 0 _ (List.getElem?_eq_getElem (by omega))
        rw [Nat.zero_mul, Nat.zero_add, show a.add 0 = a from rfl] at h3
        refine ⟨World.cell?_spot h3, ?_, by simp⟩
        have := block_lt_of_cell h3
        exact this
      · obtain ⟨i, hi⟩ := List.getElem?_of_mem hz
        exact (hy i z hi).1
  | .agg f, t, fuel, cs, x, hf, h => by
    obtain ⟨fs, ht, hff, hsz⟩ := hf
    obtain ⟨xs, n, _, _, hlen, hxs, hall⟩ := DataW.trod_struct ht h
    obtain ⟨y, h1, h2⟩ := trod_repF f fs.toList 0 n cs hff (fun j g hg => by
      have hj : j < fs.size := by
        have := (List.getElem?_eq_some_iff.1 hg).1
        simpa using this
      have := hall j g (by rw [← Array.getElem?_toList]; exact hg)
      rw [List.getElem?_eq_getElem (by omega : j < xs.length)] at this
      exact ⟨_, this⟩) (by rw [hlen, hsz]; omega)
    exact ⟨y, (by rw [List.drop_zero] at h1; exact h1), h2, by rw [hlen, hsz]; rfl⟩
theorem trod_repF {α : Nat → Value} : ∀ (f : Shs) (fs : List Field) (o n : Nat) (cs : List Value), fitF P fs o f → (∀ (j : Nat) (g : Field), fs[j]? = some g → ∃ x, DataW.trod enc P w base spare held n g.type ((cs.drop g.offset).take (P.cellsOf g.type)) = some x) → cs.length = o + f.sz → ∃ y : f.T, repF w α (fun b => b < w.heap.size ∧ b ∉ ([] : List Nat)) f y (cs.drop o) [] ∧ okF f y
  | .one s [], [f], o, n, cs, hf, hall, hlen => by
    obtain ⟨ho, hsz, hfit⟩ := hf
    obtain ⟨x, hx⟩ := hall 0 f rfl
    obtain ⟨y, h1, h2, h3⟩ := trod_rep (α := α) s f.type n _ x hfit hx
    rw [ho, hsz, List.take_of_length_le (by rw [List.length_drop, hlen]; simp only [Shs.sz, List.length_nil]; omega)] at h1
    exact ⟨y, ⟨_, by simp, h1⟩, h2⟩
  | .one s [], [], o, n, cs, hf, hall, hlen => hf.elim
  | .one s [], _ :: _ :: _, o, n, cs, hf, hall, hlen => hf.elim
  | .one s (_ :: _), fs, o, n, cs, hf, hall, hlen => by cases fs <;> simp [fitF] at hf
  | .pin _ _, fs, o, n, cs, hf, hall, hlen => by cases fs <;> simp [fitF] at hf
  | .pins _, fs, o, n, cs, hf, hall, hlen => by cases fs <;> simp [fitF] at hf
  | .cons s r, [], o, n, cs, hf, hall, hlen => hf.elim
  | .cons s r, [_], o, n, cs, hf, hall, hlen => hf.elim
  | .cons s r, f :: g :: fs, o, n, cs, hf, hall, hlen => by
    obtain ⟨ho, hsz, hfit, hrest⟩ := hf
    obtain ⟨x, hx⟩ := hall 0 f rfl
    obtain ⟨y, h1, h2, h3⟩ := trod_rep (α := α) s f.type n _ x hfit hx
    rw [ho, hsz] at h1
    obtain ⟨z, h4, h5⟩ := trod_repF (α := α) r (g :: fs) (o + s.sz) n cs hrest (fun j g' hg => hall (j + 1) g' hg) (by rw [hlen]; simp only [Shs.sz]; omega)
    refine ⟨(y, z), ⟨_, _, [], [], ?_, rfl, h1, h4⟩, h2, h5⟩
    rw [← List.drop_drop, List.take_append_drop]
end
/-- A struct, or a row, among the arguments. -/
theorem open_sh {α : Nat → Value} {r : Reach} {b0 : Nat} {t : TypeId} {v : Value} {d : DataW H} {ps : List MemPlace} {f : Shs} (hf : fitS P t (.agg f)) (hval : Value.okWide P w r b0 t v) (hd : DataW.Trod enc P w base spare held t v d ps) :
    ∃ y : f.T, repV w α (fun b => b < w.heap.size ∧ b ∉ ([] : List Nat)) (.agg f) y v [] ∧ okF f y := by
  obtain ⟨fuel, h⟩ := hd
  have hv : ∃ cs, v = .agg cs := by
    obtain ⟨fs, ht, _⟩ := hf
    unfold Value.okWide at hval
    rw [ht] at hval
    obtain ⟨cs, e, _⟩ := hval
    exact ⟨cs, e⟩
  obtain ⟨cs, rfl⟩ := hv
  obtain ⟨y, h1, h2, _⟩ := trod_rep (α := α) (.agg f) t fuel _ _ hf h
  exact ⟨y, ⟨_, h1, by simp [valIs, Value.cells]⟩, h2⟩
theorem open_tb {α : Nat → Value} {r : Reach} {b0 : Nat} {t e : TypeId} {v : Value} {d : DataW H} {ps : List MemPlace} {f : Shs} (hf : fitS P t (.tab e f)) (hval : Value.okWide P w r b0 t v) (hd : DataW.Trod enc P w base spare held t v d ps) :
    ∃ y : List f.T, repV w α (fun b => b < w.heap.size ∧ b ∉ ([] : List Nat)) (.tab e f) y v [] ∧ okS (.tab e f) y := by
  obtain ⟨fuel, h⟩ := hd
  have hv : v.cells.toList = [v] := by
    obtain ⟨ht, _⟩ := hf
    unfold Value.okWide at hval
    rw [ht] at hval
    cases v <;> first | rfl | skip
    unfold Cell.okWide at hval
    rw [ht] at hval
    unfold Cell.ok at hval
    rw [ht] at hval
    simp at hval
  rw [hv] at h
  obtain ⟨y, h1, h2, _⟩ := trod_rep (α := α) (.tab e f) t fuel _ _ hf h
  exact ⟨y, ⟨_, h1, by simp [valIs]⟩, h2⟩
theorem open_rw {α : Nat → Value} {r : Reach} {b0 : Nat} {t e : TypeId} {v : Value} {d : DataW H} {ps : List MemPlace} {ls : List Lf} (hf : fitS P t (.row false e ls)) (hval : Value.okWide P w r b0 t v) (hd : DataW.Trod enc P w base spare held t v d ps) :
    ∃ y : List (LT ls), repV w α (fun b => b < w.heap.size ∧ b ∉ ([] : List Nat)) (.row false e ls) y v [] ∧ okS (.row false e ls) y := by
  obtain ⟨fuel, h⟩ := hd
  have hv : v.cells.toList = [v] := by
    obtain ⟨_, ht, _⟩ := hf
    unfold Value.okWide at hval
    rw [ht] at hval
    cases v <;> first | rfl | skip
    unfold Cell.okWide at hval
    rw [ht] at hval
    unfold Cell.ok at hval
    rw [ht] at hval
    simp at hval
  rw [hv] at h
  obtain ⟨y, h1, h2, _⟩ := trod_rep (α := α) (.row false e ls) t fuel _ _ hf h
  exact ⟨y, ⟨_, h1, by simp [valIs]⟩, h2⟩
end
end Go.Aq
