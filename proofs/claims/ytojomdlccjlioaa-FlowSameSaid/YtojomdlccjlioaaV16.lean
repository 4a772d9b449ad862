/- What a row's arguments are, as plain things: numbers, bools, strings, rows of whole numbers, structs of such. -/
import Derived.Test.YtojomdlccjlioaaV15
import Derived.ChangeSlices
import Derived.Carry
namespace Go.Aq
open Go.RowKit (Below)
set_option linter.unusedVariables false

mutual
/-- Is a type of that shape? -/
def fitS (P : Program) : TypeId → Sh → Prop
  | t, .leaf (.int k) => P.underlying t = some (.int k)
  | t, .leaf .bool => P.underlying t = some .bool
  | t, .leaf .str => P.underlying t = some .string
  | t, .row own e ls => own = false ∧ P.underlying t = some (.slice e) ∧ P.cellsOf e = 1 ∧ ∃ k, ls = [.int k] ∧ P.underlying e = some (.int k)
  | t, .agg f => ∃ fs, P.underlying t = some (.struct fs) ∧ fitF P fs.toList 0 f ∧ P.cellsOf t = f.sz
def fitF (P : Program) : List Field → Nat → Shs → Prop
  | [f], o, .one s => f.offset = o ∧ P.cellsOf f.type = s.sz ∧ fitS P f.type s
  | f :: g :: fs, o, .cons s r => f.offset = o ∧ P.cellsOf f.type = s.sz ∧ fitS P f.type s ∧ fitF P (g :: fs) (o + s.sz) r
  | _, _, _ => False
end
def okRow : (ls : List Lf) → List (LT ls) → Prop
  | [.int k], xs => xs.length ≤ maxLen ∧ ∀ n ∈ (show List Int from xs), (Lit.int k n).wf = true
  | _, _ => True
mutual
/-- What a row says of its arguments' plain things. -/
def okS : (s : Sh) → s.T → Prop
  | .leaf (.int k), n => (Lit.int k n).wf = true
  | .leaf .bool, _ => True
  | .leaf .str, s => s.size ≤ maxLen
  | .row _ _ ls, xs => okRow ls xs
  | .agg f, x => okF f x
def okF : (f : Shs) → f.T → Prop
  | .one s, x => okS s x
  | .cons s r, x => okS s x.1 ∧ okF r x.2
end

section
variable {H : Type} {enc : TypeId × Value → H} {P : Program} {w : World} {base : Nat} {spare : Nat → Bool} {held : Bool}

theorem flat_ints (k : IntKind) : ∀ xs : List Int, flat [.int k] (show List (LT [.int k]) from xs) = xs.map fun n => Value.int k n
  | [] => rfl
  | x :: xs => by
    show cellsV [.int k] x ++ flat [.int k] xs = _
    rw [flat_ints k xs]; rfl
theorem trod_row {t e : TypeId} {k : IntKind} {fuel : Nat} {cs : List Value} {x : DataW H × List MemPlace} (ht : P.underlying t = some (.slice e)) (hc : P.cellsOf e = 1) (he : P.underlying e = some (.int k)) (h : DataW.trod enc P w base spare held fuel t cs = some x) :
    ∃ (v : Value) (xs : List Int), cs = [v] ∧ RowSat w v false e [.int k] xs ∧ xs.length ≤ maxLen ∧ ∀ n ∈ xs, (Lit.int k n).wf = true := by
  rcases Go.ChangeShapes.open_ints ht he hc h with ⟨rfl, _⟩ | ⟨a, len, cap, zs, rfl, _, hl, hm, hz, _, hcell, hwf⟩
  · exact ⟨_, [], rfl, .inl ⟨rfl, rfl⟩, Nat.zero_le _, fun n hn => by cases hn⟩
  · have hlen : (zs.take len).length = len := by
      rw [List.length_take, hz]; split <;> omega
    have hle : len ≤ zs.length := by rw [hz]; split <;> omega
    refine ⟨_, zs.take len, rfl, .inr ⟨a, cap, by show Value.slice (some a) len cap = Value.slice (some a) (List.length (α := Int) (zs.take len)) cap; rw [hlen], by show List.length (α := Int) (zs.take len) ≤ cap; omega, fun _ => ⟨?_, ?_⟩, fun h => by cases h⟩, by omega, fun n hn => hwf n (List.mem_of_mem_take hn)⟩
    · intro i u hu
      rw [flat_ints k] at hu
      have hi : i < len := by
        have := (List.getElem?_eq_some_iff.1 hu).1
        rw [List.length_map, hlen] at this
        exact this
      rw [hcell i (by omega)]
      simp only [List.getElem?_map, List.getElem?_take_of_lt hi] at hu
      rw [List.getElem?_eq_getElem (by omega : i < zs.length)] at hu
      simp only [Option.map_some, Option.some.injEq] at hu
      rw [← hu, List.getD_eq_getElem?_getD, List.getElem?_eq_getElem (by omega : i < zs.length)]
      rfl
    · intro hne _
      have h0 : 0 < zs.length := by
        cases hzs : zs with
        | nil => subst hzs; exact absurd (show List.take len ([] : List Int) = [] from by simp) hne
        | cons _ _ => simp
      have := World.cell?_spot (hcell 0 h0)
      simpa [Addr.add] using this
mutual
theorem trod_rep : ∀ (s : Sh) (t : TypeId) (fuel : Nat) (cs : List Value) (x : DataW H × List MemPlace), fitS P t s → DataW.trod enc P w base spare held fuel t cs = some x → ∃ y : s.T, repS w s y cs [] ∧ okS s y ∧ cs.length = s.sz
  | .leaf (.int k), t, fuel, cs, x, hf, h => by
    obtain ⟨n, rfl, _, hw⟩ := DataW.trod_int hf h
    exact ⟨n, ⟨rfl, rfl⟩, hw, rfl⟩
  | .leaf .bool, t, fuel, cs, x, hf, h => by
    obtain ⟨b, rfl, _⟩ := DataW.trod_bool hf h
    exact ⟨b, ⟨rfl, rfl⟩, trivial, rfl⟩
  | .leaf .str, t, fuel, cs, x, hf, h => by
    obtain ⟨s, rfl, _, hs⟩ := DataW.trod_string hf h
    exact ⟨s, ⟨rfl, rfl⟩, hs, rfl⟩
  | .row own e ls, t, fuel, cs, x, hf, h => by
    obtain ⟨rfl, ht, hc, k, rfl, he⟩ := hf
    obtain ⟨v, xs, rfl, hr, hl, hw⟩ := trod_row ht hc he h
    exact ⟨xs, ⟨v, rfl, by simp, hr, rfl⟩, ⟨hl, hw⟩, rfl⟩
  | .agg f, t, fuel, cs, x, hf, h => by
    obtain ⟨fs, ht, hff, hsz⟩ := hf
    obtain ⟨xs, n, _, _, hlen, hxs, hall⟩ := DataW.trod_struct ht h
    obtain ⟨y, h1, h2⟩ := trod_repF f fs.toList 0 n cs hff (fun j g hg => by
      have hj : j < fs.size := by
        have := (List.getElem?_eq_some_iff.1 hg).1
        simpa using this
      have := hall j g (by rw [← Array.getElem?_toList]; exact hg)
      rw [List.getElem?_eq_getElem (by omega : j < xs.length)] at this
      exact ⟨_, this⟩) (by rw [hlen, hsz]; omega)
    exact ⟨y, (by rw [List.drop_zero] at h1; exact h1), h2, by rw [hlen, hsz]; rfl⟩
theorem trod_repF : ∀ (f : Shs) (fs : List Field) (o n : Nat) (cs : List Value), fitF P fs o f → (∀ (j : Nat) (g : Field), fs[j]? = some g → ∃ x, DataW.trod enc P w base spare held n g.type ((cs.drop g.offset).take (P.cellsOf g.type)) = some x) → cs.length = o + f.sz → ∃ y : f.T, repF w f y (cs.drop o) [] ∧ okF f y
  | .one s, [f], o, n, cs, hf, hall, hlen => by
    obtain ⟨ho, hsz, hfit⟩ := hf
    obtain ⟨x, hx⟩ := hall 0 f rfl
    obtain ⟨y, h1, h2, h3⟩ := trod_rep s f.type n _ x hfit hx
    rw [ho, hsz, List.take_of_length_le (by rw [List.length_drop, hlen]; simp only [Shs.sz]; omega)] at h1
    exact ⟨y, h1, h2⟩
  | .one s, [], o, n, cs, hf, hall, hlen => hf.elim
  | .one s, _ :: _ :: _, o, n, cs, hf, hall, hlen => hf.elim
  | .cons s r, [], o, n, cs, hf, hall, hlen => hf.elim
  | .cons s r, [_], o, n, cs, hf, hall, hlen => hf.elim
  | .cons s r, f :: g :: fs, o, n, cs, hf, hall, hlen => by
    obtain ⟨ho, hsz, hfit, hrest⟩ := hf
    obtain ⟨x, hx⟩ := hall 0 f rfl
    obtain ⟨y, h1, h2, h3⟩ := trod_rep s f.type n _ x hfit hx
    rw [ho, hsz] at h1
    obtain ⟨z, h4, h5⟩ := trod_repF r (g :: fs) (o + s.sz) n cs hrest (fun j g' hg => hall (j + 1) g' hg) (by rw [hlen]; simp only [Shs.sz]; omega)
    refine ⟨(y, z), ⟨_, _, [], [], ?_, rfl, h1, h4⟩, h2, h5⟩
    rw [← List.drop_drop, List.take_append_drop]
end
/-- A struct among the arguments. -/
theorem open_agg {r : Reach} {b0 : Nat} {t : TypeId} {v : Value} {d : DataW H} {ps : List MemPlace} {f : Shs} (hf : fitS P t (.agg f)) (hval : Value.okWide P w r b0 t v) (hd : DataW.Trod enc P w base spare held t v d ps) :
    ∃ y : f.T, repV w (.agg f) y v [] ∧ okF f y := by
  obtain ⟨fuel, h⟩ := hd
  have hv : ∃ cs, v = .agg cs := by
    obtain ⟨fs, ht, _⟩ := hf
    unfold Value.okWide at hval
    rw [ht] at hval
    obtain ⟨cs, e, _⟩ := hval
    exact ⟨cs, e⟩
  obtain ⟨cs, rfl⟩ := hv
  obtain ⟨y, h1, h2, _⟩ := trod_rep (.agg f) t fuel _ _ hf h
  exact ⟨y, ⟨_, h1, by simp [Value.cells]⟩, h2⟩
end
end Go.Aq
