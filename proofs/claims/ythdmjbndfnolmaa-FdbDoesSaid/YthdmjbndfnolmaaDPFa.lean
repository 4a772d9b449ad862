/- Layer 18, plain: addresses, what Learn, Rows and Tick do to a table's entries. -/
import Derived.Test.YthdmjbndfnolmaaDS2
import Derived.Test.YthdmjbndfnolmaaDHF
import Derived.Test.YthdmjbndfnolmaaV20
namespace Go.Proofs.Ythdmjbndfnolmaa
open Go.Aq Go.IntWalk
set_option linter.unusedVariables false
/-! ### Addresses -/
def ownB (n : Int) : ByteArray := (⟨#[2, 0, 0, 0]⟩ : ByteArray) ++ strOf [IntKind.u8.wrap (shR .i64 n (8 : Int)), IntKind.u8.wrap n]
theorem own_list (n : Int) : (ownB n).data.toList = [2, 0, 0, 0, UInt8.ofNat (IntKind.u8.wrap (shR .i64 n (8 : Int))).toNat, UInt8.ofNat (IntKind.u8.wrap n).toNat] := by
  unfold ownB
  rw [ByteArray.data_append]
  simp [strOf]
theorem own_size (n : Int) : (ownB n).size = 6 := by
  show (ownB n).data.size = 6
  rw [← Array.length_toList, own_list]; rfl
theorem own_S (k : Nat) (n : Int) : F_aqueductlaw18_own.S k n = .ok (ownB n) := by
  unfold F_aqueductlaw18_own.S
  rw [O.chk_dec]
  · rfl
  · show ((4 + 2 : Nat) : Int) ≤ _
    decide
def kindB (m : ByteArray) : Int := if m.size ≠ 6 then 0 else if m = (⟨#[255, 255, 255, 255, 255, 255]⟩ : ByteArray) then 3 else if bAnd .u8 (bt m (0 : Int)) (1 : Int) = (1 : Int) then 2 else 1
theorem Kind_S (k : Nat) (m : ByteArray) : F_addr_Kind.S k m = .ok (kindB m) := by
  unfold F_addr_Kind.S kindB
  by_cases h : m.size = 6
  · rw [O.cond_neg (by omega), if_neg (by omega), O.cond_dec]
    split
    · rfl
    · rw [O.chk_dec (by omega), O.cond_dec]
      split <;> rfl
  · rw [O.cond_pos (by omega), if_pos h]
theorem kind_own (n : Int) : kindB (ownB n) = 1 := by
  unfold kindB
  rw [if_neg (by rw [own_size]; decide), if_neg, if_neg]
  · unfold bt
    rw [own_list]
    simp only [Int.toNat_zero, List.getD_cons_zero]
    decide
  · intro h
    have := congrArg (fun m : ByteArray => m.data.toList) h
    simp only [own_list] at this
    have := congrArg List.head? this
    simp at this
theorem kind_all : kindB (⟨#[255, 255, 255, 255, 255, 255]⟩ : ByteArray) = 3 := by
  unfold kindB
  rw [if_neg (by decide), if_pos rfl]
/-! ### Maps -/
section
variable {K V : Type} [DecidableEq K]
theorem mhas_iff {es : List (K × V)} {k : K} : mhas es k = true ↔ k ∈ es.map (·.1) := by
  unfold mhas
  rw [List.any_eq_true, List.mem_map]
  constructor
  · rintro ⟨e, he, h⟩; exact ⟨e, he, by simpa using h⟩
  · rintro ⟨e, he, h⟩; exact ⟨e, he, by simpa using h⟩
theorem mhas_not {es : List (K × V)} {k : K} : mhas es k = false ↔ k ∉ es.map (·.1) := by
  rw [← mhas_iff, Bool.not_eq_true]
theorem mput_keys : ∀ {es : List (K × V)} {k : K} (v : V), mhas es k = true → (mput es k v).map (·.1) = es.map (·.1)
  | [], k, v, h => by simp [mhas] at h
  | e :: es, k, v, h => by
    unfold mput
    by_cases he : e.1 = k
    · rw [if_pos he]; simp [he]
    · rw [if_neg he, List.map_cons, mput_keys v]
      · rfl
      · simpa [mhas, he] using h
theorem mput_new : ∀ {es : List (K × V)} {k : K} (v : V), mhas es k = false → mput es k v = es ++ [(k, v)]
  | [], k, v, h => rfl
  | e :: es, k, v, h => by
    have he : ¬ e.1 = k := fun he => by simp [mhas, he] at h
    unfold mput
    rw [if_neg he, mput_new v (by simpa [mhas, he] using h)]
    rfl
theorem mput_len (es : List (K × V)) (k : K) (v : V) : (mput es k v).length = es.length + (if mhas es k = true then 0 else 1) := by
  cases h : mhas es k with
  | true =>
    have := congrArg List.length (mput_keys v h)
    simpa using this
  | false => rw [mput_new v h]; simp
theorem mput_mem : ∀ {es : List (K × V)} {k : K} {v : V} {e : K × V}, e ∈ mput es k v → e = (k, v) ∨ e ∈ es
  | [], k, v, e, h => by simp [mput] at h; exact .inl h
  | x :: es, k, v, e, h => by
    unfold mput at h
    split at h
    · rcases List.mem_cons.1 h with h | h
      · exact .inl h
      · exact .inr (by simp [h])
    · rcases List.mem_cons.1 h with h | h
      · exact .inr (by simp [h])
      · rcases mput_mem h with h | h
        · exact .inl h
        · exact .inr (by simp [h])
theorem mput_nodup {es : List (K × V)} {k : K} (v : V) (h : (es.map (·.1)).Nodup) : ((mput es k v).map (·.1)).Nodup := by
  cases hk : mhas es k with
  | true => rw [mput_keys v hk]; exact h
  | false =>
    rw [mput_new v hk, List.map_append, List.nodup_append]
    refine ⟨h, by simp, fun a ha b hb => ?_⟩
    simp at hb
    subst hb
    intro e
    subst e
    exact mhas_not.1 hk ha
theorem mhas_put (es : List (K × V)) (k k' : K) (v : V) : mhas (mput es k v) k' = (decide (k = k') || mhas es k') := by
  rw [Bool.eq_iff_iff, Bool.or_eq_true, decide_eq_true_eq, mhas_iff, mhas_iff]
  cases hk : mhas es k with
  | true =>
    rw [mput_keys v hk]
    constructor
    · exact .inr
    · rintro (rfl | h)
      · exact mhas_iff.1 hk
      · exact h
  | false =>
    rw [mput_new v hk, List.map_append, List.mem_append]
    simp
    constructor
    · rintro (h | h)
      · exact .inr h
      · exact .inl h.symm
    · rintro (h | h)
      · exact .inr h.symm
      · exact .inl h
theorem mget_put (d : V) : ∀ (es : List (K × V)) (k : K) (v : V), mget d (mput es k v) k = v
  | [], k, v => by simp [mput, mget]
  | e :: es, k, v => by
    unfold mput
    by_cases he : e.1 = k
    · rw [if_pos he]; simp [mget]
    · rw [if_neg he]
      have ih := mget_put d es k v
      unfold mget at ih ⊢
      rw [List.find?_cons_of_neg (by simpa using he)]
      exact ih
theorem mget_other (d : V) : ∀ (es : List (K × V)) (k k' : K) (v : V), k ≠ k' → mget d (mput es k v) k' = mget d es k'
  | [], k, k', v, h => by simp [mput, mget, h]
  | e :: es, k, k', v, h => by
    unfold mput
    by_cases he : e.1 = k
    · rw [if_pos he]
      have : ¬ e.1 = k' := fun x => h (he.symm.trans x)
      simp [mget, h, this]
    · rw [if_neg he]
      have ih := mget_other d es k k' v h
      unfold mget at ih ⊢
      by_cases h' : e.1 = k'
      · rw [List.find?_cons_of_pos (by simpa using h'), List.find?_cons_of_pos (by simpa using h')]
      · rw [List.find?_cons_of_neg (by simpa using h'), List.find?_cons_of_neg (by simpa using h')]
        exact ih
theorem mget_mem (d : V) : ∀ {es : List (K × V)} {k : K}, mhas es k = true → (k, mget d es k) ∈ es
  | [], k, h => by simp [mhas] at h
  | e :: es, k, h => by
    unfold mget
    by_cases h' : e.1 = k
    · rw [List.find?_cons_of_pos (by simpa using h')]
      simp [← h']
    · rw [List.find?_cons_of_neg (by simpa using h')]
      exact List.mem_cons_of_mem _ (mget_mem d (by simpa [mhas, h'] using h))
end
/-! ### Tables -/
abbrev GT := Int × Int × List (KT × VT)
def vals (g : GT) : List VT := g.2.2.map (·.2)
def okLearn (v : Int) (m : ByteArray) (p : Int) : Bool := decide (0 ≤ v ∧ v ≤ 4094 ∧ kindB m = 1 ∧ 0 ≤ p ∧ p < 16)
def learnG (v : Int) (m : ByteArray) (p : Int) (g : GT) : Bool × GT :=
  if okLearn v m p = true then (if mhas g.2.2 (v, m) = false ∧ g.1 ≤ (g.2.2.length : Int) then (false, g) else (true, g.1, g.2.1, mput g.2.2 (v, m) (v, m, p, (0 : Int)))) else (false, g)
theorem Learn_S (k : Nat) (v : Int) (m : ByteArray) (p : Int) (g : GT) : F_fdb_Table_Learn.S k v m p g = .ok (learnG v m p g) := by
  unfold F_fdb_Table_Learn.S learnG okLearn
  rw [Kind_S, O.bind_ok]
  by_cases h1 : v < 0
  · rw [O.cond_pos h1, if_neg (by simp; omega)]
  rw [O.cond_neg h1]
  by_cases h2 : v > 4094
  · rw [O.cond_pos h2, if_neg (by simp; omega)]
  rw [O.cond_neg h2]
  by_cases h3 : kindB m ≠ 1
  · rw [O.cond_pos h3, if_neg (by simp [h3])]
  rw [O.cond_neg h3]
  by_cases h4 : p < 0
  · rw [O.cond_pos h4, if_neg (by simp; omega)]
  rw [O.cond_neg h4]
  by_cases h5 : p ≥ 16
  · rw [O.cond_pos h5, if_neg (by simp; omega)]
  rw [O.cond_neg h5, if_pos (by simp; omega)]
  cases h6 : mhas g.2.2 (v, m) with
  | true => rw [Bool.not_true, O.cond_false, if_neg (by simp)]
  | false =>
    rw [Bool.not_false, O.cond_true, O.cond_dec]
    by_cases h7 : g.1 ≤ (g.2.2.length : Int)
    · rw [if_pos h7, if_pos ⟨rfl, h7⟩]
    · rw [if_neg h7, if_neg (fun h => h7 h.2)]
structure Inv (g : GT) : Prop where
  nodup : (g.2.2.map (·.1)).Nodup
  key : ∀ e ∈ g.2.2, keyV e.2 = e.1
  len : (g.2.2.length : Int) ≤ g.1
  room : g.1 ≤ 1024
theorem Inv.keys {g : GT} (h : Inv g) : (vals g).map keyV = g.2.2.map (·.1) := by
  unfold vals
  rw [List.map_map]
  exact List.map_congr_left fun e he => h.key e he
theorem Inv.ok {g : GT} (h : Inv g) : rowsOk g.2.2 = true := by
  unfold rowsOk
  rw [Bool.and_eq_true, decide_eq_true_eq, decide_eq_true_eq]
  refine ⟨by have := h.len; have := h.room; omega, ?_⟩
  have := h.keys
  unfold vals at this
  rw [List.map_map] at this
  have e : (g.2.2.map fun e => keyV e.2) = g.2.2.map (·.1) := this
  rw [e]; exact h.nodup
theorem Rows_S (k : Nat) {g : GT} (h : Inv g) : F_fdb_Table_Rows.S k g = .ok (isort (vals g), g) := by
  unfold F_fdb_Table_Rows.S
  rw [h.ok, O.chk_true]
  rfl
theorem Inv.up {g : GT} (h : Inv g) : Up (isort (vals g)) := isort_up _ (by rw [h.keys]; exact h.nodup)
theorem rows_len (g : GT) : (isort (vals g)).length = g.2.2.length := by rw [(isort_perm _).length_eq]; simp [vals]
theorem inv_new (room ticks : Int) (h1 : 0 ≤ room) (h : room ≤ 1024) : Inv (room, ticks, []) := ⟨by simp, by simp, by simpa using h1, h⟩
theorem inv_learn {g : GT} (h : Inv g) (v : Int) (m : ByteArray) (p : Int) : Inv (learnG v m p g).2 := by
  unfold learnG
  split
  · split
    · exact h
    · rename_i h1
      refine ⟨mput_nodup _ h.nodup, fun e he => ?_, ?_, h.room⟩
      · rcases mput_mem he with rfl | he
        · rfl
        · exact h.key e he
      · show ((mput g.2.2 (v, m) (v, m, p, (0 : Int))).length : Int) ≤ g.1
        rw [mput_len]
        have := h.len
        split
        · omega
        · rename_i hh
          rw [Bool.not_eq_true] at hh
          have : ¬ g.1 ≤ (g.2.2.length : Int) := fun h => h1 ⟨hh, h⟩
          omega
  · exact h
def tickG (g : GT) : GT := (g.1, g.2.1, tickE g.2.1 g.2.2)
theorem Tick_S (k : Nat) (g : GT) : F_fdb_Table_Tick.S k g = .ok (IntKind.i64.wrap ((g.2.2.length : Int) - ((tickE g.2.1 g.2.2).length : Int)), tickG g) := rfl
theorem tickE_sub (t : Int) : ∀ es : List (KT × VT), ((tickE t es).map (·.1)).Sublist (es.map (·.1))
  | [] => List.Sublist.refl _
  | e :: es => by
    have ih := tickE_sub t es
    unfold tickE bumpE at ih ⊢
    rw [List.filterMap_cons]
    by_cases h : t ≤ (upV e.2).2.2.2
    · rw [if_pos h]; exact ih.trans (List.sublist_cons_self _ _)
    · rw [if_neg h]; simp only [List.map_cons]; exact ih.cons_cons _
theorem tickE_mem {t : Int} {es : List (KT × VT)} {e : KT × VT} (h : e ∈ tickE t es) : ∃ e' ∈ es, e.1 = e'.1 ∧ e.2 = upV e'.2 := by
  unfold tickE at h
  obtain ⟨e', he, h⟩ := List.mem_filterMap.1 h
  unfold bumpE at h
  split at h
  · cases h
  · cases h; exact ⟨e', he, rfl, rfl⟩
theorem tickE_len (t : Int) (es : List (KT × VT)) : (tickE t es).length ≤ es.length := by
  have := (tickE_sub t es).length_le
  simpa using this
theorem inv_tick {g : GT} (h : Inv g) : Inv (tickG g) := by
  refine ⟨(tickE_sub _ _).nodup h.nodup, fun e he => ?_, ?_, h.room⟩
  · obtain ⟨e', he', h1, h2⟩ := tickE_mem he
    rw [h1, h2, ← h.key e' he']
    rfl
  · show ((tickE g.2.1 g.2.2).length : Int) ≤ g.1
    have := tickE_len g.2.1 g.2.2; have := h.len; omega
theorem Tick_S' (k : Nat) {g : GT} (h : Inv g) : F_fdb_Table_Tick.S k g = .ok ((g.2.2.length : Int) - ((tickE g.2.1 g.2.2).length : Int), tickG g) := by
  rw [Tick_S, i64_in _ (by have := tickE_len g.2.1 g.2.2; have := h.len; have := h.room; omega)]
/-- The row of a key, if there is one. -/
def dV : VT := ((0 : Int), ByteArray.empty, (0 : Int), (0 : Int))
end Go.Proofs.Ythdmjbndfnolmaa
