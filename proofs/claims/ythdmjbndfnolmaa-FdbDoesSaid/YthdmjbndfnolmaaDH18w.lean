/- A row of structs that the call owns, behind the library's sort: it owns the sorted row; plain. -/
import Derived.Sort.OwnSortedInts
import Derived.Shelf.GgSortFunc.InsertionK
import Derived.Deep.Onto
import Derived.Test.YthdmjbndfnolmaaDH18c
import Derived.Test.YthdmjbndfnolmaaDH18o
namespace Go.Proofs.Ythdmjbndfnolmaa
open Go.Sort Go.Proofs Go.Shelf Go.RowKit
set_option linter.unusedVariables false
theorem flatVT_get : ∀ (d : List VT) (t : Nat), t < d.length * 4 → (flatVT d)[t]? = some ((vcells (d[t / 4]!))[t % 4]!)
  | [], t, h => by simp at h
  | x :: d, t, h => by
    have e : flatVT (x :: d) = vcells x ++ flatVT d := rfl
    by_cases h4 : t < 4
    · rw [e, List.getElem?_append_left (by simpa [vcells] using h4)]
      have : t = 0 ∨ t = 1 ∨ t = 2 ∨ t = 3 := by omega
      rcases this with rfl | rfl | rfl | rfl <;> rfl
    · obtain ⟨s, rfl⟩ : ∃ s, t = s + 4 := ⟨t - 4, by omega⟩
      rw [e, List.getElem?_append_right (by simp [vcells]), show (vcells x).length = 4 from rfl, Nat.add_sub_cancel, flatVT_get d s (by simp at h; omega), Nat.add_div_right s (by decide), Nat.add_mod_right]
      simp
theorem flatVT_len (d : List VT) : (flatVT d).length = d.length * 4 := by
  induction d with
  | nil => rfl
  | cons x d ih =>
    have e : flatVT (x :: d) = vcells x ++ flatVT d := rfl
    rw [e, List.length_append, ih, show (vcells x).length = 4 from rfl]; simp; omega
theorem flatK_vt (d : List VT) : (flatK vcells 4 d.toArray).toList = flatVT d := by
  apply List.ext_getElem?
  intro t
  by_cases h : t < d.length * 4
  · rw [flatVT_get d t h, Array.getElem?_toList]
    simp [flatK, h]
  · rw [List.getElem?_eq_none (by simp; omega), List.getElem?_eq_none (by rw [flatVT_len]; omega)]
theorem holds_blk {w : World} {g : Nat} {cur : Array Value} {e : TypeId} {F : Array Value} (hb : w.heap[g]? = some (.cells cur e (0, 0))) (ht : cur.toList.take F.size = F.toList) : Holds id w g 0 F := by
  intro j hj
  refine ⟨?_, by simp [World.frozen?, hb]⟩
  have h1 : (cur.toList.take F.size)[j]? = F.toList[j]? := by rw [ht]
  rw [List.getElem?_take_of_lt hj] at h1
  simp only [World.cell?, hb, Nat.zero_add]
  simp only [Option.isSome_none, Bool.false_eq_true, if_false]
  rw [← Array.getElem?_toList, h1, Array.getElem?_toList]
  simp [hj]
theorem heap_sorted_id {w : World} {g n : Nat} {os : Array Obj} {cur : Array Value} {e : TypeId} {fr : Nat × Nat} (F : Array Value) (hb : w.heap[g]? = some (.cells cur e fr)) :
    (grow (putRow id (Sort.ahead w n) g 0 F) os).heap[g]? = some (.cells (putCells id 0 F cur) e fr) := by
  have hg : g < w.heap.size := (Array.getElem?_eq_some_iff.1 hb).1
  rw [heap_grow_old _ _ (by simpa using hg)]
  simp [putRow, mapBlock, Sort.ahead, Array.getElem?_modify, hb, onCells]
theorem grownBy_sorted_id {w : World} {g n : Nat} {os : Array Obj} (F : Array Value) : w.grownBy (grow (putRow id (Sort.ahead w n) g 0 F) os) (some g) := by
  refine ⟨rfl, rfl, rfl, by simp, fun k hk hne => ?_⟩
  rw [heap_grow_old _ _ (by simpa using hk)]
  have : g ≠ k := fun e => hne (by rw [e])
  simp [putRow, mapBlock, Sort.ahead, Array.getElem?_modify, this]
theorem take_put_id (cur F : Array Value) (h : F.size ≤ cur.size) : (putCells id 0 F cur).toList.take F.size = F.toList := by
  apply List.ext_getElem?
  intro j
  by_cases hj : j < F.size
  · rw [List.getElem?_take_of_lt hj, Array.getElem?_toList, Array.getElem?_toList]
    simp [putCells, hj, show j < cur.size by omega]
  · rw [List.getElem?_take_eq_none (by omega), List.getElem?_eq_none (by simp; omega)]
/-- Behind the sort the same slice owns the sorted row. -/
theorem owns_sorted {w : World} {base g cap n : Nat} {e : TypeId} {os : Array Obj} {cur : Array Value} {ys zs : List VT} (hl : zs.length = ys.length) (hbase : base ≤ g) (hb : w.heap[g]? = some (.cells cur e (0, 0)))
    (h1 : ys.length ≤ cap) (h2 : cap ≤ maxLen) (h3 : cur.size = cap * 4) :
    (sortWorldK vcells 4 w g 0 n zs.toArray os).ownsRow base e 4 (.slice (some ⟨g, 0, none⟩) ys.length cap) ys.length (flatVT zs) := by
  have hF : (flatK vcells 4 zs.toArray).size = zs.length * 4 := by simp
  refine ⟨by rw [flatVT_len, hl], .inr ⟨g, cap, _, rfl, hbase, heap_sorted_id _ hb, h1, h2, by simp [putCells, h3], ?_⟩⟩
  rw [← flatK_vt zs, ← hl, ← hF]
  exact take_put_id cur _ (by rw [hF, h3, hl]; exact Nat.mul_le_mul_right 4 h1)
end Go.Proofs.Ythdmjbndfnolmaa
