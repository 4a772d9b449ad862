/- The evaluator is right: what it comes to, the machine comes to. -/
import Derived.Test.YtmpmdfgjejkaiaaE1
import Derived.Laws.CopyRow
import Derived.Laws.Rows
import Derived.Below
import Derived.Deep.LoopGhost
namespace Go.Aq
open Go.RowKit (Below)

def blk : Value → Nat
  | .pointer (some a) => a.block
  | .slice (some a) _ _ => a.block
  | _ => 0
def hdr : Value → Value
  | .slice a n c => .slice a n c
  | _ => .slice none 0 0
def offs : Value → Nat
  | .slice (some a) _ _ => a.off
  | _ => 0

mutual
def den (ν : Nat → Value) : SV → Value
  | .int k n => .int k n
  | .bool b => .bool b
  | .str s => .string s
  | .ptr j off => .pointer (some ⟨blk (ν j), off, none⟩)
  | .osl j => hdr (ν j)
  | .eptr j i => .pointer (some ⟨blk (ν j), offs (ν j) + i.toNat, none⟩)
  | .clo f cs => .func (.func f) #[] (denL ν cs).toArray
  | .iface t v => .iface t (den ν v)
  | .agg cs => .agg (denL ν cs).toArray
  | .tup cs => .tuple (denL ν cs).toArray
  | .nilp => .pointer none
  | .nilsl => .slice none 0 0
  | .nilf => .nilFunc
  | .nili => .nilIface
def denL (ν : Nat → Value) : List SV → List Value
  | [] => []
  | v :: vs => den ν v :: denL ν vs
end

theorem denL_eq (ν : Nat → Value) (vs : List SV) : denL ν vs = vs.map (den ν) := by
  induction vs with
  | nil => simp [denL]
  | cons v vs ih => simp [denL, ih]

mutual
theorem den_congr {ν ν' : Nat → Value} {n : Nat} (h : ∀ j, j < n → ν j = ν' j) : ∀ v, svLt n v = true → den ν v = den ν' v
  | .int _ _, _ | .bool _, _ | .str _, _ | .nilp, _ | .nilsl, _ | .nilf, _ | .nili, _ => by simp [den]
  | .ptr j off, hv => by simp [svLt] at hv; simp [den, h j hv]
  | .osl j, hv => by simp [svLt] at hv; simp [den, h j hv]
  | .eptr j i, hv => by simp [svLt] at hv; simp [den, h j hv]
  | .clo f cs, hv => by simp [svLt] at hv; simp [den, denL_congr h cs hv]
  | .iface t v, hv => by simp [svLt] at hv; simp [den, den_congr h v hv]
  | .agg cs, hv => by simp [svLt] at hv; simp [den, denL_congr h cs hv]
  | .tup cs, hv => by simp [svLt] at hv; simp [den, denL_congr h cs hv]
theorem denL_congr {ν ν' : Nat → Value} {n : Nat} (h : ∀ j, j < n → ν j = ν' j) : ∀ vs, belowL n vs = true → denL ν vs = denL ν' vs
  | [], _ => by simp [denL]
  | v :: vs, hv => by
    simp [belowL] at hv
    simp [denL, den_congr h v hv.1, denL_congr h vs hv.2]
end
mutual
theorem svLt_mono {m n : Nat} (h : m ≤ n) : ∀ v, svLt m v = true → svLt n v = true
  | .int _ _, _ | .bool _, _ | .str _, _ | .nilp, _ | .nilsl, _ | .nilf, _ | .nili, _ => by simp [svLt]
  | .ptr j off, hv => by simp [svLt] at *; omega
  | .osl j, hv => by simp [svLt] at *; omega
  | .eptr j i, hv => by simp [svLt] at *; omega
  | .clo f cs, hv => by simp only [svLt] at *; exact belowL_mono h cs hv
  | .iface t v, hv => by simp only [svLt] at *; exact svLt_mono h v hv
  | .agg cs, hv => by simp only [svLt] at *; exact belowL_mono h cs hv
  | .tup cs, hv => by simp only [svLt] at *; exact belowL_mono h cs hv
theorem belowL_mono {m n : Nat} (h : m ≤ n) : ∀ vs, belowL m vs = true → belowL n vs = true
  | [], _ => by simp [belowL]
  | v :: vs, hv => by
    simp [belowL] at *
    exact ⟨svLt_mono h v hv.1, belowL_mono h vs hv.2⟩
end
theorem belowL_iff {n : Nat} {vs : List SV} : belowL n vs = true ↔ ∀ v ∈ vs, svLt n v = true := by
  induction vs with
  | nil => simp [belowL]
  | cons v vs ih => simp [belowL, ih]
theorem hoLt_mono {m n : Nat} (h : m ≤ n) : ∀ o, hoLt m o = true → hoLt n o = true
  | .cells _ vs, ho => by simp only [hoLt] at *; exact belowL_mono h vs ho
  | .ints _ _ _, _ => by simp [hoLt]

/-- A named place holds what is known of it. -/
def hoSat (ν : Nat → Value) (w : World) (j : Nat) : HO → Prop
  | .cells T vs => ∃ b, ν j = .pointer (some ⟨b, 0, none⟩) ∧ w.heap[b]? = some (.cells (denL ν vs).toArray T (0, 0))
  | .ints _ _ _ => False

theorem hoSat_congr {ν ν' : Nat → Value} {n : Nat} {w w' : World} {j : Nat} (h : ∀ j, j < n → ν j = ν' j) (hj : j < n) (hw : w'.heap[blk (ν j)]? = w.heap[blk (ν j)]?) :
    ∀ o, hoLt n o = true → hoSat ν w j o → hoSat ν' w' j o
  | .cells T vs, ho, ⟨b, hb, hc⟩ => by
    refine ⟨b, by rw [← h j hj, hb], ?_⟩
    simp only [hoLt] at ho
    rw [← denL_congr h vs ho]
    rw [hb] at hw
    exact hw.trans hc
  | .ints _ _ _, _, h => h.elim
theorem hoSat_lt {ν : Nat → Value} {w : World} {j : Nat} : ∀ {o}, hoSat ν w j o → blk (ν j) < w.heap.size
  | .cells T vs, ⟨b, hb, hc⟩ => by
    rw [hb]
    simp only [blk]
    rcases Nat.lt_or_ge b w.heap.size with h | h
    · exact h
    · simp [Array.getElem?_eq_none h] at hc
  | .ints _ _ _, h => h.elim

/-- The world is as the evaluator has it; of what was there in w0 nothing has turned but S. -/
structure RelW (S : Nat → Prop) (w0 : World) (ν : Nat → Value) (st : St) (w : World) : Prop where
  sat : ∀ j o, lkp j st.H = some o → hoSat ν w j o
  lt : ∀ j o, lkp j st.H = some o → j < st.nx ∧ hoLt st.nx o = true
  inj : ∀ i j oi oj, lkp i st.H = some oi → lkp j st.H = some oj → blk (ν i) = blk (ν j) → i = j
  mine : ∀ j o, lkp j st.H = some o → S (blk (ν j)) ∨ w0.heap.size ≤ blk (ν j)
  os : w.os = w0.os
  tape : w.tape = w0.tape
  output : w.output = w0.output
  size : w0.heap.size ≤ w.heap.size
  frame : ∀ b, b < w0.heap.size → ¬ S b → w.heap[b]? = w0.heap[b]?

/-- From one state to a later one. -/
structure Step (ν : Nat → Value) (st : St) (w : World) (ν' : Nat → Value) (st' : St) (w' : World) : Prop where
  nx : st.nx ≤ st'.nx
  agree : ∀ j, j < st.nx → ν j = ν' j
  dirt : st.dirty = true → st'.dirty = true
  dom : ∀ j o, lkp j st.H = some o → ∃ o', lkp j st'.H = some o'
  same : st'.dirty = false → ∀ j o, lkp j st.H = some o → w'.heap[blk (ν j)]? = w.heap[blk (ν j)]?
theorem Step.refl (ν : Nat → Value) (st : St) (w : World) : Step ν st w ν st w := ⟨Nat.le_refl _, fun _ _ => rfl, id, fun _ o h => ⟨o, h⟩, fun _ _ _ _ => rfl⟩
theorem Step.trans {ν : Nat → Value} {st : St} {w : World} {ν' : Nat → Value} {st' : St} {w' : World} {ν'' : Nat → Value} {st'' : St} {w'' : World} (hlt : ∀ j o, lkp j st.H = some o → j < st.nx)
    (h : Step ν st w ν' st' w') (k : Step ν' st' w' ν'' st'' w'') : Step ν st w ν'' st'' w'' where
  nx := Nat.le_trans h.nx k.nx
  agree j hj := (h.agree j hj).trans (k.agree j (Nat.lt_of_lt_of_le hj h.nx))
  dirt h' := k.dirt (h.dirt h')
  dom j o ho := let ⟨o', h'⟩ := h.dom j o ho; k.dom j o' h'
  same e j o ho := by
    obtain ⟨o', h'⟩ := h.dom j o ho
    have := k.same e j o' h'
    rw [← h.agree j (hlt j o ho)] at this
    refine this.trans (h.same ?_ j o ho)
    cases hd : st'.dirty with
    | false => rfl
    | true => rw [k.dirt hd] at e; cases e

theorem RelW.below {S : Nat → Prop} {w0 : World} {ν : Nat → Value} {st : St} {w w' : World} (h : RelW S w0 ν st w) (hb : Below w.heap.size w w') : RelW S w0 ν st w' where
  sat j o ho := hoSat_congr (fun _ _ => rfl) (h.lt j o ho).1 (hb.block _ (hoSat_lt (h.sat j o ho))) o (h.lt j o ho).2 (h.sat j o ho)
  lt := h.lt
  inj := h.inj
  mine := h.mine
  os := hb.os.trans h.os
  tape := hb.tape.trans h.tape
  output := hb.output.trans h.output
  size := Nat.le_trans h.size hb.size
  frame b hlt hS := (hb.block b (Nat.lt_of_lt_of_le hlt h.size)).trans (h.frame b hlt hS)

theorem lkp_cons {α : Type} (t s : Nat) (v : α) (r : List (Nat × α)) : lkp t ((s, v) :: r) = if s = t then some v else lkp t r := by
  simp only [lkp]
  by_cases h : s = t
  · simp [h]
  · rw [if_neg h, show Nat.beq s t = false from Bool.eq_false_iff.2 fun e => h (Nat.eq_of_beq_eq_true e)]; rfl

def upd (ν : Nat → Value) (n : Nat) (v : Value) : Nat → Value := fun j => if j = n then v else ν j
theorem upd_old {ν : Nat → Value} {n j : Nat} {v : Value} (h : j < n) : ν j = upd ν n v j := by simp [upd, Nat.ne_of_lt h]

theorem heap_alloc_lt (w : World) (o : Obj) (k : Nat) (h : k < w.heap.size) : (w.alloc o).heap[k]? = w.heap[k]? := Below.heap_alloc w o k h

theorem RelW.add {S : Nat → Prop} {w0 : World} {ν : Nat → Value} {st : St} {w : World} (h : RelW S w0 ν st w) (T : TypeId) (vs : List SV) (hv : belowL st.nx vs = true) :
    RelW S w0 (upd ν st.nx (.pointer (some ⟨w.heap.size, 0, none⟩))) (st.add (.cells T vs)) (w.alloc (.cells (denL ν vs).toArray T)) := by
  have hold : ∀ j, j < st.nx → ν j = upd ν st.nx (.pointer (some ⟨w.heap.size, 0, none⟩)) j := fun j hj => upd_old hj
  have hnew : upd ν st.nx (.pointer (some ⟨w.heap.size, 0, none⟩)) st.nx = .pointer (some ⟨w.heap.size, 0, none⟩) := by simp [upd]
  refine ⟨?_, ?_, ?_, ?_, h.os, h.tape, h.output, ?_, ?_⟩
  · intro j o ho
    simp only [St.add, lkp_cons] at ho
    split at ho
    · rename_i e; subst e; cases ho
      refine ⟨w.heap.size, hnew, ?_⟩
      rw [← denL_congr hold vs hv]
      show (w.heap.push _)[_]? = _
      simp
    · have hl := h.lt j o ho
      exact hoSat_congr hold hl.1 (heap_alloc_lt w _ _ (hoSat_lt (h.sat j o ho))) o hl.2 (h.sat j o ho)
  · intro j o ho
    simp only [St.add, lkp_cons] at ho ⊢
    split at ho
    · rename_i e; subst e; cases ho
      exact ⟨Nat.lt_succ_self _, by simp only [hoLt]; exact belowL_mono (Nat.le_succ _) vs hv⟩
    · have hl := h.lt j o ho
      exact ⟨Nat.lt_succ_of_lt hl.1, hoLt_mono (Nat.le_succ _) o hl.2⟩
  · intro i j oi oj hi hj hb
    simp only [St.add, lkp_cons] at hi hj
    split at hi <;> split at hj
    · rename_i e1 e2; omega
    · rename_i e1 e2; subst e1
      rw [hnew, ← hold j (h.lt j oj hj).1] at hb
      have := hoSat_lt (h.sat j oj hj)
      simp only [blk] at hb this; omega
    · rename_i e1 e2; subst e2
      rw [hnew, ← hold i (h.lt i oi hi).1] at hb
      have := hoSat_lt (h.sat i oi hi)
      simp only [blk] at hb this; omega
    · rw [← hold i (h.lt i oi hi).1, ← hold j (h.lt j oj hj).1] at hb
      exact h.inj i j oi oj hi hj hb
  · intro j o ho
    simp only [St.add, lkp_cons] at ho
    split at ho
    · rename_i e; subst e
      rw [hnew]; exact .inr h.size
    · rw [← hold j (h.lt j o ho).1]; exact h.mine j o ho
  · simp; exact Nat.le_succ_of_le h.size
  · intro b hb hS
    rw [heap_alloc_lt w _ b (Nat.lt_of_lt_of_le hb h.size)]
    exact h.frame b hb hS

theorem RelW.wash {S : Nat → Prop} {w0 : World} {ν : Nat → Value} {st : St} {w : World} (h : RelW S w0 ν st w) (d : Bool) : RelW S w0 ν (st.wash d) w :=
  ⟨h.sat, h.lt, h.inj, h.mine, h.os, h.tape, h.output, h.size, h.frame⟩
theorem Step.wash {ν ν' : Nat → Value} {st st' : St} {w w' : World} (h : Step ν st w ν' st' w') (d : Bool) : Step ν (st.wash (d || st.dirty)) w ν' (st'.wash (d || st'.dirty)) w' := by
  refine ⟨h.nx, h.agree, fun e => ?_, h.dom, fun e => ?_⟩
  · simp only [St.wash, Bool.or_eq_true] at e ⊢
    exact e.imp id h.dirt
  · simp only [St.wash, Bool.or_eq_false_iff] at e
    exact h.same e.2
theorem Step.add {S : Nat → Prop} {w0 : World} {ν : Nat → Value} {st : St} {w : World} (h : RelW S w0 ν st w) (v : Value) (o : HO) (b : Obj) : Step ν st w (upd ν st.nx v) (st.add o) (w.alloc b) := by
  refine ⟨Nat.le_succ _, fun j hj => upd_old hj, id, fun j o ho => ?_, fun _ j o ho => ?_⟩
  · simp only [St.add, lkp_cons]
    split
    · exact ⟨_, rfl⟩
    · exact ⟨o, ho⟩
  · exact heap_alloc_lt w _ _ (hoSat_lt (h.sat j o ho))
theorem Step.put (ν : Nat → Value) (st : St) (w w' : World) (j : Nat) (o : HO) : Step ν st w ν (st.put j o) w' := by
  refine ⟨Nat.le_refl _, fun _ _ => rfl, fun _ => rfl, fun i o' ho => ?_, fun h => ?_⟩
  · simp only [St.put, lkp_cons]
    split
    · exact ⟨_, rfl⟩
    · exact ⟨o', ho⟩
  · cases h
theorem Step.below {S : Nat → Prop} {w0 : World} {ν : Nat → Value} {st : St} {w w' : World} (h : RelW S w0 ν st w) (hb : Below w.heap.size w w') : Step ν st w ν st w' :=
  ⟨Nat.le_refl _, fun _ _ => rfl, id, fun _ o h => ⟨o, h⟩, fun _ j o ho => hb.block _ (hoSat_lt (h.sat j o ho))⟩

theorem RelW.put {S : Nat → Prop} {w0 : World} {ν : Nat → Value} {st : St} {w : World} (h : RelW S w0 ν st w) {j b : Nat} {T : TypeId} {vs vs' : List SV} (hj : lkp j st.H = some (.cells T vs))
    (hb : ν j = .pointer (some ⟨b, 0, none⟩)) (hv : belowL st.nx vs' = true) : RelW S w0 ν (st.put j (.cells T vs')) (w.setRow b (denL ν vs').toArray) := by
  obtain ⟨b', hb', hc⟩ := h.sat j _ hj
  obtain rfl : b = b' := by rw [hb] at hb'; injection hb' with e; injection e with e; injection e
  have hblk : blk (ν j) = b := by rw [hb]; rfl
  have hlk : ∀ i o, lkp i (st.put j (.cells T vs')).H = some o → (i = j ∧ o = .cells T vs') ∨ (i ≠ j ∧ lkp i st.H = some o) := by
    intro i o ho
    simp only [St.put, lkp_cons] at ho
    split at ho
    · rename_i e; subst e; cases ho; exact .inl ⟨rfl, rfl⟩
    · rename_i e; exact .inr ⟨fun e' => e e'.symm, ho⟩
  have hdom : ∀ i o, lkp i (st.put j (.cells T vs')).H = some o → ∃ o', lkp i st.H = some o' := by
    intro i o ho
    rcases hlk i o ho with ⟨rfl, _⟩ | ⟨_, h'⟩
    · exact ⟨_, hj⟩
    · exact ⟨_, h'⟩
  refine ⟨?_, ?_, ?_, ?_, h.os, h.tape, h.output, by simpa using h.size, ?_⟩
  · intro i o ho
    rcases hlk i o ho with ⟨rfl, rfl⟩ | ⟨hne, h'⟩
    · exact ⟨b, hb, setRow_heap w b _ _ T (0, 0) hc⟩
    · have hl := h.lt i o h'
      refine hoSat_congr (fun _ _ => rfl) hl.1 ?_ o hl.2 (h.sat i o h')
      refine setRow_other w b _ _ (fun e => hne ?_)
      exact h.inj i j o _ h' hj (by rw [e, hblk])
  · intro i o ho
    rcases hlk i o ho with ⟨rfl, rfl⟩ | ⟨hne, h'⟩
    · exact ⟨(h.lt _ _ hj).1, hv⟩
    · exact h.lt i o h'
  · intro i k oi ok hi hk he
    obtain ⟨oi', hi'⟩ := hdom i oi hi
    obtain ⟨ok', hk'⟩ := hdom k ok hk
    exact h.inj i k _ _ hi' hk' he
  · intro i o ho
    obtain ⟨o', h'⟩ := hdom i o ho
    exact h.mine i o' h'
  · intro c hc' hS
    rw [setRow_other w b c _ (fun e => ?_)]
    · exact h.frame c hc' hS
    · subst e
      rcases h.mine j _ hj with hm | hm
      · rw [hblk] at hm; exact hS hm
      · rw [hblk] at hm; omega
end Go.Aq

