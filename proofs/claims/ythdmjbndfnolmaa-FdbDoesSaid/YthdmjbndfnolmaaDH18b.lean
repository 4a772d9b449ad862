/- maps.Values at an fdb's map: its iterator, for every round. -/
import Derived.RangeFuncNested
import Derived.RangeFuncFrom
import Derived.RangeFuncBound
import Derived.RangeFuncLeaves
import Derived.RangeFuncCalls
import Derived.RangeFuncBox
import Derived.Shelf.Abstract
import Derived.Shelf.RegionOpen
import Derived.WalkKit
import Derived.OwnWalkIn
import Derived.TacticsInMore
import Derived.LoopNIn
import Derived.LoopIn
import Derived.Maps.AppendAt
import Derived.Test.YthdmjbndfnolmaaDH18a
namespace Go.Proofs.Ythdmjbndfnolmaa
open Go.RowKit Go.Shelf Go.ChangeMaps
set_option linter.unusedVariables false
attribute [local go_sem] Oper.semAt_some

def seenOf (zs : List ZT) (seen : Array Nat) : List VT := (zs.filter fun z => seen.contains z.1).map (·.2.2)
theorem seen_split {pre post : List ZT} {z : ZT} {seen : Array Nat} (hn : ((pre ++ z :: post).map (·.1)).Nodup) (hs : seen.contains z.1 = false) {ys : List VT} (h : ys.Perm (seenOf (pre ++ z :: post) seen)) :
    (ys ++ [z.2.2]).Perm (seenOf (pre ++ z :: post) (seen.push z.1)) ∧ ys.length < (pre ++ z :: post).length := by
  rw [List.map_append, List.map_cons] at hn
  have hn := List.nodup_append.1 hn
  have other : ∀ l : List ZT, (∀ y ∈ l, y.1 ≠ z.1) → (l.filter fun y => (seen.push z.1).contains y.1) = l.filter fun y => seen.contains y.1 := by
    intro l hl
    refine List.filter_congr fun y hy => ?_
    rw [contains_push]
    have := hl y hy
    simp [this]
  have h1 : ∀ y ∈ pre, y.1 ≠ z.1 := fun y hy => hn.2.2 y.1 (List.mem_map.2 ⟨y, hy, rfl⟩) z.1 (by simp)
  have h2 : ∀ y ∈ post, y.1 ≠ z.1 := fun y hy e => (List.nodup_cons.1 hn.2.1).1 (e ▸ List.mem_map.2 ⟨y, hy, rfl⟩)
  have hp : (seen.push z.1).contains z.1 = true := by rw [contains_push]; simp
  unfold seenOf at h ⊢
  rw [List.filter_append, List.filter_cons_of_neg (by rw [hs]; simp)] at h
  rw [List.filter_append, List.filter_cons_of_pos (p := fun y : ZT => (seen.push z.1).contains y.1) (a := z) hp, other pre h1, other post h2]
  constructor
  · rw [List.map_append, List.map_cons]
    rw [List.map_append] at h
    refine (h.append_right [z.2.2]).trans ?_
    rw [List.append_assoc]
    refine List.Perm.append_left _ ?_
    exact List.perm_append_comm
  · have := h.length_eq
    rw [List.length_map, List.length_append] at this
    have a := List.length_filter_le (fun y : ZT => seen.contains y.1) pre
    have b := List.length_filter_le (fun y : ZT => seen.contains y.1) post
    simp only [List.length_append, List.length_cons]
    omega
theorem seen_all {zs : List ZT} {seen : Array Nat} (h : ∀ z ∈ zs, seen.contains z.1 = true) : seenOf zs seen = zs.map (·.2.2) := by
  unfold seenOf
  rw [List.filter_eq_self.2 h]
theorem curN (zs : List ZT) (seen : Array Nat) {e : MapEntry} (h : e ∈ (leftOf (arr zs) seen).toList) : ∃ z ∈ zs, seen.contains z.1 = false ∧ e = encE z ∧ e ∈ (arr zs).toList := by
  obtain ⟨h1, h2⟩ := mem_left h
  have h1' := h1
  simp only [arr] at h1
  obtain ⟨y, hy, rfl⟩ := List.mem_map.1 h1
  exact ⟨y, hy, h2, rfl, h1'⟩
theorem grown_set {w : World} {r : Nat} {o : Obj} : w.grownBy (setBlock w r o) (some r) := ⟨rfl, rfl, rfl, by simp [setBlock], fun i _ hi => set_ne (fun e => hi (by rw [e]))⟩

set_option maxRecDepth 100000 in
set_option maxHeartbeats 2000000 in
theorem val1_in (n l Bm bm clock : Nat) (zs : List ZT) (hn1 : 1 ≤ n) (J Jx : List VT → World → Prop) (W : World) (hJ : AbidesFrom W.heap.size J)
    (hY : ∀ pre x W, J pre W → pre.length < zs.length → YieldAt Fence.wide (n - 1) Try.prog l #[vv x] W fun e W' =>
      (e = .returned (.bool true) ∧ J (pre ++ [x]) W' ∧ KeepsWalks W W') ∨ (e = .returned (.bool false) ∧ Jx (pre ++ [x]) W'))
    (hB : W.heap[Bm]? = some (.cells #[.map (some bm)] 54 (0, 0))) (hm : W.heap[bm]? = some (.map (arr zs) clock)) (hn : (zs.map (·.1)).Nodup) (hc : ∀ z ∈ zs, z.1 < clock) (h0 : J [] W) :
    CallsIn Fence.wide n Try.prog 34 #[.func (.yield l) #[] #[], .pointer (some ⟨Bm, 0, none⟩)] W fun e W' => (∃ v, e = .returned v) ∧
      ((∃ ys, ys.Perm (zs.map (·.2.2)) ∧ J ys W') ∨ (∃ pre, True ∧ Jx pre W')) := by
  have cB : W.cell? ⟨Bm, 0, none⟩ = some (.map (some bm)) := cells_at hB 0
  have hrg : (Instr.range 54 (.map (some bm))).run Try.prog W = .ok (.pointer (some ⟨W.heap.size, 0, none⟩)) (W.alloc (.mapIter (some bm) clock #[] clock)) :=
    run_range_map W 54 62 44 bm _ clock u54 hm
  have bmlt : bm < W.heap.size := (Array.getElem?_eq_some_iff.1 hm).1
  have hR0 : ∃ seen c0 ys, (W.alloc (.mapIter (some bm) clock #[] clock)).heap[bm]? = some (.map (arr zs) clock) ∧ (W.alloc (.mapIter (some bm) clock #[] clock)).heap[W.heap.size]? = some (.mapIter (some bm) clock seen c0) ∧ clock ≤ c0 ∧ ys.Perm (seenOf zs seen) ∧ J ys (W.alloc (.mapIter (some bm) clock #[] clock)) :=
    ⟨#[], clock, [], (Below.heap_alloc W _ bm bmlt).trans hm, (MapKept.heap_alloc W _).1, Nat.le_refl _, by simp [seenOf], hJ [] W _ none h0 (World.grownBy_alloc W _ none) (fun r e => by cases e)⟩
  refine callsIn_of_wp Try.func34 rfl trivial ?_ rfl
  simp only [Try.ntmps34, List.size_toArray, List.length_cons, List.length_nil, Nat.reduceAdd, Nat.reduceSub, Array.replicate_succ, Array.replicate_zero, List.push_toArray, List.append_toArray, List.nil_append, List.cons_append]
  gi_wp2
  clear hrg
  gi_loopw [4] (fun _ wr => ∃ seen c0 ys, wr.heap[bm]? = some (.map (arr zs) clock) ∧ wr.heap[W.heap.size]? = some (.mapIter (some bm) clock seen c0) ∧ clock ≤ c0 ∧ ys.Perm (seenOf zs seen) ∧ J ys wr) (fun _ wr => wr.rangeLeft bm W.heap.size)
  case atStart => exact hR0
  case round =>
    obtain ⟨seen, c0, ys, g1, g2, g3, g4, g5⟩ := hrel
    have HM := Lib.hid (show wr.rangeLeft bm W.heap.size = (leftOf (arr zs) seen).size by simp only [World.rangeLeft, g1, g2])
    rcases run_next_at (P := Try.prog) wr 0 W.heap.size bm clock c0 seen (arr zs) clock g2 g1 (fun x hx => by
      simp only [arr] at hx
      obtain ⟨y, hy, rfl⟩ := List.mem_map.1 hx
      exact hc y hy) g3 with ⟨hz, hrun⟩ | ⟨e, he, w1, hal, hrun⟩
    · have hall := all_seen _ seen hz
      have hperm : ys.Perm (zs.map (·.2.2)) := by
        rw [seen_all (fun z hz => hall (encE z) (by simp only [arr]; exact List.mem_map.2 ⟨z, hz, rfl⟩))] at g4
        exact g4
      have HP := Lib.hid hperm
      clear hz hall hperm
      gi_wp2
      go_end0
      exact ⟨⟨_, rfl⟩, .inl ⟨ys, HP.out, g5⟩⟩
    · obtain ⟨z, hz1, hz2, rfl, hz3⟩ := curN zs seen he
      have hlt := left_shrinks _ seen _ he
      obtain ⟨pre, post, rfl⟩ := List.append_of_mem hz1
      obtain ⟨W1, hW1⟩ : ∃ W', setBlock w1 W.heap.size (Obj.mapIter (some bm) clock (seen.push (encE z).born) clock) = W' := ⟨_, rfl⟩
      rw [hW1] at hrun
      have hw1 : w1.heap = wr.heap ∧ wr.grownBy w1 none := by rcases hal with rfl | rfl <;> exact ⟨rfl, rfl, rfl, rfl, Nat.le_refl _, fun _ _ _ => rfl⟩
      have rlt : W.heap.size < wr.heap.size := (Array.getElem?_eq_some_iff.1 g2).1
      have q1 : W1.heap[bm]? = some (.map (arr (pre ++ z :: post)) clock) := by rw [← hW1, set_ne (by omega), hw1.1]; exact g1
      have q2 : W1.heap[W.heap.size]? = some (.mapIter (some bm) clock (seen.push z.1) clock) := by rw [← hW1]; exact set_at (by rw [hw1.1]; exact rlt)
      have qJ : J ys W1 := by
        refine hJ ys w1 W1 (some W.heap.size) (hJ ys wr w1 none g5 hw1.2 (fun r e => by cases e)) (by rw [← hW1]; exact grown_set) (fun r e => ?_)
        cases e
        exact ⟨Nat.le_refl _, _, by rw [hw1.1]; exact g2, rfl⟩
      have hent := run_entry_at (P := Try.prog) W1 W.heap.size bm clock seen _ clock (encE z) q2 q1 hz3 (by
        simp only [arr, List.map_map]
        exact hn)
      obtain ⟨hp2, hlen⟩ := seen_split hn hz2 g4
      have HP := Lib.hid hp2
      have HQ := Lib.hid (show W1.heap[bm]? = _ from q1)
      have HN := Lib.hid hn
      have HW := Lib.hid hW1
      have rlt1 : W.heap.size < W1.heap.size := (Array.getElem?_eq_some_iff.1 q2).1
      have r1 : ∀ o, (W1.alloc o).heap[bm]? = some (.map (arr (pre ++ z :: post)) clock) := fun o => (Below.heap_alloc W1 o bm (by omega)).trans q1
      have r2 : ∀ o, (W1.alloc o).heap[W.heap.size]? = some (.mapIter (some bm) clock (seen.push z.1) clock) := fun o => (Below.heap_alloc W1 o _ rlt1).trans q2
      have R1 := Lib.hid r1
      have R2 := Lib.hid r2
      clear g1 g2 hal hw1 he hz1 hz3 hW1 q1 q2 hp2 r1 r2 hm
      have hJ2 : J ys (W1.alloc (.cells #[.int .i64 z.2.2.1, .string z.2.2.2.1, .int .i64 z.2.2.2.2.1, .int .i64 z.2.2.2.2.2] 44)) := hJ ys W1 _ none qJ (World.grownBy_alloc W1 _ none) (fun r e => by cases e)
      obtain ⟨fn, tmps, assign, body, hy, hRd⟩ := hY ys z.2.2 _ hJ2 hlen
      obtain ⟨zb, ⟨k1, k2⟩, v1, v2, v3, v4⟩ := z
      simp only [encE, kv, vv] at hrun hent hlt hy hRd
      gi_wp2
      refine hRd.mono ?_
      rintro e W3 (⟨rfl, hJ3, hk3⟩ | ⟨rfl, hJx3⟩)
      · have s1 := hk3.same _ _ (R1.out _) rfl
        have s2 := hk3.same _ _ (R2.out _) rfl
        have S1 := Lib.hid s1
        have S2 := Lib.hid s2
        clear s1 s2
        gi_wp2
        go_roundw
        case rel => exact ⟨seen.push zb, clock, ys ++ [(v1, v2, v3, v4)], S1.out, S2.out, Nat.le_refl _, HP.out, hJ3⟩
        case measure =>
          rw [HM.out]
          have s1 := S1.out
          have s2 := S2.out
          simp only [World.rangeLeft, s1, s2]
          exact hlt
      · gi_wp2
        refine bodyPost_ret (results_none rfl _ _ _) rfl ?_
        exact ⟨⟨_, rfl⟩, .inr ⟨_, trivial, hJx3⟩⟩
end Go.Proofs.Ythdmjbndfnolmaa
