/- Texts of this proof, joined (9 of them): DHB1, DHB2, DHB3, DHB4, DHB5, DHB6, DHB7, DHB8, DHB.
   Conditions: none but those that stand at each theorem. -/
import Derived.WalkKit
import Derived.OwnWalk
import Derived.LoopN
import Derived.Lib.Hide
import Derived.Test.YtkihcmcaignmkaaGreatDM3
import Derived.RangeFuncFrom
import Derived.RangeFuncLeaves
import Derived.RangeFuncCalls
import Derived.Shelf.Abstract
import Derived.Shelf.RegionOpen
import Derived.OwnWalkIn
import Derived.TacticsInMore
import Derived.LoopNIn
import Derived.LoopIn
import Derived.Laws.Rows
import Derived.RangeFuncNested
import Derived.RangeFuncBound
import Derived.Test.YtkihcmcaignmkaaGreatDM2
section
namespace Go.Proofs.YtkihcmcaignmkaaGreat
open Go.Aq Go.RowKit
set_option linter.unusedVariables false
abbrev MemT := Int × List Int
abbrev fM : Shs := .cons (.leaf (.int .i64)) (.one (.row false 3 [.int .i64]) [])
theorem row_below {n0 : Nat} {w w' : World} {v : Value} {xs : List Int} (c3 : RowSat w v false 3 [.int .i64] xs) (c4 : ∀ b ∈ rowSeen false xs v, b < n0) (hB : Below n0 w w') : RowSat w' v false 3 [.int .i64] xs := by
 rcases c3 with c3 | ⟨a', cap', d1, d2, d3, d4⟩
 ·exact .inl c3
 ·refine .inr ⟨a', cap', d1, d2, fun ho => ⟨fun i u hu => ?_, (d3 ho).2⟩, fun h => by cases h⟩
  have hne : xs ≠ [] := by
   intro e; rw [e] at hu; simp [flat] at hu
  obtain ⟨y, ys, hy⟩ := List.exists_cons_of_ne_nil hne
  have := c4 a'.block (by rw [d1, hy]; simp [rowSeen])
  exact (World.cell?_of_block (a := a'.add i) (w := w) (w' := w') (by rw [add_block]; exact hB.block a'.block this)).trans ((d3 ho).1 i u hu)
structure PortsAt (n0 : Nat) (w : World) (b0 : Nat) (ps : List MemT) : Prop where
 lt : b0 < n0
 ex : ∃ vp rest, w.heap[b0]? = some (.cells (vp :: rest).toArray 66 (0, 0)) ∧ ((ps = [] ∧ ∃ o cap, vp = .slice o 0 cap) ∨ ∃ a cap, vp = .slice (some a) ps.length cap ∧ ps.length ≤ cap ∧ a.spot = none ∧ a.block < n0 ∧
  ∀ (p : Nat) (m : MemT), ps[p]? = some m → w.cell? (a.add (2 * p)) = some (.int .i64 m.1) ∧ ∃ v, w.cell? (a.add (2 * p + 1)) = some v ∧ RowSat w v false 3 [.int .i64] m.2 ∧ ∀ b ∈ rowSeen false m.2 v, b < n0)
theorem PortsAt.below {n0 : Nat} {w w' : World} {b0 : Nat} {ps : List MemT} (h : PortsAt n0 w b0 ps) (hB : Below n0 w w') : PortsAt n0 w' b0 ps := by
 obtain ⟨vp, rest, h0, h1⟩ := h.ex
 refine ⟨h.lt, vp, rest, (hB.block b0 h.lt).trans h0, ?_⟩
 rcases h1 with h1 | ⟨a, cap, e1, e2, e3, e4, h1⟩
 ·exact .inl h1
 ·refine .inr ⟨a, cap, e1, e2, e3, e4, fun p m hm => ?_⟩
  obtain ⟨c1, v, c2, c3, c4⟩ := h1 p m hm
  refine ⟨(World.cell?_of_block (a := a.add (2 * p)) (w := w) (w' := w') (by rw [add_block]; exact hB.block a.block e4)).trans c1, v, (World.cell?_of_block (a := a.add (2 * p + 1)) (w := w) (w' := w') (by rw [add_block]; exact hB.block a.block e4)).trans c2, row_below c3 c4 hB, c4⟩
theorem contains_calls (k : Nat) (v : Value) (xs : List Int) (n : Int) (c : Bool) (hS : F_slices_Contains_int_int.S k xs n = .ok c) (w : World) (hr : RowSat w v false 3 [.int .i64] xs) (hb : ∀ b ∈ rowSeen false xs v, b < w.heap.size) :
  Calls Tryz.prog 55 #[v, .int .i64 n] w fun e w' => e = .returned (.bool c) ∧ Below w.heap.size w w' := by
 have h := F_slices_Contains_int_int.ok k (xs, n) () (by show F_slices_Contains_int_int.S k xs n ≠ .no; rw [hS]; intro h; cases h) w [v, .int .i64 n] (fun _ => undef) [] (fun b => b < w.heap.size ∧ b ∉ ([] : List Nat)) (fun b hb => hb) rfl List.nodup_nil
  ⟨v, [.int .i64 n], [], [], rfl, rfl, ⟨[v], ⟨v, rfl, by simp, hr, rfl, fun b hb' => ⟨hb b hb', by simp⟩⟩, rfl⟩, ⟨_, rfl, [.int .i64 n], ⟨rfl, rfl⟩, rfl⟩⟩
 refine h.mono ?_
 rintro e w' ⟨z, hz, hK, α', F1, F2, Z', _, _, h2, _⟩
 have hz : F_slices_Contains_int_int.S k xs n = .ok z := hz
 rw [hS] at hz
 obtain rfl := O.ok.inj hz
 cases e with
 | returned v' =>
  obtain ⟨cs, ⟨rfl, _⟩, h2⟩ := h2
  have h2 : [den ν0 (Lf.bool.enc c)] = [v'] := h2
  simp only [List.cons.injEq, and_true] at h2
  exact ⟨by rw [← h2]; rfl, hK.os, hK.tape, hK.output, hK.size, fun b hb => hK.heap b hb (by simp)⟩
 | panicked ch => exact h2.elim
 | outgrown => exact h2.elim
theorem cell0 {w : World} {b : Nat} {v : Value} {rest : List Value} {t : TypeId} (h : w.heap[b]? = some (.cells (v :: rest).toArray t (0, 0))) : w.cell? ⟨b, 0, none⟩ = some v := by
 simp [World.cell?, h]
theorem add_next (a : Addr) (p : Nat) (h : a.spot = none) : ({ block := (a.add (p * 2)).block, off := (a.add (p * 2)).off + 1 } : Addr) = a.add (2 * p + 1) := by
 obtain ⟨ab, ao, sp⟩ := a
 simp only at h
 subst h
 rcases Nat.eq_zero_or_pos p with rfl | hp
 ·rfl
 ·unfold Addr.add
  rw [if_neg (show ¬ p * 2 = 0 by omega), if_neg (show ¬ 2 * p + 1 = 0 by omega)]
  simp only [Addr.mk.injEq, true_and, and_true]
  omega
set_option maxRecDepth 100000 in
theorem has_raw (k : Nat) (n0 b0 p : Nat) (ps : List MemT) (m : MemT) (vlan : Int) (c : Bool) (hp : ps[p]? = some m) (hc : m.1 ≠ vlan → F_slices_Contains_int_int.S k m.2 vlan = .ok c) (hc1 : m.1 = vlan → c = true) (w : World) (hn0 : n0 ≤ w.heap.size) (h : PortsAt n0 w b0 ps) :
  Calls Tryz.prog 24 #[.pointer (some ⟨b0, 0, none⟩), .int .i64 p, .int .i64 vlan] w fun e w' => e = .returned (.bool c) ∧ Below w.heap.size w w' := by
 obtain ⟨vp, rest, h0, h1⟩ := h.ex
 have hlt := (List.getElem?_eq_some_iff.1 hp).1
 rcases h1 with ⟨rfl, _⟩ | ⟨a, cap, rfl, e2, e3, e4, h1⟩
 ·simp at hp
 obtain ⟨c1, v, c2, hr, hb⟩ := h1 p m hp
 have hv := cell0 h0
 have c1' : w.cell? (a.add (p * 2)) = some (.int .i64 m.1) := by rw [Nat.mul_comm]; exact c1
 have c2' : w.cell? { block := (a.add (p * 2)).block, off := (a.add (p * 2)).off + 1 } = some v := by
  rw [add_next a p e3]
  exact c2
 have HC := Lib.hid (fun h w' hr' hb' => contains_calls k v m.2 vlan c (hc h) w' hr' hb')
 have hsl : ∃ o n' cap', v = .slice o n' cap' := by
  rcases hr with ⟨h, _⟩ | ⟨a', cap', h, _⟩
  ·exact ⟨_, _, _, h⟩
  ·exact ⟨_, _, _, h⟩
 have HR := Lib.hid hr
 have HB := Lib.hid hb
 clear hr hb h1 h0 h hp c1 c2
 obtain ⟨o, n', cap', rfl⟩ := hsl
 by_cases hm : m.1 = vlan
 ·go_enter Tryz.func24, Tryz.ntmps24
  go_wp2
  refine bodyPost_ret (results_tmp rfl _ _ _) rfl ?_
  exact ⟨by rw [hc1 hm]; rfl, (Below.refl _ w).alloc (Nat.le_refl _) _⟩
 ·have hB0 : Below w.heap.size w (w.alloc (.cells #[.int .i64 m.1, .slice o n' cap'] 58)) := (Below.refl _ w).alloc (Nat.le_refl _) _
  have hq := row_below HR.out (fun b hb => Nat.lt_of_lt_of_le (HB.out b hb) hn0) hB0
  have HD := Lib.hid (HC.out hm _ hq (fun b hb => by have := HB.out b hb; simp; omega))
  have HB0 := Lib.hid hB0
  clear hB0 hq
  go_enter Tryz.func24, Tryz.ntmps24
  go_wp2_with (go_at_call 55; refine HD.out.mono ?_; rintro e w' ⟨rfl, hB⟩; have HB2 := Lib.hid hB; clear hB)
  refine bodyPost_ret (results_tmp rfl _ _ _) rfl ?_
  exact ⟨by show Ending.returned (Value.bool (m.1 == vlan || c)) = _; simp [hm], HB0.out.trans (HB2.out.mono (by simp))⟩
end Go.Proofs.YtkihcmcaignmkaaGreat
end
section
namespace Go.Proofs.YtkihcmcaignmkaaGreat
open Go.Aq Go.RowKit Go.Shelf
set_option linter.unusedVariables false
attribute [local go_sem] Oper.semAt_some
def memb (hs : Nat → Bool) : Nat → List Nat
 | 0 => []
 | n + 1 => if hs n = true then memb hs n ++ [n] else memb hs n
theorem memb_len (hs : Nat → Bool) : ∀ n, (memb hs n).length ≤ n
 | 0 => Nat.le_refl _
 | n + 1 => by
  unfold memb
  have := memb_len hs n
  split
  ·simp; omega
  ·omega
theorem memb_pre (hs : Nat → Bool) {p : Nat} (hp : hs p = true) : ∀ {n : Nat}, p < n → ∃ q, memb hs n = memb hs p ++ [p] ++ q
 | n + 1, h => by
  by_cases e : p = n
  ·subst e
   exact ⟨[], by rw [memb, if_pos hp]; simp⟩
  ·obtain ⟨q, hq⟩ := memb_pre hs hp (n := n) (by omega)
   rw [memb]
   split
   ·exact ⟨q ++ [n], by rw [hq]; simp⟩
   ·exact ⟨q, hq⟩
theorem box_cell {W : World} {B : Nat} {v : Value} {t : TypeId} (h : W.heap[B]? = some (.cells #[v] t (0, 0))) : W.cell? ⟨B, 0, none⟩ = some v := by simp [World.cell?, h]
theorem grown_of_below {w w' : World} (h : Below w.heap.size w w') : w.grownBy w' none := by
 constructor
 all_goals first | exact h.os | exact h.tape | exact h.output | exact h.size | exact fun k hk _ => h.block k hk
def HasOk (k : Nat) (ps : List MemT) (vlan : Int) (hs : Nat → Bool) : Prop :=
 ∀ p m, ps[p]? = some m → (m.1 ≠ vlan → F_slices_Contains_int_int.S k m.2 vlan = .ok (hs p)) ∧ (m.1 = vlan → hs p = true)
def KpB (n0 Bb Bv : Nat) (W W' : World) : Prop := Below n0 W W' ∧ W'.heap[Bb]? = W.heap[Bb]? ∧ W'.heap[Bv]? = W.heap[Bv]?
theorem KpB.trans {n0 Bb Bv : Nat} {A B C : World} (h : KpB n0 Bb Bv A B) (k : KpB n0 Bb Bv B C) : KpB n0 Bb Bv A C := ⟨h.1.trans k.1, k.2.1.trans h.2.1, k.2.2.trans h.2.2⟩
theorem KpB.put {n0 Bb Bv : Nat} {w : World} (hn : n0 ≤ w.heap.size) (h1 : Bb < w.heap.size) (h2 : Bv < w.heap.size) (W : World) (l : Nat) (o o' : Obj) (hl : w.heap.size ≤ l) (h : W.heap[l]? = some o) (hc : o.isCells = false) (hw : o.isWalk = false) : KpB n0 Bb Bv W (W.putObj l o') :=
 ⟨belowK_b (w := w) hn W l o o' hl h hc hw, World.putObj_heap_other (by omega), World.putObj_heap_other (by omega)⟩
theorem PortsAt.len {n0 : Nat} {w : World} {b0 : Nat} {ps : List MemT} (h : PortsAt n0 w b0 ps) : ∃ o cap, w.cell? ⟨b0, 0, none⟩ = some (.slice o ps.length cap) := by
 obtain ⟨vp, rest, h0, h1⟩ := h.ex
 rcases h1 with ⟨rfl, _, _, rfl⟩ | ⟨a, cap, rfl, _⟩
 ·exact ⟨_, _, cell0 h0⟩
 ·exact ⟨_, _, cell0 h0⟩
set_option maxRecDepth 100000 in
set_option maxHeartbeats 2000000 in
theorem members1_in (k n0 Bb Bv b0 : Nat) (ps : List MemT) (vlan : Int) (hs : Nat → Bool) (hhs : HasOk k ps vlan hs) (hlen : ps.length ≤ 140737488351232) (l : Nat) (J Jx : List (Fin ps.length) → World → Prop) (n : Nat) (hn : 1 ≤ n) (W : World) (hJ : AbidesFrom W.heap.size J)
  (hY : ∀ pre x W, J pre W → pre.length < ps.length → YieldAt Fence.wide (n - 1) Tryz.prog l #[.int .i64 (x.val : Nat)] W fun e W' =>
   (e = .returned (.bool true) ∧ J (pre ++ [x]) W' ∧ KpB n0 Bb Bv W W') ∨ (e = .returned (.bool false) ∧ Jx (pre ++ [x]) W'))
  (hn0 : n0 ≤ W.heap.size) (hBb : W.heap[Bb]? = some (.cells #[.pointer (some ⟨b0, 0, none⟩)] 26 (0, 0))) (hBv : W.heap[Bv]? = some (.cells #[.int .i64 vlan] 3 (0, 0))) (hP : PortsAt n0 W b0 ps) (h0 : J [] W) :
  CallsIn Fence.wide n Tryz.prog 75 #[.func (.yield l) #[] #[], .pointer (some ⟨Bb, 0, none⟩), .pointer (some ⟨Bv, 0, none⟩)] W fun e W' => (∃ v, e = .returned v) ∧
   ((∃ ys, ys.map Fin.val = memb hs ps.length ∧ J ys W') ∨ (∃ pre, (∃ q, memb hs ps.length = pre.map Fin.val ++ q) ∧ Jx pre W')) := by
 refine callsIn_of_wp Tryz.func75 rfl trivial ?_ rfl
 simp only [Tryz.ntmps75, List.size_toArray, List.length_cons, List.length_nil, Nat.reduceAdd, Nat.reduceSub, Array.replicate_succ, Array.replicate_zero, List.push_toArray, List.append_toArray, List.nil_append, List.cons_append]
 have hc := box_cell hBb
 obtain ⟨o, cap, hp0⟩ := hP.len
 gi_wp2
 gi_loopw [10] (fun i wr => ∃ (p : Nat) (xs : List (Fin ps.length)), xs.map Fin.val = memb hs p ∧ p ≤ ps.length ∧ i = .int .i64 p ∧ J xs wr ∧ n0 ≤ wr.heap.size ∧ wr.heap[Bb]? = some (.cells #[.pointer (some ⟨b0, 0, none⟩)] 26 (0, 0)) ∧ wr.heap[Bv]? = some (.cells #[.int .i64 vlan] 3 (0, 0)) ∧ PortsAt n0 wr b0 ps) (fun i _ => ps.length - (intOf i).toNat)
 case atStart => exact ⟨0, [], rfl, Nat.zero_le _, rfl, h0, hn0, hBb, hBv, hP⟩
 case round =>
  obtain ⟨p, xs, hxs, hk, rfl, hJs, hnr, hb1, hb2, hPr⟩ := hrel
  have hcx : wr.cell? ⟨Bb, 0, none⟩ = some (.pointer (some ⟨b0, 0, none⟩)) := box_cell hb1
  have hcv : wr.cell? ⟨Bv, 0, none⟩ = some (.int .i64 vlan) := box_cell hb2
  by_cases hlt : p < ps.length
  ·have hlen' : xs.length < ps.length := by
    have := congrArg List.length hxs
    rw [List.length_map] at this
    have := memb_len hs p
    omega
   have h1n : 1 ≤ n := hn
   obtain ⟨m, hm⟩ : ∃ m, ps[p]? = some m := ⟨_, List.getElem?_eq_getElem hlt⟩
   have hraw := has_raw k n0 b0 p ps m vlan (hs p) hm (hhs p m hm).1 (hhs p m hm).2 wr hnr hPr
   cases hsp : hs p with
   | false =>
    rw [hsp] at hraw
    gi_wp2_with (refine ⟨trivial, ?_⟩; gi_at_call 24; refine (callsIn_wide.2 hraw).mono ?_; rintro e w' ⟨rfl, hb⟩)
    refine And.intro (fun f e => trivial) ?_
    gi_wp2
    go_roundw
    case rel => exact ⟨p + 1, xs, by unfold memb; rw [if_neg (by simp [hsp])]; exact hxs, by omega, by simp, hJ _ _ _ none hJs (grown_of_below hb) (by simp), Nat.le_trans hnr hb.size, (hb.block _ (Array.getElem?_eq_some_iff.1 hb1).1).trans hb1, (hb.block _ (Array.getElem?_eq_some_iff.1 hb2).1).trans hb2, hPr.below (hb.mono hnr)⟩
    case measure => simp [intOf]; omega
   | true =>
    rw [hsp] at hraw
    gi_wp2_with (refine ⟨trivial, ?_⟩; gi_at_call 24; refine (callsIn_wide.2 hraw).mono ?_; rintro e w' ⟨rfl, hb⟩; have hJ' := hJ _ _ _ none hJs (grown_of_below hb) (by simp); obtain ⟨fn, tmps, assign, body, hy, hR⟩ := hY _ ⟨p, hlt⟩ w' hJ' hlen')
    refine hR.mono ?_
    have hP' := hPr.below (hb.mono hnr)
    have hb1' := (hb.block Bb (Array.getElem?_eq_some_iff.1 hb1).1).trans hb1
    have hb2' := (hb.block Bv (Array.getElem?_eq_some_iff.1 hb2).1).trans hb2
    have hn' : n0 ≤ w'.heap.size := Nat.le_trans hnr hb.size
    rintro e W3 (⟨rfl, hJ3, hk3⟩ | ⟨rfl, hJx3⟩)
    ·gi_wp2
     go_roundw
     case rel => exact ⟨p + 1, xs ++ [⟨p, hlt⟩], by unfold memb; rw [if_pos hsp, List.map_append, hxs]; rfl, by omega, by simp, hJ3, Nat.le_trans hn' hk3.1.size, hk3.2.1.trans hb1', hk3.2.2.trans hb2', hP'.below hk3.1⟩
     case measure => simp [intOf]; omega
    ·gi_wp2
     refine bodyPost_ret (results_none rfl _ _ _) rfl ?_
     exact ⟨⟨_, rfl⟩, .inr ⟨_, by
      obtain ⟨q, hq⟩ := memb_pre hs hsp hlt
      exact ⟨q, by rw [hq, List.map_append, hxs]; rfl⟩, hJx3⟩⟩
  ·obtain rfl : p = ps.length := by omega
   gi_wp2
   go_end0
   exact ⟨⟨_, rfl⟩, .inl ⟨_, hxs, hJs⟩⟩
theorem members_calls (b0 : Nat) (vlan : Int) (w : World) : Calls Tryz.prog 54 #[.pointer (some ⟨b0, 0, none⟩), .int .i64 vlan] w fun e w' =>
  e = .returned (.func (.func 75) #[] #[.pointer (some ⟨w.heap.size, 0, none⟩), .pointer (some ⟨w.heap.size + 1, 0, none⟩)]) ∧ w' = (w.alloc (.cells #[.pointer (some ⟨b0, 0, none⟩)] 26)).alloc (.cells #[.int .i64 vlan] 3) := by
 refine (callsIn_wide (n := 3)).1 ?_
 refine callsIn_of_wp Tryz.func54 rfl trivial ?_ rfl
 simp only [Tryz.ntmps54, List.size_toArray, List.length_cons, List.length_nil, Nat.reduceAdd, Nat.reduceSub, Array.replicate_succ, Array.replicate_zero, List.push_toArray, List.append_toArray, List.nil_append, List.cons_append]
 gi_wp2
 go_ret
 exact ⟨by simp, rfl⟩
theorem members_stops (k n0 Bb Bv b0 : Nat) (ps : List MemT) (vlan : Int) (hs : Nat → Bool) (hhs : HasOk k ps vlan hs) (hlen : ps.length ≤ 140737488351232) (n : Nat) (hn : 1 ≤ n) (w : World)
  (hn0 : n0 ≤ w.heap.size) (hBb : w.heap[Bb]? = some (.cells #[.pointer (some ⟨b0, 0, none⟩)] 26 (0, 0))) (hBv : w.heap[Bv]? = some (.cells #[.int .i64 vlan] 3 (0, 0))) (hP : PortsAt n0 w b0 ps) :
  SeqStopsK Fence.wide n Tryz.prog 75 #[.pointer (some ⟨Bb, 0, none⟩), .pointer (some ⟨Bv, 0, none⟩)] (fun x : Fin ps.length => #[Value.int .i64 ((x.val : Nat) : Int)]) (KpB n0 Bb Bv) (fun ys => ys.map Fin.val = memb hs ps.length) (fun pre => ∃ q, memb hs ps.length = pre.map Fin.val ++ q) ps.length w := fun l J Jx W hW hJ _ hY h0 =>
 members1_in k n0 Bb Bv b0 ps vlan hs hhs hlen l J Jx n hn W hJ hY (Nat.le_trans hn0 hW.size) ((hW.block _ (Array.getElem?_eq_some_iff.1 hBb).1).trans hBb) ((hW.block _ (Array.getElem?_eq_some_iff.1 hBv).1).trans hBv) (hP.below (hW.mono hn0)) h0
end Go.Proofs.YtkihcmcaignmkaaGreat
end
section
namespace Go.Proofs.YtkihcmcaignmkaaGreat
open Go.Aq Go.RowKit Go.Shelf
set_option linter.unusedVariables false
attribute [local go_sem] Oper.semAt_some
theorem keeps_of_below {w w' : World} (h : Below w.heap.size w w') : KeepsOthers w w' := ⟨h.size, fun k o ho _ => (h.block k (Array.getElem?_eq_some_iff.1 ho).1).trans ho⟩
theorem al_new {w : World} {o : Obj} {k : Nat} (hk : k = w.heap.size) : (w.alloc o).heap[k]? = some o := by subst hk; exact World.alloc_heap_new w o
theorem al_old {w : World} {o r : Obj} {k : Nat} (h : w.heap[k]? = some r) : (w.alloc o).heap[k]? = some r := (Below.heap_alloc w o k (Array.getElem?_eq_some_iff.1 h).1).trans h
theorem PortsAt.mono {n0 n1 : Nat} {w : World} {b0 : Nat} {ps : List MemT} (h : PortsAt n0 w b0 ps) (hn : n0 ≤ n1) : PortsAt n1 w b0 ps := by
 obtain ⟨vp, rest, h0, h1⟩ := h.ex
 refine ⟨Nat.lt_of_lt_of_le h.lt hn, vp, rest, h0, ?_⟩
 rcases h1 with h1 | ⟨a, cap, e1, e2, e3, e4, h1⟩
 ·exact .inl h1
 ·refine .inr ⟨a, cap, e1, e2, e3, by omega, fun p m hm => ?_⟩
  obtain ⟨c1, v, c2, c3, c4⟩ := h1 p m hm
  exact ⟨c1, v, c2, c3, fun b hb => by have := c4 b hb; omega⟩
theorem results_bool {fn : Func} {p : Tmp} (h : fn.results = #[.cell p 4]) (tmps : Array Value) (w : World) (g : Nat) (b : Bool) (hp : tmps.getD p undef = .pointer (some ⟨g, 0, none⟩)) (hg : w.cell? ⟨g, 0, none⟩ = some (.bool b)) : (results fn tmps).run Tryz.prog w = .ok (.bool b) w := by
 have hp' : tmps[p]?.getD undef = .pointer (some ⟨g, 0, none⟩) := by simpa using hp
 have hu : Tryz.prog.underlying 4 = some .bool := by kernel_rfl
 simp [results, h, hp', asAddr, loadVar, go_sem, hu, hg]
set_option maxRecDepth 100000 in
set_option maxHeartbeats 4000000 in
theorem fits_raw (k b0 : Nat) (ps : List MemT) (vlan : Int) (s : ByteArray) (hs : Nat → Bool) (lv : Nat → ByteArray × Int) (w : World) (hP : PortsAt w.heap.size w b0 ps) (hhs : HasOk k ps vlan hs) (hlen : ps.length ≤ 140737488351232)
  (hL : ∀ p, p < ps.length → ∀ W, Below w.heap.size w W → Calls Tryz.prog 27 #[.pointer (some ⟨b0, 0, none⟩), .int .i64 (p : Nat), .int .i64 vlan, .string s] W fun e w' => e = .returned (.tuple #[.string (lv p).1, .int .i64 (lv p).2]) ∧ Below W.heap.size W w') :
  Calls Tryz.prog 23 #[.pointer (some ⟨b0, 0, none⟩), .int .i64 vlan, .string s] w fun e w' => e = .returned (.bool ((memb hs ps.length).all fun p => decide ((lv p).2 = 0))) ∧ Below w.heap.size w w' := by
 refine (callsIn_wide (n := 6)).1 ?_
 refine callsIn_of_wp_marks Tryz.func23 rfl trivial ?_ rfl
 simp only [Tryz.ntmps23, List.size_toArray, List.length_cons, List.length_nil, Nat.reduceAdd, Nat.reduceSub, Array.replicate_succ, Array.replicate_zero, List.push_toArray, List.append_toArray, List.nil_append, List.cons_append]
 gi_wp2_with (refine ⟨trivial, ?_⟩; gi_at_call 54; refine (callsIn_wide.2 (members_calls b0 vlan _)).mono ?_; rintro e w' ⟨rfl, rfl⟩)
 obtain ⟨W0, hW0⟩ : ∃ W0, ((((((w.alloc (Obj.cells #[Value.pointer (some ⟨b0, 0, none⟩)] 26)).alloc (Obj.cells #[Value.int .i64 vlan] 3)).alloc (Obj.cells #[Value.string s] 9)).alloc (Obj.cells #[Value.bool false] 4)).alloc (Obj.cells #[Value.pointer (some ⟨b0, 0, none⟩)] 26)).alloc (Obj.cells #[Value.int .i64 vlan] 3)) = W0 := ⟨_, rfl⟩
 have hsz : W0.heap.size = w.heap.size + 6 := by rw [← hW0]; simp
 have f0 : W0.heap[w.heap.size]? = some (.cells #[.pointer (some ⟨b0, 0, none⟩)] 26 (0, 0)) := by rw [← hW0]; exact al_old (al_old (al_old (al_old (al_old (al_new (by simp))))))
 have f1 : W0.heap[w.heap.size + 1]? = some (.cells #[.int .i64 vlan] 3 (0, 0)) := by rw [← hW0]; exact al_old (al_old (al_old (al_old (al_new (by simp)))))
 have f2 : W0.heap[w.heap.size + 2]? = some (.cells #[.string s] 9 (0, 0)) := by rw [← hW0]; exact al_old (al_old (al_old (al_new (by simp))))
 have f3 : W0.heap[w.heap.size + 3]? = some (.cells #[.bool false] 4 (0, 0)) := by rw [← hW0]; exact al_old (al_old (al_new (by simp)))
 have f4 : W0.heap[w.heap.size + 4]? = some (.cells #[.pointer (some ⟨b0, 0, none⟩)] 26 (0, 0)) := by rw [← hW0]; exact al_old (al_new (by simp))
 have f5 : W0.heap[w.heap.size + 5]? = some (.cells #[.int .i64 vlan] 3 (0, 0)) := by rw [← hW0]; exact al_new (by simp)
 have hB0 : Below w.heap.size w W0 := by rw [← hW0]; exact ((((((Below.refl _ w).alloc (Nat.le_refl _) _).alloc (by simp) _).alloc (by simp; omega) _).alloc (by simp; omega) _).alloc (by simp; omega) _).alloc (by simp; omega) _
 have hP0 : PortsAt (w.heap.size + 6) W0 b0 ps := (hP.below hB0).mono (by omega)
 rw [hW0]
 simp only [Nat.add_assoc, Nat.reduceAdd]
 refine wpIn_rangeFunc_ownF rfl (by omega) (gf := 75) (lb := #[.pointer (some ⟨w.heap.size + 4, 0, none⟩), .pointer (some ⟨w.heap.size + 5, 0, none⟩)]) rfl trivial (enters_of Tryz.func75 (by kernel_rfl) rfl)
  (members_stops k w.heap.size (w.heap.size + 4) (w.heap.size + 5) b0 ps vlan hs hhs hlen _ (by omega) W0 (by omega) f4 f5 (hP.below hB0)) (fun h k => h.trans k) (fun W l o o' hl h hc hw => KpB.put (w := W0) (by omega) (by omega) (by omega) W l o o' hl h hc hw) (Below.refl _ _) (fun _ => rfl)
  (fun pre W => ((W.cell? ⟨w.heap.size, 0, none⟩ = some (.pointer (some ⟨b0, 0, none⟩)) ∧ W.cell? ⟨w.heap.size + 1, 0, none⟩ = some (.int .i64 vlan) ∧ W.cell? ⟨w.heap.size + 2, 0, none⟩ = some (.string s) ∧ W.cell? ⟨w.heap.size + 3, 0, none⟩ = some (.bool false) ∧ W.frozen? ⟨w.heap.size + 3, 0, none⟩ = false) ∧ w.heap.size + 6 ≤ W.heap.size ∧ ∀ x ∈ pre, (lv x.val).2 = 0) ∧ Below w.heap.size w W)
  (fun c pre W => (c = .ret ∧ W.cell? ⟨w.heap.size + 3, 0, none⟩ = some (.bool false) ∧ w.heap.size + 6 ≤ W.heap.size ∧ ∃ x ∈ pre, (lv x.val).2 ≠ 0) ∧ Below w.heap.size w W)
  (OwnFrom.and (fun s A B row hs hg hr => ⟨⟨cell_kept hs.1.1 hg (fun r e => (hr r e).2), cell_kept hs.1.2.1 hg (fun r e => (hr r e).2), cell_kept hs.1.2.2.1 hg (fun r e => (hr r e).2), cell_kept hs.1.2.2.2.1 hg (fun r e => (hr r e).2), (frozen_kept hs.1.2.2.2.1 hg (fun r e => (hr r e).2)).trans hs.1.2.2.2.2⟩, Nat.le_trans hs.2.1 hg.size, hs.2.2⟩) (ownFrom_below (Nat.le_refl _) (by omega)))
  (fun c => OwnFrom.and (fun s A B row hs hg hr => ⟨hs.1, cell_kept hs.2.1 hg (fun r e => (hr r e).2), Nat.le_trans hs.2.2.1 hg.size, hs.2.2.2⟩) (ownFrom_below (Nat.le_refl _) (by omega)))
  ⟨⟨⟨box_cell f0, box_cell f1, box_cell f2, box_cell f3, by simp [World.frozen?, f3]⟩, by omega, fun x hx => by cases hx⟩, hB0⟩
  (fun x => { tmps := #[.pointer (some ⟨b0, 0, none⟩), .int .i64 vlan, .string s, .pointer (some ⟨w.heap.size, 0, none⟩), .pointer (some ⟨w.heap.size + 1, 0, none⟩), .pointer (some ⟨w.heap.size + 2, 0, none⟩), .pointer (some ⟨w.heap.size + 3, 0, none⟩), .int .i64 (x.val : Nat), undef, undef, .pointer (some ⟨b0, 0, none⟩), .int .i64 vlan, .func (.func 75) #[] #[.pointer (some ⟨w.heap.size + 4, 0, none⟩), .pointer (some ⟨w.heap.size + 5, 0, none⟩)], .int .i64 (x.val : Nat), undef, undef, undef, undef, undef, undef, undef, undef, undef, undef], defers := [] }) ?assign ?body ?done ?stop
 case assign =>
  intro l x W K hK
  gi_wp2
  exact hK
 case body =>
  rintro l pre x W ⟨⟨⟨hc0, hc1, hc2, hc3, hf3⟩, hs6, hpre⟩, hB⟩ _
  have hd : 1 ≤ 6 - 1 - 1 := by omega
  have hcall := hL x.val x.isLt W hB
  have hlw : w.heap.size + 3 < W.heap.size := by omega
  by_cases he : (lv x.val).2 = 0
  ·gi_wp2_with (refine ⟨trivial, ?_⟩; gi_at_call 27; refine (CallsIn.inRound l (callsIn_wide.2 hcall)).mono ?_; rintro e w' ⟨rfl, hb⟩)
   refine ⟨keeps_of_below hb, ⟨hb.mono (by omega), hb.block _ (by show w.heap.size + 4 < _; omega), hb.block _ (by show w.heap.size + 5 < _; omega)⟩, ⟨⟨(hb.cell (p := ⟨w.heap.size, 0, none⟩) (by show w.heap.size < _; omega)).trans hc0, (hb.cell (p := ⟨w.heap.size + 1, 0, none⟩) (by show w.heap.size + 1 < _; omega)).trans hc1, (hb.cell (p := ⟨w.heap.size + 2, 0, none⟩) (by show w.heap.size + 2 < _; omega)).trans hc2, (hb.cell (p := ⟨w.heap.size + 3, 0, none⟩) hlw).trans hc3, (hb.frozen (p := ⟨w.heap.size + 3, 0, none⟩) hlw).trans hf3⟩, Nat.le_trans hs6 hb.size, fun y hy => ?_⟩, hB.trans (hb.mono (by omega))⟩
   rcases List.mem_append.1 hy with h | h
   ·exact hpre y h
   ·rw [List.mem_singleton.1 h]; exact he
  ·gi_wp2_with (refine ⟨trivial, ?_⟩; gi_at_call 27; refine (CallsIn.inRound l (callsIn_wide.2 hcall)).mono ?_; rintro e w' ⟨rfl, hb⟩; have hc3' := (hb.cell (p := ⟨w.heap.size + 3, 0, none⟩) hlw).trans hc3; have hf3' := (hb.frozen (p := ⟨w.heap.size + 3, 0, none⟩) hlw).trans hf3)
   refine ⟨(keeps_of_below hb).trans (KeepsOthers.setCell _ _ _), ⟨rfl, World.cell?_setCell_same' _ _ _ (by rw [hc3']; rfl), Nat.le_trans (Nat.le_trans hs6 hb.size) (KeepsOthers.setCell _ _ _).size, x, by simp, he⟩, (hB.trans (hb.mono (by omega))).setCell (p := ⟨w.heap.size + 3, 0, none⟩) (by simp) _⟩
 case done =>
  rintro D ys W hD hys ⟨⟨⟨hc0, hc1, hc2, hc3, hf3⟩, hs6, hpre⟩, hB⟩ hK
  gi_wp2
  have hall : ((memb hs ps.length).all fun p => decide ((lv p).2 = 0)) = true := by
   rw [← hys, List.all_map, List.all_eq_true]
   intro x hx
   simpa using hpre x hx
  have hK' : (W.setCell ⟨w.heap.size + 3, 0, none⟩ (.bool true)).heap[D]? = some (.deferred (some [])) := (Below.heap_setCell _ _ _ _ (by show D ≠ w.heap.size + 3; omega)).trans hK
  refine ⟨by simp, .inl ⟨_, _, rfl, run_takeDeferred hK', ?_⟩⟩
  refine ⟨_, results_bool rfl _ _ (w.heap.size + 3) true rfl ?_, by rw [hall], (hB.setCell (p := ⟨w.heap.size + 3, 0, none⟩) (by simp) _).trans (belowK_b (w := w) (Nat.le_refl _) _ D _ _ (by omega) hK' rfl rfl)⟩
  exact (World.cell?_of_block (World.putObj_heap_other (by show w.heap.size + 3 ≠ D; omega))).trans (World.cell?_setCell_same' _ _ _ (by rw [hc3]; rfl))
 case stop =>
  rintro D c pre W hD ⟨q, hq⟩ ⟨⟨rfl, hc3, hs6, x, hx, hne⟩, hB⟩ hK
  gi_wp2
  have hall : ((memb hs ps.length).all fun p => decide ((lv p).2 = 0)) = false := by
   refine Bool.eq_false_iff.2 fun h => ?_
   rw [List.all_eq_true] at h
   have := h x.val (by rw [hq]; exact List.mem_append_left _ (List.mem_map.2 ⟨x, hx, rfl⟩))
   exact hne (by simpa using this)
  refine ⟨by simp, .inl ⟨_, _, rfl, run_takeDeferred hK, ?_⟩⟩
  refine ⟨_, results_bool rfl _ _ (w.heap.size + 3) false rfl ?_, by rw [hall], hB.trans (belowK_b (w := w) (Nat.le_refl _) _ D _ _ (by omega) hK rfl rfl)⟩
  exact (World.cell?_of_block (World.putObj_heap_other (by show w.heap.size + 3 ≠ D; omega))).trans hc3
end Go.Proofs.YtkihcmcaignmkaaGreat
end
section
namespace Go.Proofs.YtkihcmcaignmkaaGreat
open Go.Aq Go.RowKit
set_option linter.unusedVariables false
abbrev G0 := (List (Int × List Int)) × (List (List ByteArray × Int × Int)) × (Int × Int × Int × Int × Int × Int)
abbrev G1 := Int × Int × List ((Int × ByteArray) × (Int × ByteArray × Int × Int))
noncomputable abbrev obB : Obs := F_bridge_Bridge_leaves.ct.ob
theorem repO_below {w W : World} {α : Nat → Value} {Z : Nat → Prop} (hZ : ∀ b, Z b → W.heap[b]? = w.heap[b]?) : ∀ (os : Obs) (i : Nat) (x : ObT os) (F : List Nat), (∀ b ∈ F, W.heap[b]? = w.heap[b]?) → repO w α Z i os x F → repO W α Z i os x F
 | [], i, x, F, hF, h => h
 | [o], i, x, F, hF, h => by
  obtain ⟨b, cs, F', h1, h2, h3, rfl⟩ := h
  exact ⟨b, cs, F', h1, (hF b (by simp)).trans h2, repF_congr hZ (fun b hb => hb) o.2 x cs F' (fun b hb => hF b (by simp [hb])) h3, rfl⟩
 | o :: p :: os, i, x, F, hF, h => by
  obtain ⟨F1, F2, rfl, ⟨b, cs, F', h1, h2, h3, rfl⟩, h5⟩ := h
  exact ⟨_, F2, rfl, ⟨b, cs, F', h1, (hF b (by simp)).trans h2, repF_congr hZ (fun b hb => hb) o.2 x.1 cs F' (fun b hb => hF b (by simp [hb])) h3, rfl⟩, repO_below hZ (p :: os) (Nat.succ i) x.2 F2 (fun b hb => hF b (by simp [hb])) h5⟩
theorem repO_blk {w : World} {α : Nat → Value} {Z : Nat → Prop} : ∀ (os : Obs) (i : Nat) (x : ObT os) (F : List Nat), repO w α Z i os x F → ∀ b ∈ F, b < w.heap.size
 | [], i, x, F, h, b, hb => by
  have h : F = [] := h
  rw [h] at hb; cases hb
 | [o], i, x, F, h, b, hb => by
  obtain ⟨c, cs, F', h1, h2, h3, rfl⟩ := h
  rcases List.mem_cons.1 hb with rfl | hb
  ·exact (Array.getElem?_eq_some_iff.1 h2).1
  ·exact repF_lt o.2 x cs F' h3 b hb
 | o :: p :: os, i, x, F, h, b, hb => by
  obtain ⟨F1, F2, rfl, ⟨c, cs, F', h1, h2, h3, rfl⟩, h5⟩ := h
  rcases List.mem_append.1 hb with hb | hb
  ·rcases List.mem_cons.1 hb with rfl | hb
   ·exact (Array.getElem?_eq_some_iff.1 h2).1
   ·exact repF_lt o.2 x.1 cs F' h3 b hb
  ·exact repO_blk (p :: os) (Nat.succ i) x.2 F2 h5 b hb
theorem portsAt_of {w : World} {α : Nat → Value} {Z : Nat → Prop} {g0 : G0} {g1 : G1} {F0 : List Nat} (hZ : ∀ b, Z b → b < w.heap.size) (hO : repO w α Z 0 obB ((g0, g1) : G0 × G1) F0) : ∃ b0, α 0 = .pointer (some ⟨b0, 0, none⟩) ∧ PortsAt w.heap.size w b0 g0.1 := by
 obtain ⟨F1, F2, rfl, ⟨b, cs, F', ha, h2, h3, rfl⟩, h5⟩ := hO
 obtain ⟨vs1, vs2, Fa, Fb, rfl, rfl, h6, h7⟩ := h3
 obtain ⟨v, us, Fc, Fd, rfl, rfl, h8, hcol, helt⟩ := h6
 refine ⟨b, ha, (Array.getElem?_eq_some_iff.1 h2).1, v, vs2, h2, ?_⟩
 rcases hcol with ⟨rfl, h9, _, _⟩ | ⟨a, cap, rfl, h10, h11, _⟩
 ·have h9 : g0.1.length = 0 := h9
  exact .inl ⟨List.length_eq_zero_iff.1 h9, none, 0, rfl⟩
 ·obtain ⟨_, hcell, hne⟩ := h11 rfl
  by_cases he : g0.1 = []
  ·exact .inl ⟨he, some a, cap, by show Value.slice _ g0.1.length _ = _; rw [he]; rfl⟩
  ·have hl : g0.1.length ≠ 0 := fun e => he (List.length_eq_zero_iff.1 e)
   obtain ⟨hs, hav⟩ := hne hl
   refine .inr ⟨a, cap, rfl, h10, hs, hZ _ hav, fun p m hm => ?_⟩
   obtain ⟨hp, hm'⟩ := List.getElem?_eq_some_iff.1 hm
   obtain ⟨va, v, vb, F3, F4, F5, e1, e2, e3, e4, _, hr, _⟩ := helt.at (i := p) ((0, []) : Int × List Int) hp
   have hgd : List.getD g0.1 p ((0, []) : Int × List Int) = m := by rw [List.getD_eq_getElem?_getD, hm]; rfl
   have hr : repF w α Z fM m v F4 := hgd ▸ hr
   obtain ⟨v1, v2, F6, F7, rfl, rfl, ⟨rfl, rfl⟩, ⟨us', hv2, ⟨rv, rfl, _, hrow, _, hseen⟩⟩⟩ := hr
   have hv2 : v2 = [rv] := by simpa using hv2
   subst hv2
   have e3 : va.length = p * 2 := e3
   refine ⟨hcell (2 * p) _ ?_, rv, hcell (2 * p + 1) _ ?_, hrow, fun b hb => hZ _ (hseen b hb)⟩
   ·rw [e1, List.getElem?_append_right (by omega), show 2 * p - va.length = 0 by omega]; rfl
   ·rw [e1, List.getElem?_append_right (by omega), show 2 * p + 1 - va.length = 1 by omega]; rfl
theorem leaves_calls (k : Nat) (p vlan : Int) (s : ByteArray) {w : World} {α : Nat → Value} {Z : Nat → Prop} {g0 : G0} {g1 : G1} {F0 : List Nat} (hZ : ∀ b, Z b → b < w.heap.size ∧ b ∉ F0) (hO : repO w α Z 0 obB ((g0, g1) : G0 × G1) F0) (hnd : F0.Nodup) {r : ByteArray × Int} (hS : F_bridge_Bridge_leaves.S k p vlan s g0 g1 = .ok r) (W : World) (hB : Below w.heap.size w W) :
  Calls Tryz.prog 27 #[α 0, .int .i64 p, .int .i64 vlan, .string s] W fun e w' => e = .returned (.tuple #[.string r.1, .int .i64 r.2]) ∧ Below W.heap.size W w' := by
 have hO' := repO_below (W := W) (fun b hb => hB.block b (hZ b hb).1) obB 0 ((g0, g1) : G0 × G1) F0 (fun b hb => hB.block b (repO_blk obB 0 _ F0 hO b hb)) hO
 have h := F_bridge_Bridge_leaves.ok k (p, vlan, s) (g0, g1) (by show F_bridge_Bridge_leaves.S k p vlan s g0 g1 ≠ .no; rw [hS]; intro h; cases h) W [α 0, .int .i64 p, .int .i64 vlan, .string s] α F0 Z (fun b hb => ⟨Nat.lt_of_lt_of_le (hZ b hb).1 hB.size, (hZ b hb).2⟩) hO' hnd
  ⟨_, rfl, _, _, [], [], rfl, rfl, ⟨[.int .i64 p], ⟨rfl, rfl⟩, rfl⟩, _, _, [], [], rfl, rfl, ⟨[.int .i64 vlan], ⟨rfl, rfl⟩, rfl⟩, _, rfl, [.string s], ⟨rfl, rfl⟩, rfl⟩
 refine h.mono ?_
 rintro e w' ⟨z, hz, hK, α', h2⟩
 have hz : F_bridge_Bridge_leaves.S k p vlan s g0 g1 = .ok z := hz
 rw [hS] at hz
 obtain rfl := O.ok.inj hz
 cases e with
 | returned v' =>
  obtain ⟨vs, rfl, hv⟩ := h2
  obtain ⟨v1, vs', F1, F2, rfl, hF, ⟨cs, ⟨rfl, _⟩, e1⟩, v2, hvs, ⟨cs2, ⟨rfl, _⟩, e2⟩⟩ := hv
  have e1 : [den ν0 (Lf.str.enc r.1)] = [v1] := e1
  have e2 : [den ν0 ((Lf.int .i64).enc r.2)] = [v2] := e2
  simp only [List.cons.injEq, and_true] at e1 e2
  have hvs : vs' = [v2] := by simpa using hvs
  subst hvs
  exact ⟨by rw [← e1, ← e2]; rfl, hK.os, hK.tape, hK.output, hK.size, fun b hb => hK.heap b hb (by simp)⟩
 | panicked ch => exact h2.elim
 | outgrown => exact h2.elim
noncomputable def hsOf (k : Nat) (vlan : Int) (ps : List MemT) (p : Nat) : Bool := match ps[p]? with
 | some m => if m.1 = vlan then true else match F_slices_Contains_int_int.S k m.2 vlan with
  | .ok c => c
  | _ => false
 | none => false
def AllHas (k : Nat) (vlan : Int) (ps : List MemT) : Prop := ∀ m ∈ ps, m.1 ≠ vlan → ∃ c, F_slices_Contains_int_int.S k m.2 vlan = .ok c
theorem hasOk_of {k : Nat} {vlan : Int} {ps : List MemT} (h : AllHas k vlan ps) : HasOk k ps vlan (hsOf k vlan ps) := by
 intro p m hm
 constructor
 ·intro hne
  obtain ⟨c, hc⟩ := h m (List.mem_of_getElem? hm) hne
  unfold hsOf
  rw [hm]
  simp only [if_neg hne, hc]
 ·intro he
  unfold hsOf
  rw [hm]
  simp only [if_pos he]
noncomputable def lvOf (k : Nat) (vlan : Int) (s : ByteArray) (g0 : G0) (g1 : G1) (p : Nat) : ByteArray × Int := match F_bridge_Bridge_leaves.S k p vlan s g0 g1 with
 | .ok r => r
 | _ => (ByteArray.empty, 0)
namespace F_bridge_Bridge_fits
noncomputable def ct : Ct := ⟨.some (.pin (.ref 0) (.cons (.leaf (.int .i64)) (.one (.leaf .str) []))), obB, [⟨.val (.leaf .bool), [], []⟩]⟩
def Ok (k : Nat) (vlan : Int) (s : ByteArray) (g0 : G0) (g1 : G1) : Prop := g0.1.length ≤ 140737488351232 ∧ AllHas k vlan g0.1 ∧ ∀ p : Nat, p < g0.1.length → ∃ r, F_bridge_Bridge_leaves.S k p vlan s g0 g1 = .ok r
noncomputable def S (k : Nat) (vlan : Int) (s : ByteArray) (g0 : G0) (g1 : G1) : O Bool :=
 @ite _ (Ok k vlan s g0 g1) (Classical.propDecidable _) (.ok ((memb (hsOf k vlan g0.1) g0.1.length).all fun p => decide ((lvOf k vlan s g0 g1 p).2 = 0))) .no
theorem S_ok {k : Nat} {vlan : Int} {s : ByteArray} {g0 : G0} {g1 : G1} (h : Ok k vlan s g0 g1) : S k vlan s g0 g1 = .ok ((memb (hsOf k vlan g0.1) g0.1.length).all fun p => decide ((lvOf k vlan s g0 g1 p).2 = 0)) := by unfold S; rw [if_pos h]
theorem S_no {k : Nat} {vlan : Int} {s : ByteArray} {g0 : G0} {g1 : G1} (h : ¬ Ok k vlan s g0 g1) : S k vlan s g0 g1 = .no := by unfold S; rw [if_neg h]
theorem core (k : Nat) (vlan : Int) (s : ByteArray) (g0 : G0) (g1 : G1) (hne : S k vlan s g0 g1 ≠ .no) (w : World) (vs : List Value) (α : Nat → Value) (F0 : List Nat) (Z : Nat → Prop) (hZ : ∀ b, Z b → b < w.heap.size ∧ b ∉ F0) (hO : repO w α Z 0 obB ((g0, g1) : G0 × G1) F0) (hnd : F0.Nodup) (hA : repAs w α Z ct.as ((vlan, s) : Int × ByteArray) vs) :
  Calls Tryz.prog 23 vs.toArray w (FnPostR w ct α (S k vlan s g0 g1)) := by
 have hok : Ok k vlan s g0 g1 := Classical.byContradiction fun h => hne (S_no h)
 have hS := S_ok hok
 obtain ⟨hlen, hall, hlv⟩ := hok
 obtain ⟨b0, ha, hP⟩ := portsAt_of (fun b hb => (hZ b hb).1) hO
 obtain ⟨us, rfl, v1, vs', F1, F2, rfl, hF, ⟨cs, ⟨rfl, _⟩, e1⟩, v2, hvs, ⟨cs2, ⟨rfl, _⟩, e2⟩⟩ := hA
 have e1 : [den ν0 ((Lf.int .i64).enc vlan)] = [v1] := e1
 have e2 : [den ν0 (Lf.str.enc s)] = [v2] := e2
 simp only [List.cons.injEq, and_true] at e1 e2
 have hvs : vs' = [v2] := by simpa using hvs
 subst hvs e1 e2
 have hraw := fits_raw k b0 g0.1 vlan s (hsOf k vlan g0.1) (lvOf k vlan s g0 g1) w hP (hasOk_of hall) hlen (fun p hp W hB => by
  obtain ⟨r, hr⟩ := hlv p hp
  have := leaves_calls k p vlan s hZ hO hnd hr W hB
  rw [ha] at this
  have hl : lvOf k vlan s g0 g1 p = r := by unfold lvOf; rw [hr]
  rw [hl]
  exact this)
 rw [← ha] at hraw
 refine Calls.mono (show Calls Tryz.prog 23 (pinD α (.ref 0) :: [den ν0 ((Lf.int .i64).enc vlan), den ν0 (Lf.str.enc s)]).toArray w (fun e w' => e = .returned (.bool ((memb (hsOf k vlan g0.1) g0.1.length).all fun p => decide ((lvOf k vlan s g0 g1 p).2 = 0))) ∧ Below w.heap.size w w') from hraw) ?_
 rintro e w' ⟨rfl, hB⟩
 exact ⟨_, hS, ⟨hB.os, hB.tape, hB.output, hB.size, fun b hb _ => hB.block b hb⟩, α, [_], ⟨rfl, rfl⟩, rfl⟩
theorem ok (k : Nat) : FnOkR Tryz.prog 23 ct (fun (x : Int × ByteArray) (g : G0 × G1) => S k x.1 x.2 g.1 g.2) :=
 fun x g hne w vs α F0 Z hZ hO hnd hA => core k x.1 x.2 g.1 g.2 hne w vs α F0 Z hZ hO hnd hA
theorem hd {T : Type} (k : Nat) : HdOk Tryz.prog 23 (pureR (T := T) ct [.arg 0 0, .fld 0 1] (fun (x : Int × ByteArray) (g : G0 × G1) => S k x.1 x.2 g.1 g.2)) :=
 pureR_ok rfl [.arg 0 0, .fld 0 1] (ok k) Tryz.call23
end F_bridge_Bridge_fits
end Go.Proofs.YtkihcmcaignmkaaGreat
end
section
namespace Go.Proofs.YtkihcmcaignmkaaGreat
open Go.Aq Go.RowKit
set_option linter.unusedVariables false
abbrev EsT := List ((Int × ByteArray) × (Int × ByteArray × Int × Int))
abbrev seenD : Int × ByteArray × Int × Int := (0, ByteArray.empty, 0, 0)
set_option maxRecDepth 100000 in
theorem find_raw (bt bm : Nat) (es : EsT) (vlan : Int) (dst : ByteArray) (w : World) (c2 : w.cell? ⟨bt, 2, none⟩ = some (.map (some bm))) (hm : MapSat w bm true true [.int .i64, .str] [.int .i64, .str, .int .i64, .int .i64] es) :
  Calls Tryz.prog 56 #[.pointer (some ⟨bt, 0, none⟩), .int .i64 vlan, .string dst] w fun e w' => e = .returned (.tuple #[.int .i64 (mget seenD es (vlan, dst)).2.2.1, .bool (mhas es (vlan, dst))]) ∧ Below w.heap.size w w' := by
 have hlk : (Instr.lookup 122 (.map (some bm)) (.agg #[.int .i64 vlan, .string dst]) true).run Tryz.prog w = .ok (.tuple #[.agg #[.int .i64 (mget seenD es (vlan, dst)).1, .string (mget seenD es (vlan, dst)).2.1, .int .i64 (mget seenD es (vlan, dst)).2.2.1, .int .i64 (mget seenD es (vlan, dst)).2.2.2], .bool (mhas es (vlan, dst))]) w :=
  lookup_run (t := 122) (ka := true) (va := true) (kl := [.int .i64, .str]) (vl := [.int .i64, .str, .int .i64, .int .i64]) tab_ok (by kernel_rfl) hm (vlan, dst) true
 clear hm
 go_enter Tryz.func56, Tryz.ntmps56
 go_wp2
 refine bodyPost_ret (results_tmp2 rfl _ _ _) rfl ?_
 exact ⟨rfl, (Below.refl _ w).alloc (Nat.le_refl _) _⟩
theorem kind_calls (k : Nat) (s : ByteArray) (c : Int) (hS : F_addr_Kind.S k s = .ok c) (w : World) : Calls Tryz.prog 22 #[.string s] w fun e w' => e = .returned (.int .i64 c) ∧ Below w.heap.size w w' := by
 have h := F_addr_Kind.ok k s () (by show F_addr_Kind.S k s ≠ .no; rw [hS]; intro h; cases h) w [.string s] (fun _ => undef) [] (fun b => b < w.heap.size ∧ b ∉ ([] : List Nat)) (fun b hb => hb) rfl List.nodup_nil
  ⟨_, rfl, [.string s], ⟨rfl, rfl⟩, rfl⟩
 refine h.mono ?_
 rintro e w' ⟨z, hz, hK, α', F1, F2, Z', _, _, h2, _⟩
 have hz : F_addr_Kind.S k s = .ok z := hz
 rw [hS] at hz
 obtain rfl := O.ok.inj hz
 cases e with
 | returned v' =>
  obtain ⟨cs, ⟨rfl, _⟩, h2⟩ := h2
  have h2 : [den ν0 ((Lf.int .i64).enc c)] = [v'] := h2
  simp only [List.cons.injEq, and_true] at h2
  exact ⟨by rw [← h2]; rfl, hK.os, hK.tape, hK.output, hK.size, fun b hb => hK.heap b hb (by simp)⟩
 | panicked ch => exact h2.elim
 | outgrown => exact h2.elim
end Go.Proofs.YtkihcmcaignmkaaGreat
end
section
namespace Go.Proofs.YtkihcmcaignmkaaGreat
open Go.Aq Go.RowKit Go.Shelf
set_option linter.unusedVariables false
attribute [local go_sem] Oper.semAt_some
structure TabAt (n0 : Nat) (w : World) (b0 bt bm : Nat) (es : EsT) : Prop where
 lt0 : b0 < n0
 ltt : bt < n0
 ltm : bm < n0
 c1 : w.cell? ⟨b0, 1, none⟩ = some (.pointer (some ⟨bt, 0, none⟩))
 c2 : w.cell? ⟨bt, 2, none⟩ = some (.map (some bm))
 hm : MapSat w bm true true [.int .i64, .str] [.int .i64, .str, .int .i64, .int .i64] es
theorem TabAt.below {n0 : Nat} {w W : World} {b0 bt bm : Nat} {es : EsT} (h : TabAt n0 w b0 bt bm es) (hB : Below n0 w W) : TabAt n0 W b0 bt bm es := by
 obtain ⟨ms, clock, hb, r⟩ := h.hm
 exact ⟨h.lt0, h.ltt, h.ltm, (World.cell?_of_block (hB.block b0 h.lt0)).trans h.c1, (World.cell?_of_block (hB.block bt h.ltt)).trans h.c2, ms, clock, (hB.block bm h.ltm).trans hb, r⟩
theorem flat_ints : ∀ xs : List Int, flat [.int .i64] xs = xs.map (fun n => Value.int .i64 n)
 | [] => rfl
 | x :: xs => by
  show cellsV [.int .i64] x ++ flat [.int .i64] xs = _
  rw [flat_ints xs]; rfl
def rowOf (port : Int) {n : Nat} (pre : List (Fin n)) : List Value := ((pre.map Fin.val).filter fun p : Nat => decide ((p : Int) ≠ port)).map fun p : Nat => Value.int .i64 p
theorem rowOf_len (port : Int) {n : Nat} (pre : List (Fin n)) : (rowOf port pre).length ≤ pre.length := by
 unfold rowOf
 rw [List.length_map]
 refine Nat.le_trans (List.length_filter_le _ _) ?_
 rw [List.length_map]
 exact Nat.le_refl _
theorem rowOf_skip (port : Int) {n : Nat} (pre : List (Fin n)) (x : Fin n) (h : (x.val : Int) = port) : rowOf port (pre ++ [x]) = rowOf port pre := by
 unfold rowOf
 simp [h]
theorem rowOf_more (port : Int) {n : Nat} (pre : List (Fin n)) (x : Fin n) (h : (x.val : Int) ≠ port) : rowOf port (pre ++ [x]) = rowOf port pre ++ [Value.int .i64 (x.val : Nat)] := by
 unfold rowOf
 simp [h]
theorem u35 : Tryz.prog.underlying 32 = some (.slice 3) := by kernel_rfl
theorem info3 : (Tryz.prog.info? 3).map (fun i => (i.zero, i.size, i.bytes)) = some (some (.int .i64 0), 1, 8) := by kernel_rfl
set_option maxRecDepth 100000 in
set_option maxHeartbeats 4000000 in
theorem to_flood (k b0 bt bm : Nat) (ps : List MemT) (port vlan : Int) (dst : ByteArray) (hs : Nat → Bool) (es : EsT) (kd : Int) (w : World) (hT : TabAt w.heap.size w b0 bt bm es) (hP : PortsAt w.heap.size w b0 ps) (hhs : HasOk k ps vlan hs) (hlen : ps.length ≤ 1000000)
  (hK : F_addr_Kind.S k dst = .ok kd) (hno : mhas es (vlan, dst) = false ∨ kd ≠ 1) :
  Calls Tryz.prog 26 #[.pointer (some ⟨b0, 0, none⟩), .int .i64 port, .int .i64 vlan, .string dst] w fun e w' => ∃ v, e = .returned v ∧ w'.ownsRow w.heap.size 3 1 v (((memb hs ps.length).filter fun p : Nat => decide ((p : Int) ≠ port)).length) (((memb hs ps.length).filter fun p : Nat => decide ((p : Int) ≠ port)).map fun p : Nat => Value.int .i64 p) ∧ Below w.heap.size w w' := by
 refine (callsIn_wide (n := 6)).1 ?_
 refine callsIn_of_wp_marks Tryz.func26 rfl trivial ?_ rfl
 simp only [Tryz.ntmps26, List.size_toArray, List.length_cons, List.length_nil, Nat.reduceAdd, Nat.reduceSub, Array.replicate_succ, Array.replicate_zero, List.push_toArray, List.append_toArray, List.nil_append, List.cons_append]
 have hB0 : Below w.heap.size w (w.alloc (.cells #[.int .i64 port] 3)) := (Below.refl _ w).alloc (Nat.le_refl _) _
 have hT0 := hT.below hB0
 have hfind := find_raw bt bm es vlan dst _ hT0.c2 hT0.hm
 have hc1 := hT0.c1
 have hb0 : (w.alloc (.cells #[.int .i64 port] 3)).heap[w.heap.size]? = some (.cells #[.int .i64 port] 3 (0, 0)) := al_new rfl
 rcases Bool.eq_false_or_eq_true (mhas es (vlan, dst)) with his | his
 ·have hkd : kd ≠ 1 := by
   rcases hno with h | h
   ·rw [his] at h; cases h
   ·exact h
  rw [his] at hfind
  gi_wp2_with (first
   | (refine ⟨trivial, ?_⟩; gi_at_call 56; refine (callsIn_wide.2 hfind).mono ?_; rintro e w1 ⟨rfl, hB1⟩)
   | (refine ⟨trivial, ?_⟩; gi_at_call 22; refine (callsIn_wide.2 (kind_calls k dst kd hK _)).mono ?_; rintro e w2 ⟨rfl, hB2⟩)
   | (refine ⟨trivial, ?_⟩; gi_at_call 54; refine (callsIn_wide.2 (members_calls b0 vlan _)).mono ?_; rintro e w3 ⟨rfl, rfl⟩))
  have hwx : Below w.heap.size w w2 := hB0.trans ((hB1.mono (by simp)).trans (hB2.mono (by have := hB1.size; simp at this; omega)))
  have hbx : (w2).heap[w.heap.size]? = some (.cells #[.int .i64 port] 3 (0, 0)) := (hB2.block _ (by have := hB1.size; simp at this; omega)).trans ((hB1.block _ (by simp)).trans hb0)
  obtain ⟨L, hL⟩ : ∃ L, (w2).heap.size = L := ⟨_, rfl⟩
  have hLw : w.heap.size < L := by rw [← hL]; exact (Array.getElem?_eq_some_iff.1 hbx).1
  have hbox := Boxed.new w2 32 (.slice none 0 0)
  rw [hL] at hbox
  obtain ⟨W0, hW0⟩ : ∃ W0, (((w2).alloc (Obj.cells #[Value.slice none 0 0] 32)).alloc (Obj.cells #[Value.pointer (some ⟨b0, 0, none⟩)] 26)).alloc (Obj.cells #[Value.int .i64 vlan] 3) = W0 := ⟨_, rfl⟩
  have hsz : W0.heap.size = L + 3 := by rw [← hW0, ← hL]; simp
  have f0 : W0.heap[w.heap.size]? = some (.cells #[.int .i64 port] 3 (0, 0)) := by rw [← hW0]; exact al_old (al_old (al_old hbx))
  have f4 : W0.heap[L + 1]? = some (.cells #[.pointer (some ⟨b0, 0, none⟩)] 26 (0, 0)) := by rw [← hW0, ← hL]; exact al_old (al_new (by simp))
  have f5 : W0.heap[L + 2]? = some (.cells #[.int .i64 vlan] 3 (0, 0)) := by rw [← hW0, ← hL]; exact al_new (by simp)
  have hbox0 : Boxed W0 L 32 (.slice none 0 0) := by rw [← hW0]; exact (hbox.alloc _).alloc _
  have hBW : Below w.heap.size w W0 := by rw [← hW0]; exact ((hwx.alloc (by rw [hL]; omega) _).alloc (by simp [hL]; omega) _).alloc (by simp [hL]; omega) _
  simp only [hL, World.size_alloc, Nat.add_assoc, Nat.reduceAdd]
  rw [hW0]
  clear hbox
  refine wpIn_rangeFunc_ownF rfl (by omega) (gf := 75) (lb := #[.pointer (some ⟨L + 1, 0, none⟩), .pointer (some ⟨L + 2, 0, none⟩)]) rfl trivial (enters_of Tryz.func75 (by kernel_rfl) rfl)
   (members_stops k w.heap.size (L + 1) (L + 2) b0 ps vlan hs hhs (by omega) _ (by omega) W0 (by omega) f4 f5 (hP.below hBW)) (fun h k => h.trans k) (fun W l o o' hl h hc hw => KpB.put (w := W0) (by omega) (by omega) (by omega) W l o o' hl h hc hw) (Below.refl _ _) (fun _ => rfl)
   (fun pre W => ((∃ v, Boxed W L 32 v ∧ W.ownsRow (L + 3) 3 1 v (rowOf port pre).length (rowOf port pre) ∧ True) ∧ W.cell? ⟨w.heap.size, 0, none⟩ = some (.int .i64 port) ∧ L + 3 ≤ W.heap.size) ∧ Below w.heap.size w W)
   (fun _ _ _ => False)
   (OwnFrom.and (OwnFrom.and (Own.from (holdsRow_own (L + 3) L 32 3 1 (fun pre : List (Fin ps.length) => (rowOf port pre).length) (fun pre => rowOf port pre) (fun _ _ => True)) _) (fun s A B row hs hg hr => ⟨cell_kept hs.1 hg (fun r e => (hr r e).2), Nat.le_trans hs.2 hg.size⟩)) (ownFrom_below (Nat.le_refl _) (by omega)))
   (fun _ _ _ _ _ hs _ _ => hs)
   ⟨⟨⟨_, hbox0, World.ownsRow_nil _ _ _ _, trivial⟩, box_cell f0, by omega⟩, hBW⟩
   ?a1 ?assign ?body ?done ?stop
  case assign =>
   intro l x W K hK
   gi_wp2
   exact hK
  case body =>
   rintro l pre x W ⟨⟨⟨v, hv, hrow, _⟩, hcp, hs3⟩, hB⟩ hlt
   have hrl := rowOf_len port pre
   by_cases hx : (x.val : Int) = port
   ·gi_wp2
    exact ⟨KeepsOthers.refl W, ⟨Below.refl _ W, rfl, rfl⟩, ⟨⟨v, hv, by rw [rowOf_skip port pre x hx]; exact hrow, trivial⟩, hcp, hs3⟩, hB⟩
   ·have cv := hv.cell
    obtain ⟨i0, hi, hz0, hz1, hz2⟩ := info_parts info3
    have hmx : Tryz.prog.follows .mixedOrders = true := by kernel_rfl
    gi_wp2_with (gi_at_builtin; go_loud (refine wpListIn_append_own _ rfl _ _ 32 rfl (L + 3) 3 i0 (.int .i64 0) 1 8 u35 hi hz0 hz1 hz2 rfl (by decide) _ _ _ rfl (hrow.alloc _) ⟨W.heap.size, 0, none⟩ 1 1 [.int .i64 (x.val : Nat)] rfl rfl (cell_one_new _ _ _) (by simp [Value.oneCell']) (by unfold maxLen; omega) (by omega) (by simp; omega) ?_; intro v' w1 hown' hgrow _; obtain ⟨g', cap', rfl⟩ := ownsRow_succ hown'; have hap := hv.appended (by decide) (hrow.mono (show L ≤ L + 3 by omega)) (show L ≤ W.heap.size by omega) (Nat.le_refl _) (hown'.mono (show L ≤ L + 3 by omega)) hgrow; obtain ⟨hv1, hv2, _, hk2, hb2⟩ := hap; have hc1 := hv1.cell; have hf1 := hv1.frozen))
    have hnob : ∀ b, b < L + 3 → some b ≠ v.ownBlock := by
     intro b hb
     rcases hrow.2 with ⟨h, _⟩ | ⟨g, cap, cur, h, hb', _⟩
     ·rw [h]; simp [Value.ownBlock]
     ·rw [h]; simp only [Value.ownBlock, ne_eq, Option.some.injEq]; omega
    have hsame : ∀ b, L < b → b < L + 3 → (w1.setCell ⟨L, 0, none⟩ (Value.slice (some ⟨g', 0, none⟩) ((rowOf port pre).length + 1) cap')).heap[b]? = W.heap[b]? := fun b h1 h2 =>
     (Below.heap_setCell _ _ _ b (by show b ≠ L; omega)).trans ((hgrow.block b (by simp; omega) (hnob b h2)).trans (Below.heap_alloc W _ b (by omega)))
    have hr2 := hown'.kept (grownBy_setCell' w1 L (Value.slice (some ⟨g', 0, none⟩) ((rowOf port pre).length + 1) cap')) (.inr (hv1.not_row (by decide) hown').symm)
    exact ⟨hk2, ⟨hb2.mono (by omega), hsame (L + 1) (by omega) (by omega), hsame (L + 2) (by omega) (by omega)⟩, ⟨⟨_, hv2, by rw [rowOf_more port pre x hx, List.length_append]; exact hr2, trivial⟩, (hb2.cell (p := ⟨w.heap.size, 0, none⟩) (by show w.heap.size < L; omega)).trans hcp, Nat.le_trans hs3 hk2.size⟩, hB.trans (hb2.mono (by omega))⟩
  case done =>
   rintro D ys W hD hys ⟨⟨⟨v, hv, hrow, _⟩, hcp, hs3⟩, hB⟩ hK
   have cv := hv.cell
   gi_wp2
   refine ⟨by simp, .inl ⟨_, _, rfl, run_takeDeferred hK, ?_⟩⟩
   have hrow' := hrow
   unfold rowOf at hrow'
   rw [hys, List.length_map] at hrow'
   exact ⟨_, results_tmp rfl _ _ _, v, rfl, (ownsRow_putObj hrow' _ hK rfl).mono (by omega), hB.trans (belowK_b (w := w) (Nat.le_refl _) W D _ _ (by omega) hK rfl rfl)⟩
  case stop =>
   rintro D c pre W _ _ h _
   exact h.elim
 ·rw [his] at hfind
  gi_wp2_with (first
   | (refine ⟨trivial, ?_⟩; gi_at_call 56; refine (callsIn_wide.2 hfind).mono ?_; rintro e w1 ⟨rfl, hB1⟩)
   | fail)
  refine ⟨trivial, ?_⟩
  gi_wp2_with (refine ⟨trivial, ?_⟩; gi_at_call 54; refine (callsIn_wide.2 (members_calls b0 vlan _)).mono ?_; rintro e w3 ⟨rfl, rfl⟩)
  have hwx : Below w.heap.size w w1 := hB0.trans (hB1.mono (by simp))
  have hbx : (w1).heap[w.heap.size]? = some (.cells #[.int .i64 port] 3 (0, 0)) := (hB1.block _ (by simp)).trans hb0
  obtain ⟨L, hL⟩ : ∃ L, (w1).heap.size = L := ⟨_, rfl⟩
  have hLw : w.heap.size < L := by rw [← hL]; exact (Array.getElem?_eq_some_iff.1 hbx).1
  have hbox := Boxed.new w1 32 (.slice none 0 0)
  rw [hL] at hbox
  obtain ⟨W0, hW0⟩ : ∃ W0, (((w1).alloc (Obj.cells #[Value.slice none 0 0] 32)).alloc (Obj.cells #[Value.pointer (some ⟨b0, 0, none⟩)] 26)).alloc (Obj.cells #[Value.int .i64 vlan] 3) = W0 := ⟨_, rfl⟩
  have hsz : W0.heap.size = L + 3 := by rw [← hW0, ← hL]; simp
  have f0 : W0.heap[w.heap.size]? = some (.cells #[.int .i64 port] 3 (0, 0)) := by rw [← hW0]; exact al_old (al_old (al_old hbx))
  have f4 : W0.heap[L + 1]? = some (.cells #[.pointer (some ⟨b0, 0, none⟩)] 26 (0, 0)) := by rw [← hW0, ← hL]; exact al_old (al_new (by simp))
  have f5 : W0.heap[L + 2]? = some (.cells #[.int .i64 vlan] 3 (0, 0)) := by rw [← hW0, ← hL]; exact al_new (by simp)
  have hbox0 : Boxed W0 L 32 (.slice none 0 0) := by rw [← hW0]; exact (hbox.alloc _).alloc _
  have hBW : Below w.heap.size w W0 := by rw [← hW0]; exact ((hwx.alloc (by rw [hL]; omega) _).alloc (by simp [hL]; omega) _).alloc (by simp [hL]; omega) _
  simp only [hL, World.size_alloc, Nat.add_assoc, Nat.reduceAdd]
  rw [hW0]
  clear hbox
  refine wpIn_rangeFunc_ownF rfl (by omega) (gf := 75) (lb := #[.pointer (some ⟨L + 1, 0, none⟩), .pointer (some ⟨L + 2, 0, none⟩)]) rfl trivial (enters_of Tryz.func75 (by kernel_rfl) rfl)
   (members_stops k w.heap.size (L + 1) (L + 2) b0 ps vlan hs hhs (by omega) _ (by omega) W0 (by omega) f4 f5 (hP.below hBW)) (fun h k => h.trans k) (fun W l o o' hl h hc hw => KpB.put (w := W0) (by omega) (by omega) (by omega) W l o o' hl h hc hw) (Below.refl _ _) (fun _ => rfl)
   (fun pre W => ((∃ v, Boxed W L 32 v ∧ W.ownsRow (L + 3) 3 1 v (rowOf port pre).length (rowOf port pre) ∧ True) ∧ W.cell? ⟨w.heap.size, 0, none⟩ = some (.int .i64 port) ∧ L + 3 ≤ W.heap.size) ∧ Below w.heap.size w W)
   (fun _ _ _ => False)
   (OwnFrom.and (OwnFrom.and (Own.from (holdsRow_own (L + 3) L 32 3 1 (fun pre : List (Fin ps.length) => (rowOf port pre).length) (fun pre => rowOf port pre) (fun _ _ => True)) _) (fun s A B row hs hg hr => ⟨cell_kept hs.1 hg (fun r e => (hr r e).2), Nat.le_trans hs.2 hg.size⟩)) (ownFrom_below (Nat.le_refl _) (by omega)))
   (fun _ _ _ _ _ hs _ _ => hs)
   ⟨⟨⟨_, hbox0, World.ownsRow_nil _ _ _ _, trivial⟩, box_cell f0, by omega⟩, hBW⟩
   ?a2 ?assign ?body ?done ?stop
  case assign =>
   intro l x W K hK
   gi_wp2
   exact hK
  case body =>
   rintro l pre x W ⟨⟨⟨v, hv, hrow, _⟩, hcp, hs3⟩, hB⟩ hlt
   have hrl := rowOf_len port pre
   by_cases hx : (x.val : Int) = port
   ·gi_wp2
    exact ⟨KeepsOthers.refl W, ⟨Below.refl _ W, rfl, rfl⟩, ⟨⟨v, hv, by rw [rowOf_skip port pre x hx]; exact hrow, trivial⟩, hcp, hs3⟩, hB⟩
   ·have cv := hv.cell
    obtain ⟨i0, hi, hz0, hz1, hz2⟩ := info_parts info3
    have hmx : Tryz.prog.follows .mixedOrders = true := by kernel_rfl
    gi_wp2_with (gi_at_builtin; go_loud (refine wpListIn_append_own _ rfl _ _ 32 rfl (L + 3) 3 i0 (.int .i64 0) 1 8 u35 hi hz0 hz1 hz2 rfl (by decide) _ _ _ rfl (hrow.alloc _) ⟨W.heap.size, 0, none⟩ 1 1 [.int .i64 (x.val : Nat)] rfl rfl (cell_one_new _ _ _) (by simp [Value.oneCell']) (by unfold maxLen; omega) (by omega) (by simp; omega) ?_; intro v' w1 hown' hgrow _; obtain ⟨g', cap', rfl⟩ := ownsRow_succ hown'; have hap := hv.appended (by decide) (hrow.mono (show L ≤ L + 3 by omega)) (show L ≤ W.heap.size by omega) (Nat.le_refl _) (hown'.mono (show L ≤ L + 3 by omega)) hgrow; obtain ⟨hv1, hv2, _, hk2, hb2⟩ := hap; have hc1 := hv1.cell; have hf1 := hv1.frozen))
    have hnob : ∀ b, b < L + 3 → some b ≠ v.ownBlock := by
     intro b hb
     rcases hrow.2 with ⟨h, _⟩ | ⟨g, cap, cur, h, hb', _⟩
     ·rw [h]; simp [Value.ownBlock]
     ·rw [h]; simp only [Value.ownBlock, ne_eq, Option.some.injEq]; omega
    have hsame : ∀ b, L < b → b < L + 3 → (w1.setCell ⟨L, 0, none⟩ (Value.slice (some ⟨g', 0, none⟩) ((rowOf port pre).length + 1) cap')).heap[b]? = W.heap[b]? := fun b h1 h2 =>
     (Below.heap_setCell _ _ _ b (by show b ≠ L; omega)).trans ((hgrow.block b (by simp; omega) (hnob b h2)).trans (Below.heap_alloc W _ b (by omega)))
    have hr2 := hown'.kept (grownBy_setCell' w1 L (Value.slice (some ⟨g', 0, none⟩) ((rowOf port pre).length + 1) cap')) (.inr (hv1.not_row (by decide) hown').symm)
    exact ⟨hk2, ⟨hb2.mono (by omega), hsame (L + 1) (by omega) (by omega), hsame (L + 2) (by omega) (by omega)⟩, ⟨⟨_, hv2, by rw [rowOf_more port pre x hx, List.length_append]; exact hr2, trivial⟩, (hb2.cell (p := ⟨w.heap.size, 0, none⟩) (by show w.heap.size < L; omega)).trans hcp, Nat.le_trans hs3 hk2.size⟩, hB.trans (hb2.mono (by omega))⟩
  case done =>
   rintro D ys W hD hys ⟨⟨⟨v, hv, hrow, _⟩, hcp, hs3⟩, hB⟩ hK
   have cv := hv.cell
   gi_wp2
   refine ⟨by simp, .inl ⟨_, _, rfl, run_takeDeferred hK, ?_⟩⟩
   have hrow' := hrow
   unfold rowOf at hrow'
   rw [hys, List.length_map] at hrow'
   exact ⟨_, results_tmp rfl _ _ _, v, rfl, (ownsRow_putObj hrow' _ hK rfl).mono (by omega), hB.trans (belowK_b (w := w) (Nat.le_refl _) W D _ _ (by omega) hK rfl rfl)⟩
  case stop =>
   rintro D c pre W _ _ h _
   exact h.elim
end Go.Proofs.YtkihcmcaignmkaaGreat
end
section
namespace Go.Proofs.YtkihcmcaignmkaaGreat
open Go.Aq Go.RowKit Go.Shelf
set_option linter.unusedVariables false
set_option maxRecDepth 100000 in
theorem to_same (k b0 bt bm : Nat) (port vlan same : Int) (dst : ByteArray) (es : EsT) (w : World) (hT : TabAt w.heap.size w b0 bt bm es)
  (hK : F_addr_Kind.S k dst = .ok 1) (his : mhas es (vlan, dst) = true) (hat : (mget seenD es (vlan, dst)).2.2.1 = port) (c6 : w.cell? ⟨b0, 6, none⟩ = some (.int .i64 same)) (f6 : w.frozen? ⟨b0, 6, none⟩ = false) :
  Calls Tryz.prog 26 #[.pointer (some ⟨b0, 0, none⟩), .int .i64 port, .int .i64 vlan, .string dst] w fun e w' => e = .returned (.slice none 0 0) ∧ ∃ W, Below w.heap.size w W ∧ w' = W.setCell ⟨b0, 6, none⟩ (.int .i64 (IntKind.i64.wrap (same + 1))) := by
 have hB0 : Below w.heap.size w (w.alloc (.cells #[.int .i64 port] 3)) := (Below.refl _ w).alloc (Nat.le_refl _) _
 have hT0 := hT.below hB0
 have hfind := find_raw bt bm es vlan dst _ hT0.c2 hT0.hm
 rw [his, hat] at hfind
 have hc1 := hT0.c1
 have hb0 : (w.alloc (.cells #[.int .i64 port] 3)).heap[w.heap.size]? = some (.cells #[.int .i64 port] 3 (0, 0)) := al_new rfl
 have hlt := hT.lt0
 go_enter Tryz.func26, Tryz.ntmps26
 go_wp2_with (first
  | (go_at_call 56; refine hfind.mono ?_; rintro e w1 ⟨rfl, hB1⟩)
  | (go_at_call 22; refine (kind_calls k dst 1 hK _).mono ?_; rintro e w2 ⟨rfl, hB2⟩; have hs1 : w.heap.size < w1.heap.size := (by have := hB1.size; simp at this; omega); have hBA : Below w.heap.size w w2 := hB0.trans ((hB1.mono (by simp)).trans (hB2.mono (by omega))); have hcp : w2.cell? ⟨w.heap.size, 0, none⟩ = some (.int .i64 port) := box_cell ((hB2.block _ hs1).trans ((hB1.block _ (by simp)).trans hb0)); have hc6 := (World.cell?_of_block (a := ⟨b0, 6, none⟩) (hBA.block b0 hlt)).trans c6; have hf6 := (World.frozen?_of_block (a := ⟨b0, 6, none⟩) (hBA.block b0 hlt)).trans f6))
 refine bodyPost_ret (results_tmp rfl _ _ _) rfl ?_
 exact ⟨rfl, w2, hBA, by rw [wrap_i64]⟩
set_option maxRecDepth 100000 in
theorem to_known (k b0 bt bm p : Nat) (ps : List MemT) (m : MemT) (c : Bool) (port vlan : Int) (dst : ByteArray) (es : EsT) (w : World) (hT : TabAt w.heap.size w b0 bt bm es) (hP : PortsAt w.heap.size w b0 ps)
  (hK : F_addr_Kind.S k dst = .ok 1) (his : mhas es (vlan, dst) = true) (hat : (mget seenD es (vlan, dst)).2.2.1 = (p : Nat)) (hne : ((p : Nat) : Int) ≠ port) (hp : ps[p]? = some m) (hc : m.1 ≠ vlan → F_slices_Contains_int_int.S k m.2 vlan = .ok c) (hc1 : m.1 = vlan → c = true) :
  Calls Tryz.prog 26 #[.pointer (some ⟨b0, 0, none⟩), .int .i64 port, .int .i64 vlan, .string dst] w fun e w' => Below w.heap.size w w' ∧ ∃ v, e = .returned v ∧ w'.ownsRow w.heap.size 3 1 v (if c = true then 1 else 0) (if c = true then [.int .i64 (p : Nat)] else []) := by
 have hB0 : Below w.heap.size w (w.alloc (.cells #[.int .i64 port] 3)) := (Below.refl _ w).alloc (Nat.le_refl _) _
 have hT0 := hT.below hB0
 have hfind := find_raw bt bm es vlan dst _ hT0.c2 hT0.hm
 rw [his, hat] at hfind
 have hc1' := hT0.c1
 have hb0 : (w.alloc (.cells #[.int .i64 port] 3)).heap[w.heap.size]? = some (.cells #[.int .i64 port] 3 (0, 0)) := al_new rfl
 have hraw : ∀ W, Below w.heap.size w W → Calls Tryz.prog 24 #[.pointer (some ⟨b0, 0, none⟩), .int .i64 p, .int .i64 vlan] W fun e w' => e = .returned (.bool c) ∧ Below W.heap.size W w' := fun W hB => has_raw k w.heap.size b0 p ps m vlan c hp hc hc1 W hB.size (hP.below hB)
 cases c with
 | true =>
  go_enter Tryz.func26, Tryz.ntmps26
  go_wp2_with (first
   | (go_at_call 56; refine hfind.mono ?_; rintro e w1 ⟨rfl, hB1⟩)
   | (go_at_call 22; refine (kind_calls k dst 1 hK _).mono ?_; rintro e w2 ⟨rfl, hB2⟩; have hs1 : w.heap.size < w1.heap.size := (by have := hB1.size; simp at this; omega); have hBA : Below w.heap.size w w2 := hB0.trans ((hB1.mono (by simp)).trans (hB2.mono (by omega))); have hcp : w2.cell? ⟨w.heap.size, 0, none⟩ = some (.int .i64 port) := box_cell ((hB2.block _ hs1).trans ((hB1.block _ (by simp)).trans hb0)))
   | (go_at_call 24; refine (hraw _ hBA).mono ?_; rintro e w3 ⟨rfl, hB3⟩))
  have hBC : Below w.heap.size w w3 := hBA.trans (hB3.mono hBA.size)
  refine bodyPost_ret (results_tmp rfl _ _ _) rfl ?_
  exact ⟨hBC.alloc hBC.size _, _, rfl, rfl, .inr ⟨w3.heap.size, 1, #[.int .i64 (p : Nat)], rfl, hBC.size, al_new rfl, Nat.le_refl _, by unfold maxLen; omega, rfl, rfl⟩⟩
 | false =>
  go_enter Tryz.func26, Tryz.ntmps26
  go_wp2_with (first
   | (go_at_call 56; refine hfind.mono ?_; rintro e w1 ⟨rfl, hB1⟩)
   | (go_at_call 22; refine (kind_calls k dst 1 hK _).mono ?_; rintro e w2 ⟨rfl, hB2⟩; have hs1 : w.heap.size < w1.heap.size := (by have := hB1.size; simp at this; omega); have hBA : Below w.heap.size w w2 := hB0.trans ((hB1.mono (by simp)).trans (hB2.mono (by omega))); have hcp : w2.cell? ⟨w.heap.size, 0, none⟩ = some (.int .i64 port) := box_cell ((hB2.block _ hs1).trans ((hB1.block _ (by simp)).trans hb0)))
   | (go_at_call 24; refine (hraw _ hBA).mono ?_; rintro e w3 ⟨rfl, hB3⟩))
  have hBC : Below w.heap.size w w3 := hBA.trans (hB3.mono hBA.size)
  refine bodyPost_ret (results_tmp rfl _ _ _) rfl ?_
  exact ⟨hBC, _, rfl, World.ownsRow_nil _ _ _ _⟩
end Go.Proofs.YtkihcmcaignmkaaGreat
end
section
namespace Go.Proofs.YtkihcmcaignmkaaGreat
open Go.Aq Go.RowKit
set_option linter.unusedVariables false
abbrev C6 := Int × Int × Int × Int × Int × Int
theorem repS_tab_congr {w w' : World} {α : Nat → Value} {Z : Nat → Prop} (hZ : ∀ b, Z b → w'.heap[b]? = w.heap[b]?) (s : Sh) (x : s.T) (vs : List Value) (F : List Nat) (hF : ∀ b ∈ F, w'.heap[b]? = w.heap[b]?) (h : repS w α Z s x vs F) : repS w' α Z s x vs F :=
 repS_congr hZ (fun b hb => hb) s x vs F hF h
theorem bridge_open {w : World} {α : Nat → Value} {Z : Nat → Prop} {g0 : G0} {g1 : G1} {F0 : List Nat} (hnd : F0.Nodup) (hO : repO w α Z 0 obB ((g0, g1) : G0 × G1) F0) :
  ∃ b0 bt bm v vl, α 0 = .pointer (some ⟨b0, 0, none⟩) ∧ b0 ∈ F0 ∧ bt ∈ F0 ∧ bm ∈ F0 ∧ w.heap[b0]? = some (.cells [v, .pointer (some ⟨bt, 0, none⟩), vl, .int .i64 g0.2.2.1, .int .i64 g0.2.2.2.1, .int .i64 g0.2.2.2.2.1, .int .i64 g0.2.2.2.2.2.1, .int .i64 g0.2.2.2.2.2.2.1, .int .i64 g0.2.2.2.2.2.2.2].toArray 66 (0, 0)) ∧
   w.cell? ⟨bt, 2, none⟩ = some (.map (some bm)) ∧ MapSat w bm true true [.int .i64, .str] [.int .i64, .str, .int .i64, .int .i64] g1.2.2 ∧
   ∀ (w' : World) (c : C6), w'.heap[b0]? = some (.cells [v, .pointer (some ⟨bt, 0, none⟩), vl, .int .i64 c.1, .int .i64 c.2.1, .int .i64 c.2.2.1, .int .i64 c.2.2.2.1, .int .i64 c.2.2.2.2.1, .int .i64 c.2.2.2.2.2].toArray 66 (0, 0)) → (∀ b ∈ F0, b ≠ b0 → w'.heap[b]? = w.heap[b]?) → (∀ b, Z b → w'.heap[b]? = w.heap[b]?) → repO w' α Z 0 obB (((g0.1, g0.2.1, c), g1) : G0 × G1) F0 := by
 obtain ⟨F1, F2, rfl, ⟨b, cs, F', ha, h2, h3, rfl⟩, h5⟩ := hO
 obtain ⟨vs1, vs2, Fa, Fb, rfl, rfl, h6, us, rfl, vs3, vs4, Fc, Fd, rfl, rfl, h9, us', rfl, h11⟩ := h3
 obtain ⟨bt, cs2, F'', ha1, h12, h13, rfl⟩ := h5
 have h6' := h6
 have h9' := h9
 obtain ⟨v, _, _, _, rfl, _⟩ := h6'
 obtain ⟨vl, _, _, _, rfl, _⟩ := h9'
 obtain ⟨p1, q1, e1, e2, rfl, rfl, ⟨rfl, rfl⟩, p2, q2, e3, e4, rfl, rfl, ⟨rfl, rfl⟩, p3, q3, e5, e6, rfl, rfl, ⟨rfl, rfl⟩, p4, q4, e7, e8, rfl, rfl, ⟨rfl, rfl⟩, p5, q5, e9, e10, rfl, rfl, ⟨rfl, rfl⟩, u6, h14, ⟨rfl, rfl⟩⟩ := h11
 have h13' := h13
 obtain ⟨x1, y1, z1, z2, rfl, rfl, ⟨rfl, rfl⟩, x2, y2, z3, z4, rfl, rfl, ⟨rfl, rfl⟩, u7, h15, bm, rfl, hm, rfl⟩ := h13'
 have hq5 : q5 = [den ν0 ((Lf.int .i64).enc g0.2.2.2.2.2.2.2)] := by simpa using h14
 have hy2 : y2 = [Value.map (some bm)] := by simpa using h15
 subst hq5 hy2
 have ha1 : α 1 = .pointer (some ⟨bt, 0, none⟩) := ha1
 have h2' : w.heap[b]? = some (.cells [v, α 1, vl, .int .i64 g0.2.2.1, .int .i64 g0.2.2.2.1, .int .i64 g0.2.2.2.2.1, .int .i64 g0.2.2.2.2.2.1, .int .i64 g0.2.2.2.2.2.2.1, .int .i64 g0.2.2.2.2.2.2.2].toArray 66 (0, 0)) := h2
 have h12' : w.heap[bt]? = some (.cells [den ν0 ((Lf.int .i64).enc g1.1), den ν0 ((Lf.int .i64).enc g1.2.1), Value.map (some bm)].toArray 124 (0, 0)) := h12
 rw [ha1] at h2'
 refine ⟨b, bt, bm, v, vl, ha, by simp, by simp, by simp, h2', by simp [World.cell?, h12'], hm, fun w' c h0' hF hZ => ?_⟩
 have hnb : ∀ x ∈ Fa ++ (Fc ++ []), x ≠ b := by
  intro x hx e
  subst e
  rw [List.cons_append, List.nodup_cons] at hnd
  refine hnd.1 ?_
  simp at hx ⊢
  rcases hx with hx | hx <;> simp [hx]
 have hnt : ∀ x ∈ bt :: ([] ++ ([] ++ [bm])), x ≠ b := by
  intro x hx e
  subst e
  rw [List.cons_append, List.nodup_cons] at hnd
  refine hnd.1 ?_
  simp at hx ⊢
  rcases hx with hx | hx <;> simp [hx]
 have hb' : w'.heap[bt]? = w.heap[bt]? := hF bt (by simp) (hnt bt (by simp))
 refine ⟨_, _, rfl, ⟨b, [v, α 1, vl, .int .i64 c.1, .int .i64 c.2.1, .int .i64 c.2.2.1, .int .i64 c.2.2.2.1, .int .i64 c.2.2.2.2.1, .int .i64 c.2.2.2.2.2], _, ha, (by rw [ha1]; exact h0'), ⟨[v], _, Fa, _, rfl, rfl, repS_tab_congr hZ _ _ _ _ (fun x hx => hF x (by simp [hx]) (hnb x (by simp [hx]))) h6, _, rfl, [vl], _, Fc, _, rfl, rfl, repS_tab_congr hZ _ _ _ _ (fun x hx => hF x (by simp [hx]) (hnb x (by simp [hx]))) h9, _, rfl,
  ⟨[.int .i64 c.1], _, [], _, rfl, rfl, ⟨rfl, rfl⟩, [.int .i64 c.2.1], _, [], _, rfl, rfl, ⟨rfl, rfl⟩, [.int .i64 c.2.2.1], _, [], _, rfl, rfl, ⟨rfl, rfl⟩, [.int .i64 c.2.2.2.1], _, [], _, rfl, rfl, ⟨rfl, rfl⟩, [.int .i64 c.2.2.2.2.1], [.int .i64 c.2.2.2.2.2], [], [], rfl, rfl, ⟨rfl, rfl⟩, [.int .i64 c.2.2.2.2.2], rfl, ⟨rfl, rfl⟩⟩⟩, rfl⟩,
  ⟨bt, _, _, ha1, hb'.trans h12, repF_congr hZ (fun b hb => hb) _ _ _ _ (fun x hx => hF x (by simp at hx; simp [hx]) (hnt x (by simp at hx; simp [hx]))) h13, rfl⟩⟩
theorem rowSat_ints {w : World} {base : Nat} {v : Value} {ys : List Int} {n : Nat} (hn : n = ys.length) (h : w.ownsRow base 3 1 v n (ys.map fun n => Value.int .i64 n)) :
  RowSat w v true 3 [.int .i64] ys ∧ ∀ b ∈ rowMine true v, base ≤ b ∧ b < w.heap.size := by
 subst hn
 rcases h.2 with ⟨rfl, h0⟩ | ⟨g, cap, cur, rfl, hg, hcell, h1, h2, h3, h4⟩
 ·have hy : ys = [] := List.length_eq_zero_iff.1 h0
  subst hy
  exact ⟨.inl ⟨rfl, rfl⟩, fun b hb => by simp [rowMine] at hb⟩
 ·refine ⟨.inr ⟨⟨g, 0, none⟩, cap, rfl, h1, (fun h => by cases h), fun _ => ⟨rfl, rfl, h2, cur, (0, 0), hcell, h3, ?_, by rw [flat_ints]; exact h4⟩⟩, fun b hb => by
   simp only [rowMine, List.mem_singleton] at hb
   subst hb
   exact ⟨hg, (Array.getElem?_eq_some_iff.1 hcell).1⟩⟩
  exact fun i _ h => by simp at h
namespace F_bridge_Bridge_to
noncomputable def ct : Ct := ⟨.some (.pin (.ref 0) (.cons (.leaf (.int .i64)) (.cons (.leaf (.int .i64)) (.one (.leaf .str) [])))), obB, [⟨.val (.row true 3 [.int .i64]), [], []⟩]⟩
def others (hs : Nat → Bool) (n : Nat) (port : Int) : List Int := ((memb hs n).filter fun p : Nat => decide ((p : Int) ≠ port)).map fun p : Nat => (p : Int)
noncomputable def flood (k : Nat) (port vlan : Int) (g0 : G0) (g1 : G1) : O (List Int × G0 × G1) :=
 @ite _ (AllHas k vlan g0.1 ∧ g0.1.length ≤ 1000000) (Classical.propDecidable _) (.ok (others (hsOf k vlan g0.1) g0.1.length port, g0, g1)) .no
def HasAt (k : Nat) (vlan : Int) (ps : List MemT) (at' : Int) : Prop := ∃ (p : Nat) (m : MemT), at' = (p : Int) ∧ ps[p]? = some m ∧ (m.1 ≠ vlan → ∃ c, F_slices_Contains_int_int.S k m.2 vlan = .ok c)
def bump (g0 : G0) : G0 := (g0.1, g0.2.1, (g0.2.2.1, g0.2.2.2.1, g0.2.2.2.2.1, IntKind.i64.wrap (g0.2.2.2.2.2.1 + 1), g0.2.2.2.2.2.2.1, g0.2.2.2.2.2.2.2))
noncomputable def known (k : Nat) (port vlan at' : Int) (g0 : G0) (g1 : G1) : O (List Int × G0 × G1) :=
 if at' = port then .ok ([], bump g0, g1) else @ite _ (HasAt k vlan g0.1 at') (Classical.propDecidable _) (.ok (if hsOf k vlan g0.1 at'.toNat = true then [at'] else [], g0, g1)) .no
noncomputable def S (k : Nat) (port vlan : Int) (dst : ByteArray) (g0 : G0) (g1 : G1) : O (List Int × G0 × G1) :=
 match F_addr_Kind.S k dst with
 | .ok kd => if mhas g1.2.2 (vlan, dst) = true ∧ kd = 1 then known k port vlan (mget seenD g1.2.2 (vlan, dst)).2.2.1 g0 g1 else flood k port vlan g0 g1
 | _ => .no
theorem post {w : World} {α : Nat → Value} {F0 : List Nat} {Z : Nat → Prop} {g1 : G1} {m : O (List Int × G0 × G1)} {ys : List Int} {g0' : G0} {w' : World} {v : Value} {n : Nat} (hm : m = .ok (ys, g0', g1)) (hZ : ∀ b, Z b → b < w.heap.size ∧ b ∉ F0) (hnd : F0.Nodup) (hlt : ∀ b ∈ F0, b < w.heap.size)
  (hK : Keep F0 w w') (hO' : repO w' α Z 0 obB ((g0', g1) : G0 × G1) F0) (hn : n = ys.length) (hrow : w'.ownsRow w.heap.size 3 1 v n (ys.map fun n => Value.int .i64 n)) : FnPostC w ct α F0 Z m (.returned v) w' := by
 obtain ⟨hr, hge⟩ := rowSat_ints hn hrow
 refine ⟨(ys, g0', g1), hm, hK, α, F0, rowMine true v, Z, fun _ _ => rfl, hO', ⟨[v], ⟨v, rfl, by simp, hr, rfl, fun b hb => (by cases hb)⟩, rfl⟩, ?_, ?_, ?_⟩
 ·rw [List.nodup_append]
  refine ⟨hnd, ?_, fun a ha b hb e => ?_⟩
  ·unfold rowMine
   split
   ·split <;> simp
   ·simp
  ·have := (hge b hb).1
   have := hlt a ha
   omega
 ·intro b hb
  rcases List.mem_append.1 hb with hb | hb
  ·exact .inl hb
  ·exact .inr (hge b hb).1
 ·intro b hb
  refine ⟨.inl hb, fun h => ?_, Nat.lt_of_lt_of_le (hZ b hb).1 hK.size⟩
  rcases List.mem_append.1 h with h | h
  ·exact (hZ b hb).2 h
  ·have := (hge b h).1
   have := (hZ b hb).1
   omega
theorem S_is {k : Nat} {port vlan kd : Int} {dst : ByteArray} {g0 : G0} {g1 : G1} (h : F_addr_Kind.S k dst = .ok kd) : S k port vlan dst g0 g1 = if mhas g1.2.2 (vlan, dst) = true ∧ kd = 1 then known k port vlan (mget seenD g1.2.2 (vlan, dst)).2.2.1 g0 g1 else flood k port vlan g0 g1 := by
 unfold S; rw [h]
theorem S_kd {k : Nat} {port vlan : Int} {dst : ByteArray} {g0 : G0} {g1 : G1} (h : S k port vlan dst g0 g1 ≠ .no) : ∃ kd, F_addr_Kind.S k dst = .ok kd := by
 unfold S at h
 split at h
 ·rename_i kd hk; exact ⟨kd, hk⟩
 ·exact absurd rfl h
theorem flood_is {k : Nat} {port vlan : Int} {g0 : G0} {g1 : G1} (h : flood k port vlan g0 g1 ≠ .no) : (AllHas k vlan g0.1 ∧ g0.1.length ≤ 1000000) ∧ flood k port vlan g0 g1 = .ok (others (hsOf k vlan g0.1) g0.1.length port, g0, g1) := by
 by_cases hc : AllHas k vlan g0.1 ∧ g0.1.length ≤ 1000000
 ·exact ⟨hc, by unfold flood; rw [if_pos hc]⟩
 ·exact absurd (by unfold flood; rw [if_neg hc]) h
theorem known_is {k : Nat} {port vlan at' : Int} {g0 : G0} {g1 : G1} (hp : at' ≠ port) (h : known k port vlan at' g0 g1 ≠ .no) : HasAt k vlan g0.1 at' ∧ known k port vlan at' g0 g1 = .ok (if hsOf k vlan g0.1 at'.toNat = true then [at'] else [], g0, g1) := by
 by_cases hc : HasAt k vlan g0.1 at'
 ·exact ⟨hc, by unfold known; rw [if_neg hp, if_pos hc]⟩
 ·exact absurd (by unfold known; rw [if_neg hp, if_neg hc]) h
set_option maxHeartbeats 1000000 in
theorem raw (k : Nat) (port vlan : Int) (dst : ByteArray) (g0 : G0) (g1 : G1) (hne : S k port vlan dst g0 g1 ≠ .no) (w : World) (α : Nat → Value) (F0 : List Nat) (Z : Nat → Prop) (hZ : ∀ b, Z b → b < w.heap.size ∧ b ∉ F0) (hO : repO w α Z 0 obB ((g0, g1) : G0 × G1) F0) (hnd : F0.Nodup) :
  Calls Tryz.prog 26 #[α 0, .int .i64 port, .int .i64 vlan, .string dst] w (FnPostC w ct α F0 Z (S k port vlan dst g0 g1)) := by
 obtain ⟨b0, bt, bm, v, vl, ha, hb0, hbt, hbm, h0, c2, hm, hclose⟩ := bridge_open hnd hO
 obtain ⟨b0', ha', hP⟩ := portsAt_of (fun b hb => (hZ b hb).1) hO
 obtain rfl : b0' = b0 := by
  rw [ha] at ha'
  simp only [Value.pointer.injEq, Option.some.injEq, Addr.mk.injEq, and_true] at ha'
  exact ha'.symm
 have hlt : ∀ b ∈ F0, b < w.heap.size := repO_blk obB 0 _ F0 hO
 have hT : TabAt w.heap.size w b0' bt bm g1.2.2 := ⟨hlt _ hb0, hlt _ hbt, hlt _ hbm, by simp [World.cell?, h0], c2, hm⟩
 have same : ∀ w', Below w.heap.size w w' → Keep F0 w w' ∧ repO w' α Z 0 obB ((g0, g1) : G0 × G1) F0 := fun w' hB =>
  ⟨⟨hB.os, hB.tape, hB.output, hB.size, fun b hb _ => hB.block b hb⟩, repO_below (fun b hb => hB.block b (hZ b hb).1) obB 0 _ F0 (fun b hb => hB.block b (hlt b hb)) hO⟩
 rw [ha]
 obtain ⟨kd, hkd⟩ := S_kd hne
 have hS := S_is (port := port) (vlan := vlan) (g0 := g0) (g1 := g1) hkd
 by_cases hc : mhas g1.2.2 (vlan, dst) = true ∧ kd = 1
 ·rw [if_pos hc] at hS
  rw [hS] at hne ⊢
  obtain ⟨his, rfl⟩ := hc
  by_cases hp : (mget seenD g1.2.2 (vlan, dst)).2.2.1 = port
  ·have hk : known k port vlan (mget seenD g1.2.2 (vlan, dst)).2.2.1 g0 g1 = .ok ([], bump g0, g1) := by unfold known; rw [if_pos hp]
   refine (to_same k b0' bt bm port vlan g0.2.2.2.2.2.1 dst g1.2.2 w hT hkd his hp (by simp [World.cell?, h0]) (by simp [World.frozen?, h0])).mono ?_
   rintro e w' ⟨rfl, W, hB, rfl⟩
   have hW0 := (hB.block b0' (hlt _ hb0)).trans h0
   have hoth : ∀ b, b ≠ b0' → (W.setCell ⟨b0', 6, none⟩ (.int .i64 (IntKind.i64.wrap (g0.2.2.2.2.2.1 + 1)))).heap[b]? = W.heap[b]? := fun b hb => Below.heap_setCell _ _ _ b hb
   refine post (n := 0) hk hZ hnd hlt ⟨hB.os, hB.tape, hB.output, Nat.le_trans hB.size (KeepsOthers.setCell W ⟨b0', 6, none⟩ _).size, fun b hb hn => (hoth b (fun e => hn (e ▸ hb0))).trans (hB.block b hb)⟩ ?_ rfl (World.ownsRow_nil _ _ _ _)
   refine hclose _ (g0.2.2.1, g0.2.2.2.1, g0.2.2.2.2.1, IntKind.i64.wrap (g0.2.2.2.2.2.1 + 1), g0.2.2.2.2.2.2.1, g0.2.2.2.2.2.2.2) ?_ (fun b hb hn => (hoth b hn).trans (hB.block b (hlt b hb))) (fun b hb => (hoth b (fun e => (hZ b hb).2 (e ▸ hb0))).trans (hB.block b (hZ b hb).1))
   obtain ⟨hlt', hk'⟩ := Array.getElem?_eq_some_iff.1 hW0
   show (W.heap.modify b0' _)[b0']? = _
   rw [Array.getElem?_eq_getElem (by rw [Array.size_modify]; exact hlt'), Array.getElem_modify_self, hk']
   simp
  ·obtain ⟨⟨p, m, hat, hpm, hcon⟩, hk⟩ := known_is hp hne
   have hh : HasOk k g0.1 vlan (hsOf k vlan g0.1) ∨ True := .inr trivial
   have h1 : m.1 ≠ vlan → F_slices_Contains_int_int.S k m.2 vlan = .ok (hsOf k vlan g0.1 p) := fun h => by
    obtain ⟨c, hc⟩ := hcon h
    unfold hsOf; rw [hpm]; simp only [if_neg h, hc]
   have h2 : m.1 = vlan → hsOf k vlan g0.1 p = true := fun h => by unfold hsOf; rw [hpm]; simp only [if_pos h]
   refine (to_known k b0' bt bm p g0.1 m (hsOf k vlan g0.1 p) port vlan dst g1.2.2 w hT hP hkd his hat (by rw [← hat]; exact hp) hpm h1 h2).mono ?_
   rintro e w' ⟨hB, v, rfl, hrow⟩
   obtain ⟨hK, hO'⟩ := same w' hB
   refine post hk hZ hnd hlt hK hO' ?_ (v := v) (n := if hsOf k vlan g0.1 p = true then 1 else 0) ?_
   ·rw [hat, Int.toNat_natCast]; split <;> rfl
   ·rw [hat, Int.toNat_natCast]
    have e : (if hsOf k vlan g0.1 p = true then [Value.int .i64 (p : Nat)] else []) = List.map (fun n => Value.int .i64 n) (if hsOf k vlan g0.1 p = true then [((p : Nat) : Int)] else []) := by split <;> rfl
    rw [← e]; exact hrow
 ·rw [if_neg hc] at hS
  rw [hS] at hne ⊢
  obtain ⟨⟨hall, hlen⟩, hk⟩ := flood_is hne
  have hno : mhas g1.2.2 (vlan, dst) = false ∨ kd ≠ 1 := by
   cases hh : mhas g1.2.2 (vlan, dst) with
   | false => exact .inl rfl
   | true => exact .inr fun e => hc ⟨hh, e⟩
  refine (to_flood k b0' bt bm g0.1 port vlan dst (hsOf k vlan g0.1) g1.2.2 kd w hT hP (hasOk_of hall) hlen hkd hno).mono ?_
  rintro e w' ⟨v, rfl, hrow, hB⟩
  obtain ⟨hK, hO'⟩ := same w' hB
  refine post hk hZ hnd hlt hK hO' ?_ (v := v) (n := ((memb (hsOf k vlan g0.1) g0.1.length).filter fun p : Nat => decide ((p : Int) ≠ port)).length) ?_
  ·unfold others; rw [List.length_map]
  ·unfold others; rw [List.map_map]; exact hrow
theorem core (k : Nat) (port vlan : Int) (dst : ByteArray) (g0 : G0) (g1 : G1) (hne : S k port vlan dst g0 g1 ≠ .no) (w : World) (vs : List Value) (α : Nat → Value) (F0 : List Nat) (Z : Nat → Prop) (hZ : ∀ b, Z b → b < w.heap.size ∧ b ∉ F0) (hO : repO w α Z 0 obB ((g0, g1) : G0 × G1) F0) (hnd : F0.Nodup) (hA : repAs w α Z ct.as ((port, vlan, dst) : Int × Int × ByteArray) vs) :
  Calls Tryz.prog 26 vs.toArray w (FnPostC w ct α F0 Z (S k port vlan dst g0 g1)) := by
 obtain ⟨us, rfl, v1, vs', F1, F2, rfl, hF, ⟨cs, ⟨rfl, _⟩, e1⟩, v2, vs'', F3, F4, rfl, hF', ⟨cs2, ⟨rfl, _⟩, e2⟩, v3, hvs, ⟨cs3, ⟨rfl, _⟩, e3⟩⟩ := hA
 have e1 : [den ν0 ((Lf.int .i64).enc port)] = [v1] := e1
 have e2 : [den ν0 ((Lf.int .i64).enc vlan)] = [v2] := e2
 have e3 : [den ν0 (Lf.str.enc dst)] = [v3] := e3
 simp only [List.cons.injEq, and_true] at e1 e2 e3
 have hvs : vs'' = [v3] := by simpa using hvs
 subst hvs e1 e2 e3
 exact raw k port vlan dst g0 g1 hne w α F0 Z hZ hO hnd
theorem ok (k : Nat) : FnOkC Tryz.prog 26 ct (fun (x : Int × Int × ByteArray) (g : G0 × G1) => S k x.1 x.2.1 x.2.2 g.1 g.2) :=
 fun x g hne w vs α F0 Z hZ hO hnd hA => core k x.1 x.2.1 x.2.2 g.1 g.2 hne w vs α F0 Z hZ hO hnd hA
theorem hd {T : Type} (k : Nat) : HdOk Tryz.prog 26 (pureC (T := T) ct [.arg 0 0, .fld 0 1] (fun (x : Int × Int × ByteArray) (g : G0 × G1) => S k x.1 x.2.1 x.2.2 g.1 g.2)) :=
 pureC_ok rfl [.arg 0 0, .fld 0 1] (ok k) Tryz.call26
end F_bridge_Bridge_to
end Go.Proofs.YtkihcmcaignmkaaGreat
end
section

end
