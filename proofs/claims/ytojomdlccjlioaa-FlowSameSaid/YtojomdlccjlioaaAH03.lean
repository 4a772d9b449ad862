/- toeplitz.Hash ranges over an iterator: its contract, by hand: what the iterator yields, and what the loop makes of it. -/
import Derived.RangeFuncFrom
import Derived.RangeFuncLeaves
import Derived.RangeFuncCalls
import Derived.Shelf.Abstract
import Derived.Shelf.RegionOpen
import Derived.WalkKit
import Derived.OwnWalkIn
import Derived.TacticsInMore
import Derived.LoopNIn
import Derived.LoopIn
import Derived.Test.YtojomdlccjlioaaAP03a
namespace Go.Proofs.Ytojomdlccjlioaa
open Go.RowKit Go.Shelf
open Go.Aq (FnOk O.chk_dec)
set_option linter.unusedVariables false
attribute [local go_sem] Oper.semAt_some

theorem bit_calls (s : ByteArray) (n v : Int) (hv : bitv s n = v) (hs : s.size ≤ 140737488351232) (w : World) : Calls Try.prog 70 #[.string s, .int .i64 n] w fun e w' => e = .returned (.int .u32 v) ∧ Below w.heap.size w w' :=
  (F_toeplitz_bit.ok 0).int (x := (s, n)) (hv ▸ bit_S 0 s n hs) (vs := [.string s, .int .i64 n]) ⟨_, _, [], [], rfl, rfl, ⟨_, ⟨rfl, rfl⟩, rfl⟩, ⟨_, rfl, _, ⟨rfl, rfl⟩, rfl⟩⟩ rfl
theorem window_calls (s : ByteArray) (n : Int) (hs : s.size ≤ 140737488351232) (w : World) : Calls Try.prog 61 #[.string s, .int .i64 n] w fun e w' => e = .returned (.int .u32 (winv s n)) ∧ Below w.heap.size w w' :=
  (F_toeplitz_Window.ok 33).int (x := (s, n)) (Window_S 33 (Nat.le_refl _) s n hs) (vs := [.string s, .int .i64 n]) ⟨_, _, [], [], rfl, rfl, ⟨_, ⟨rfl, rfl⟩, rfl⟩, ⟨_, rfl, _, ⟨rfl, rfl⟩, rfl⟩⟩ rfl
theorem box_cell {W : World} {B : Nat} {v : Value} {t : TypeId} (h : W.heap[B]? = some (.cells #[v] t (0, 0))) : W.cell? ⟨B, 0, none⟩ = some v ∧ W.frozen? ⟨B, 0, none⟩ = false := by
  constructor <;> simp [World.cell?, World.frozen?, h]
theorem keeps_of_below {w w' : World} (h : Below w.heap.size w w') : KeepsOthers w w' := ⟨h.size, fun k o ho _ => (h.block k (Array.getElem?_eq_some_iff.1 ho).1).trans ho⟩
theorem grown_of_below {w w' : World} (h : Below w.heap.size w w') : w.grownBy w' none := by
  constructor
  all_goals first | exact h.os | exact h.tape | exact h.output | exact h.size | exact fun k hk _ => h.block k hk

set_option maxRecDepth 100000 in
set_option maxHeartbeats 2000000 in
theorem ones1_in (Bn : Nat) (l : Nat) (s : ByteArray) (hs : s.size ≤ 140737488351232) (J Jx : List Int → World → Prop) (n : Nat) (hn : 1 ≤ n) (W : World) (hJ : AbidesFrom W.heap.size J)
    (hY : ∀ pre x W, J pre W → pre.length < 8 * s.size → YieldAt Fence.wide (n - 1) Try.prog l #[.int .i64 x] W fun e W' =>
      (e = .returned (.bool true) ∧ J (pre ++ [x]) W' ∧ W'.heap[Bn]? = W.heap[Bn]?) ∨ (e = .returned (.bool false) ∧ Jx (pre ++ [x]) W'))
    (hB : W.heap[Bn]? = some (.cells #[.string s] 9 (0, 0))) (h0 : J [] W) :
    CallsIn Fence.wide n Try.prog 69 #[.func (.yield l) #[] #[], .pointer (some ⟨Bn, 0, none⟩)] W fun e W' => (∃ v, e = .returned v) ∧
      ((∃ ys, ys = onesTo s (8 * s.size) ∧ J ys W') ∨ (∃ pre, True ∧ Jx pre W')) := by
  refine callsIn_of_wp Try.func69 rfl trivial ?_ rfl
  simp only [Try.ntmps69, List.size_toArray, List.length_cons, List.length_nil, Nat.reduceAdd, Nat.reduceSub, Array.replicate_succ, Array.replicate_zero, List.push_toArray, List.append_toArray, List.nil_append, List.cons_append]
  have hc := (box_cell hB).1
  gi_wp2
  gi_loopw [7] (fun i wr => ∃ k : Nat, k ≤ 8 * s.size ∧ i = .int .i64 k ∧ J (onesTo s k) wr ∧ wr.heap[Bn]? = some (.cells #[.string s] 9 (0, 0))) (fun i _ => 8 * s.size - (intOf i).toNat)
  case atStart => exact ⟨0, Nat.zero_le _, rfl, h0, hB⟩
  case round =>
    obtain ⟨k, hk, rfl, hJs, hnx⟩ := hrel
    have hcx : wr.cell? ⟨Bn, 0, none⟩ = some (.string s) := (box_cell hnx).1
    have hBlt : Bn < wr.heap.size := (Array.getElem?_eq_some_iff.1 hnx).1
    by_cases hlt : k < 8 * s.size
    · have hlen : (onesTo s k).length < 8 * s.size := Nat.lt_of_le_of_lt (onesTo_len s k) hlt
      have h1n : 1 ≤ n := hn
      rcases bitv_01 s k with hv | hv
      · gi_wp2_with (refine ⟨trivial, ?_⟩; gi_at_call 70; refine (callsIn_wide.2 (bit_calls s k 0 hv hs _)).mono ?_; rintro e w' ⟨rfl, hb⟩)
        refine And.intro (fun f e => trivial) ?_
        gi_wp2
        go_roundw
        case rel => exact ⟨k + 1, by omega, by simp, by rw [onesTo, if_neg (by omega)]; exact hJ _ _ _ none hJs (grown_of_below hb) (by simp), (hb.block _ hBlt).trans hnx⟩
        case measure => simp [intOf]; omega
      · gi_wp2_with (refine ⟨trivial, ?_⟩; gi_at_call 70; refine (callsIn_wide.2 (bit_calls s k 1 hv hs _)).mono ?_; rintro e w' ⟨rfl, hb⟩; have hJ' := hJ _ _ _ none hJs (grown_of_below hb) (by simp); obtain ⟨fn, tmps, assign, body, hy, hR⟩ := hY _ (k : Int) w' hJ' hlen)
        refine hR.mono ?_
        have hbn := (hb.block _ hBlt).trans hnx
        rintro e W3 (⟨rfl, hJ3, hk3⟩ | ⟨rfl, hJx3⟩)
        · gi_wp2
          go_roundw
          case rel => exact ⟨k + 1, by omega, by simp, by rw [onesTo, if_pos hv]; exact hJ3, hk3.trans hbn⟩
          case measure => simp [intOf]; omega
        · gi_wp2
          refine bodyPost_ret (results_none rfl _ _ _) rfl ?_
          exact ⟨⟨_, rfl⟩, .inr ⟨_, trivial, hJx3⟩⟩
    · obtain rfl : k = 8 * s.size := by omega
      gi_wp2
      go_end0
      exact ⟨⟨_, rfl⟩, .inl ⟨_, rfl, hJs⟩⟩
theorem ones_calls (s : ByteArray) (w : World) : Calls Try.prog 60 #[.string s] w fun e w' => e = .returned (.func (.func 69) #[] #[.pointer (some ⟨w.heap.size, 0, none⟩)]) ∧ w' = w.alloc (.cells #[.string s] 9) := by
  refine (callsIn_wide (n := 3)).1 ?_
  refine callsIn_of_wp Try.func60 rfl trivial ?_ rfl
  simp only [Try.ntmps60, List.size_toArray, List.length_cons, List.length_nil, Nat.reduceAdd, Nat.reduceSub, Array.replicate_succ, Array.replicate_zero, List.push_toArray, List.append_toArray, List.nil_append, List.cons_append]
  gi_wp2
  go_ret
  exact ⟨rfl, rfl⟩

theorem ones_stops (Bn : Nat) (s : ByteArray) (hs : s.size ≤ 140737488351232) (n : Nat) (hn : 1 ≤ n) (w : World) (hBl : Bn < w.heap.size) (hB : w.heap[Bn]? = some (.cells #[.string s] 9 (0, 0))) :
    SeqStopsK Fence.wide n Try.prog 69 #[.pointer (some ⟨Bn, 0, none⟩)] (fun x : Int => #[Value.int .i64 x]) (fun A B => B.heap[Bn]? = A.heap[Bn]?) (fun ys => ys = onesTo s (8 * s.size)) (fun _ => True) (8 * s.size) w := fun l J Jx W hW hJ _ hY h0 =>
  ones1_in Bn l s hs J Jx n hn W hJ hY ((hW.block _ hBl).trans hB) h0

theorem hash_bad (key s : ByteArray) (hk : key.size < 4 ∨ 52 < key.size) (w : World) : Calls Try.prog 38 #[.string key, .string s] w fun e w' => e = .returned (.tuple #[.int .u32 0, .int .i64 30]) ∧ Below w.heap.size w w' := by
  refine (callsIn_wide (n := 3)).1 ?_
  refine callsIn_of_wp_marks Try.func38 rfl trivial ?_ rfl
  simp only [Try.ntmps38, List.size_toArray, List.length_cons, List.length_nil, Nat.reduceAdd, Nat.reduceSub, Array.replicate_succ, Array.replicate_zero, List.push_toArray, List.append_toArray, List.nil_append, List.cons_append]
  rcases hk with hk | hk
  · have h1 : (key.size : Int) < 4 := by omega
    gi_wp2
    exact ⟨_, results_tmp2 rfl _ _ _, rfl, (Below.refl _ w).alloc (Nat.le_refl _) _⟩
  · have h1 : ¬ (key.size : Int) < 4 := by omega
    have h2 : (52 : Int) < key.size := by omega
    gi_wp2
    exact ⟨_, results_tmp2 rfl _ _ _, rfl, (Below.refl _ w).alloc (Nat.le_refl _) _⟩

set_option maxRecDepth 100000 in
set_option maxHeartbeats 4000000 in
theorem hash_good (key s : ByteArray) (hk : 4 ≤ key.size ∧ key.size ≤ 52) (hs : s.size ≤ 140737488351232) (w : World) : Calls Try.prog 38 #[.string key, .string s] w fun e w' => e = .returned (.tuple #[.int .u32 (hsh key s), .int .i64 0]) ∧ Below w.heap.size w w' := by
  refine (callsIn_wide (n := 6)).1 ?_
  refine callsIn_of_wp_marks Try.func38 rfl trivial ?_ rfl
  simp only [Try.ntmps38, List.size_toArray, List.length_cons, List.length_nil, Nat.reduceAdd, Nat.reduceSub, Array.replicate_succ, Array.replicate_zero, List.push_toArray, List.append_toArray, List.nil_append, List.cons_append]
  have h1 : ¬ (key.size : Int) < 4 := by omega
  have h2 : ¬ (52 : Int) < key.size := by omega
  gi_wp2_with (refine ⟨trivial, ?_⟩; gi_at_call 60; refine (callsIn_wide.2 (ones_calls s _)).mono ?_; rintro e w' ⟨rfl, rfl⟩)
  obtain ⟨W0, hW0⟩ : ∃ W0, (((w.alloc (Obj.cells #[Value.string key] 9)).alloc (Obj.cells #[Value.int .u32 0] 31)).alloc (Obj.cells #[Value.string s] 9)) = W0 := ⟨_, rfl⟩
  have hsz : W0.heap.size = w.heap.size + 3 := by rw [← hW0]; simp
  have b0 : W0.heap[w.heap.size]? = some (.cells #[.string key] 9 (0, 0)) := by
    rw [← hW0]; exact (Below.heap_alloc _ _ _ (by simp; omega)).trans ((Below.heap_alloc _ _ _ (by simp)).trans (World.alloc_heap_new w _))
  have b1 : W0.heap[w.heap.size + 1]? = some (.cells #[.int .u32 0] 31 (0, 0)) := by
    rw [← hW0]; refine (Below.heap_alloc _ _ _ (by simp)).trans ?_
    have := World.alloc_heap_new (w.alloc (Obj.cells #[Value.string key] 9)) (Obj.cells #[Value.int .u32 0] 31)
    rwa [World.size_alloc] at this
  have b2 : W0.heap[w.heap.size + 2]? = some (.cells #[.string s] 9 (0, 0)) := by
    rw [← hW0]
    have := World.alloc_heap_new ((w.alloc (Obj.cells #[Value.string key] 9)).alloc (Obj.cells #[Value.int .u32 0] 31)) (Obj.cells #[Value.string s] 9)
    rwa [World.size_alloc, World.size_alloc] at this
  have hB0 : Below w.heap.size w W0 := by rw [← hW0]; exact (((Below.refl _ w).alloc (Nat.le_refl _) _).alloc (by simp) _).alloc (by simp; omega) _
  rw [hW0]
  refine wpIn_rangeFunc_ownF rfl (by omega) (gf := 69) (lb := #[.pointer (some ⟨w.heap.size + 2, 0, none⟩)]) rfl trivial (enters_of Try.func69 (by kernel_rfl) rfl)
    (ones_stops (w.heap.size + 2) s hs _ (by omega) W0 (by omega) b2) (fun h k => k.trans h) (fun W l o o' hl _ _ _ => World.putObj_heap_other (by omega)) (Below.refl _ _) (fun _ => rfl)
    (fun pre W => ((W.cell? ⟨w.heap.size, 0, none⟩ = some (.string key) ∧ W.cell? ⟨w.heap.size + 1, 0, none⟩ = some (.int .u32 (pre.foldl (hstep key) 0)) ∧ W.frozen? ⟨w.heap.size + 1, 0, none⟩ = false) ∧ w.heap.size + 3 ≤ W.heap.size) ∧ Below w.heap.size w W)
    (fun _ _ _ => False)
    (OwnFrom.and (OwnFrom.and (Own.from (fun s A B row hs hg hr => ⟨cell_kept hs.1 hg hr, cell_kept hs.2.1 hg hr, (frozen_kept hs.2.1 hg hr).trans hs.2.2⟩) _) (fun s A B row hs hg hr => Nat.le_trans hs hg.size)) (ownFrom_below (Nat.le_refl _) (by omega)))
    (fun _ _ _ _ _ hs _ _ => hs)
    ⟨⟨⟨(box_cell b0).1, (box_cell b1).1, (box_cell b1).2⟩, by omega⟩, hB0⟩
    (fun x => { tmps := #[.string key, .string s, .pointer (some ⟨w.heap.size, 0, none⟩), undef, .int .u32 0, .int .i64 0, .pointer (some ⟨w.heap.size + 1, 0, none⟩), .int .i64 x, .string key, .int .i64 key.size, .bool false, .bool false, .string key, .int .i64 key.size, .bool false, .bool false, .string s, .func (.func 69) #[] #[.pointer (some ⟨w.heap.size + 2, 0, none⟩)], .int .i64 x, undef, undef, undef, undef, undef, undef], defers := [] }) ?assign ?body ?done ?stop
  case assign =>
    intro l x W K hK
    gi_wp2
    exact hK
  case body =>
    rintro l pre x W ⟨⟨⟨hc0, hc1, hf1⟩, hs3⟩, hB⟩ _
    have hd : 1 ≤ 6 - 1 - 1 := by omega
    have hmx : Try.prog.follows .mixedOrders = true := by kernel_rfl
    gi_wp2
    gi_region_with_o (refine ⟨trivial, ?_⟩; gi_at_call 61; refine (CallsIn.inRound l (callsIn_wide.2 (window_calls key x (by omega) _))).mono ?_; rintro e w' ⟨rfl, hb⟩; have hc0' := (hb.cell (p := ⟨w.heap.size, 0, none⟩) (show w.heap.size < W.heap.size by omega)).trans hc0; have hc1' := (hb.cell (p := ⟨w.heap.size + 1, 0, none⟩) (show w.heap.size + 1 < W.heap.size by omega)).trans hc1; have hf1' := (hb.frozen (p := ⟨w.heap.size + 1, 0, none⟩) (show w.heap.size + 1 < W.heap.size by omega)).trans hf1)
    all_goals
      have k1 : KeepsOthers W (w'.setCell ⟨w.heap.size + 1, 0, none⟩ (.int .u32 (bits .xor .u32 (List.foldl (hstep key) 0 pre) (winv key x)))) := ((KeepsOthers.drew W).trans (keeps_of_below hb)).trans (KeepsOthers.setCell _ _ _)
      have k2 : (w'.setCell ⟨w.heap.size + 1, 0, none⟩ (.int .u32 (bits .xor .u32 (List.foldl (hstep key) 0 pre) (winv key x)))).heap[w.heap.size + 2]? = W.heap[w.heap.size + 2]? := (Below.heap_setCell _ _ _ _ (by simp)).trans (hb.block _ (show w.heap.size + 2 < W.heap.size by omega))
      have hbw : Below w.heap.size w w' := hB.trans (Below.trans (b := W.drew) ⟨rfl, rfl, rfl, Nat.le_refl _, fun _ _ => rfl⟩ (hb.mono (show w.heap.size ≤ W.heap.size by omega)))
      refine ⟨k1, k2, ⟨⟨?_, ?_, ?_⟩, ?_⟩, ?_⟩
      · exact (World.cell?_of_block (Below.heap_setCell _ _ _ _ (by simp))).trans hc0'
      · rw [List.foldl_append]; exact World.cell?_setCell_same' _ _ _ (by rw [hc1']; rfl)
      · rw [World.frozen?_setCell]; exact hf1'
      · exact Nat.le_trans (Nat.le_trans hs3 hb.size) (KeepsOthers.setCell _ _ _).size
      · exact hbw.setCell (p := ⟨w.heap.size + 1, 0, none⟩) (by simp) _
  case done =>
    rintro D ys W hD rfl ⟨⟨⟨hc0, hc1, hf1⟩, hs3⟩, hB⟩ hK
    gi_wp2
    refine ⟨by simp, .inl ⟨_, _, rfl, run_takeDeferred hK, ?_⟩⟩
    exact ⟨_, results_tmp2 rfl _ _ _, rfl, hB.trans (belowK_b (w := w) (Nat.le_refl _) W D _ _ (by omega) hK rfl rfl)⟩
  case stop =>
    rintro D c pre W _ _ h _
    exact h.elim

theorem F_toeplitz_Hash.ok (k : Nat) : FnOk Try.prog 38 F_toeplitz_Hash.as F_toeplitz_Hash.rt (fun (x : ByteArray × ByteArray) => F_toeplitz_Hash.S k x.1 x.2) := by
  intro x hx w vs hv
  obtain ⟨v1, vs1, F1, F2, rfl, hF, ⟨cs1, ⟨rfl, _⟩, h1⟩, ⟨v2, rfl, cs2, ⟨rfl, _⟩, h2⟩⟩ := hv
  simp only [List.cons.injEq, and_true] at h1 h2
  subst h1 h2
  obtain ⟨key, s⟩ := x
  have fin : ∀ (a b : Int), F_toeplitz_Hash.S k key s = .ok (a, b) → Calls Try.prog 38 #[.string key, .string s] w (fun e w' => e = .returned (.tuple #[.int .u32 a, .int .i64 b]) ∧ Below w.heap.size w w') → Calls Try.prog 38 [Go.Aq.den Go.Aq.ν0 (Go.Aq.Lf.enc .str key), Go.Aq.den Go.Aq.ν0 (Go.Aq.Lf.enc .str s)].toArray w (Go.Aq.FnPost w F_toeplitz_Hash.rt (F_toeplitz_Hash.S k key s)) := by
    intro a b hS h
    refine h.mono ?_
    rintro e w' ⟨rfl, hB⟩
    exact ⟨(a, b), [], hS, ⟨_, rfl, _, _, [], [], rfl, rfl, ⟨_, ⟨rfl, rfl⟩, rfl⟩, ⟨_, rfl, _, ⟨rfl, rfl⟩, rfl⟩⟩, List.nodup_nil, (fun b hb => by cases hb), hB⟩
  by_cases hk : key.size < 4 ∨ 52 < key.size
  · exact fin 0 30 (by unfold F_toeplitz_Hash.S; rw [if_pos hk]) (hash_bad key s hk w)
  · by_cases hs : s.size ≤ 140737488351232
    · exact fin (hsh key s) 0 (by unfold F_toeplitz_Hash.S; rw [if_neg hk, if_pos hs]) (hash_good key s (by omega) hs w)
    · exact absurd (by show F_toeplitz_Hash.S k key s = _; unfold F_toeplitz_Hash.S; rw [if_neg hk, if_neg hs]; rfl) hx
open Go.Aq in
theorem F_toeplitz_Hash.hd {T : Type} (k : Nat) : HdOk Try.prog 38 (pureN (T := T) F_toeplitz_Hash.as F_toeplitz_Hash.rt (fun (x : ByteArray × ByteArray) => F_toeplitz_Hash.S k x.1 x.2)) :=
  pureN_ok rfl rfl (F_toeplitz_Hash.ok k) Try.call38
end Go.Proofs.Ytojomdlccjlioaa
