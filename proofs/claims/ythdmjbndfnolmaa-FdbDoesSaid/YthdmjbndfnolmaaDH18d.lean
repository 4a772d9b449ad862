/- The closure that compares two rows. -/
import Derived.StillTailTactics
import Derived.BigQuiet
import Derived.Deep.QuietTactic
import Derived.WalkKit
import Derived.OwnWalk
import Derived.LoopN
import Derived.Sort.OwnSortedInts
import Derived.Shelf.SlGeneric
import Derived.Shelf.Abstract
import Derived.Lib.Hide
import Derived.Test.YthdmjbndfnolmaaDH18o
namespace Go.Proofs.Ythdmjbndfnolmaa
open Go.RowKit Go.Shelf Go.ChangeMaps Go.Sort
open Go.Aq (sLt)
set_option linter.unusedVariables false
theorem nan_int (x : Int) (w : World) : Calls Try.prog 35 #[.int .i64 x] w fun e w' => e = .returned (.bool false) ∧ w = w' := by
  go_enter Try.func35, Try.ntmps35
  go_wp2
  go_ret
  exact ⟨rfl, rfl⟩
theorem nan_str (x : ByteArray) (w : World) : Calls Try.prog 36 #[.string x] w fun e w' => e = .returned (.bool false) ∧ w = w' := by
  have h : (x.toList != x.toList) = false := by simp
  go_enter Try.func36, Try.ntmps36
  go_wp2
  go_ret
  exact ⟨rfl, rfl⟩
theorem cmp_int (x y : Int) (w : World) : Calls Try.prog 26 #[.int .i64 x, .int .i64 y] w fun e w' => e = .returned (.int .i64 (cmpI x y)) ∧ w' = w := by
  unfold cmpI
  go_enter Try.func26, Try.ntmps26
  go_wp2_with (go_at_call 35; refine (nan_int _ _).mono ?_; rintro e w' ⟨rfl, rfl⟩)
  all_goals
    refine bodyPost_ret (results_tmp rfl _ _ _) rfl ?_
    exact ⟨rfl, rfl⟩
theorem bl_eq (x y : ByteArray) : Op.bytesLess x.toList y.toList = sLt x y := by
  unfold sLt; rw [Go.Aq.bytes_toList, Go.Aq.bytes_toList]
theorem cmp_str (x y : ByteArray) (w : World) : Calls Try.prog 27 #[.string x, .string y] w fun e w' => e = .returned (.int .i64 (cmpT x y)) ∧ w' = w := by
  have h1 := bl_eq x y
  have h2 := Go.Aq.str_eq x y
  by_cases hl : sLt x y = true
  · have hr : cmpT x y = -1 := if_pos hl
    rw [hr]
    rw [hl] at h1
    clear hl hr h2
    go_enter Try.func27, Try.ntmps27
    go_wp2_with (go_at_call 36; refine (nan_str _ _).mono ?_; rintro e w' ⟨rfl, rfl⟩)
    all_goals
      refine bodyPost_ret (results_tmp rfl _ _ _) rfl ?_
      exact ⟨rfl, rfl⟩
  · by_cases he : x = y
    · have hr : cmpT x y = 0 := by unfold cmpT; rw [if_neg hl, if_pos he]
      rw [hr]
      rw [decide_eq_true he] at h2
      rw [Bool.not_eq_true] at hl
      rw [hl] at h1
      have hg : (Go.binOp .gtr 9 (.string x) (.string y)).run Try.prog w = .ok (.bool false) w := by simp [Go.binOp, Op.stringOp, h1, h2]
      clear hl hr he
      go_enter Try.func27, Try.ntmps27
      go_wp2_with (go_at_call 36; refine (nan_str _ _).mono ?_; rintro e w' ⟨rfl, rfl⟩)
      all_goals
        refine bodyPost_ret (results_tmp rfl _ _ _) rfl ?_
        exact ⟨rfl, rfl⟩
    · have hr : cmpT x y = 1 := by unfold cmpT; rw [if_neg hl, if_neg he]
      rw [hr]
      rw [decide_eq_false he] at h2
      rw [Bool.not_eq_true] at hl
      rw [hl] at h1
      have hg : (Go.binOp .gtr 9 (.string x) (.string y)).run Try.prog w = .ok (.bool true) w := by simp [Go.binOp, Op.stringOp, h1, h2]
      clear hl hr he
      go_enter Try.func27, Try.ntmps27
      go_wp2_with (go_at_call 36; refine (nan_str _ _).mono ?_; rintro e w' ⟨rfl, rfl⟩)
      all_goals
        refine bodyPost_ret (results_tmp rfl _ _ _) rfl ?_
        exact ⟨rfl, rfl⟩
theorem or_two (a b : Int) (g : Nat) (W : World) (c0 : W.cell? ⟨g, 0, none⟩ = some (.int .i64 a)) (c1 : W.cell? ⟨g, 1, none⟩ = some (.int .i64 b)) : Calls Try.prog 25 #[.slice (some ⟨g, 0, none⟩) 2 2] W fun e w' => e = .returned (.int .i64 (orI a b)) ∧ W = w' := by
  go_enter Try.func25, Try.ntmps25
  go_wp2
  go_loop [2, 5, 8] (fun r v i => ∃ k : Nat, i = .int .i64 k ∧ k ≤ 2 ∧ (0 < k → a = 0) ∧ (1 < k → b = 0)) (fun r v i => 2 - (intOf i).toNat)
  case atStart => exact ⟨0, rfl, by omega, by omega, by omega⟩
  case round =>
    obtain ⟨k, rfl, hk, ha, hb⟩ := hrel
    by_cases h2 : k = 2
    · subst h2
      have ha' := ha (by omega)
      have hb' := hb (by omega)
      subst ha' hb'
      go_wp2
      go_ret
      exact ⟨rfl, rfl⟩
    · by_cases h1 : k = 1
      · subst h1
        have ha' := ha (by omega)
        subst ha'
        clear ha hb hk h2
        go_wp2
        · rename_i hne _
          refine bodyPost_ret (results_tmp rfl _ _ _) rfl ?_
          exact ⟨by simp [orI], rfl⟩
        · rename_i he
          have he : b = 0 := by simpa using he
          exact ⟨⟨2, rfl, by omega, fun _ => trivial, fun _ => he⟩, by simp [intOf]⟩
      · obtain rfl : k = 0 := by omega
        clear ha hb hk h2 h1
        go_wp2
        · rename_i hne _
          have hne : a ≠ 0 := by simpa using hne
          refine bodyPost_ret (results_tmp rfl _ _ _) rfl ?_
          exact ⟨by simp [orI, hne], rfl⟩
        · rename_i he
          have he : a = 0 := by simpa using he
          exact ⟨⟨1, rfl, by omega, fun _ => he, fun h => by omega⟩, by simp [intOf]⟩
theorem new_cells (W : World) (cs : Array Value) (t : TypeId) (i : Nat) : (W.alloc (.cells cs t)).drew.cell? ⟨W.heap.size, i, none⟩ = cs[i]? := by
  have h : (W.alloc (.cells cs t)).heap[W.heap.size]? = some (.cells cs t (0, 0)) := (MapKept.heap_alloc W _).1
  show (W.alloc (.cells cs t)).cell? _ = _
  simp only [World.cell?, h]
  simp
set_option maxRecDepth 100000 in
set_option maxHeartbeats 1000000 in
theorem closure (x y : Int × ByteArray × Int × Int) (W : World) : Calls Try.prog 24 #[.agg #[.int .i64 x.1, .string x.2.1, .int .i64 x.2.2.1, .int .i64 x.2.2.2], .agg #[.int .i64 y.1, .string y.2.1, .int .i64 y.2.2.1, .int .i64 y.2.2.2]] W fun e w' => e = .returned (.int .i64 (cmpV x y)) ∧ ∃ q os', w' = grow (W.drewN q) os' := by
  obtain ⟨x1, x2, x3, x4⟩ := x
  obtain ⟨y1, y2, y3, y4⟩ := y
  simp only [cmpV]
  have hi := fun w => cmp_int x1 y1 w
  have ht := fun w => cmp_str x2 y2 w
  generalize cmpI x1 y1 = r1 at hi ⊢
  generalize cmpT x2 y2 = r2 at ht ⊢
  have OR := Lib.hid (fun w g h1 h2 => or_two r1 r2 g w h1 h2)
  generalize orI r1 r2 = r3 at OR ⊢
  go_enter Try.func24, Try.ntmps24
  go_wp2
  have n1 : ((W.alloc (.cells #[.int .i64 x1, .string x2, .int .i64 x3, .int .i64 x4] 44)).alloc (.cells #[.int .i64 y1, .string y2, .int .i64 y3, .int .i64 y4] 44)).heap[W.heap.size]? = some (.cells #[.int .i64 x1, .string x2, .int .i64 x3, .int .i64 x4] 44 (0, 0)) :=
    (Go.RowKit.Below.heap_alloc _ _ _ (by simp)).trans (MapKept.heap_alloc W _).1
  have n2 : ((W.alloc (.cells #[.int .i64 x1, .string x2, .int .i64 x3, .int .i64 x4] 44)).alloc (.cells #[.int .i64 y1, .string y2, .int .i64 y3, .int .i64 y4] 44)).heap[W.heap.size + 1]? = some (.cells #[.int .i64 y1, .string y2, .int .i64 y3, .int .i64 y4] 44 (0, 0)) := by
    have := (MapKept.heap_alloc (W.alloc (.cells #[.int .i64 x1, .string x2, .int .i64 x3, .int .i64 x4] 44)) (.cells #[.int .i64 y1, .string y2, .int .i64 y3, .int .i64 y4] 44)).1
    rwa [World.size_alloc] at this
  have n3 : (W.alloc (.cells #[.int .i64 x1, .string x2, .int .i64 x3, .int .i64 x4] 44)).alloc (.cells #[.int .i64 y1, .string y2, .int .i64 y3, .int .i64 y4] 44) = grow (W.drewN 0) (#[.cells #[.int .i64 x1, .string x2, .int .i64 x3, .int .i64 x4] 44] ++ #[.cells #[.int .i64 y1, .string y2, .int .i64 y3, .int .i64 y4] 44]) := by
    rw [alloc_eq_grow, alloc_eq_grow, grow_grow]; rfl
  have N3 := Lib.hid n3
  clear n3
  generalize (W.alloc (.cells #[.int .i64 x1, .string x2, .int .i64 x3, .int .i64 x4] 44)).alloc (.cells #[.int .i64 y1, .string y2, .int .i64 y3, .int .i64 y4] 44) = W1 at n1 n2 N3 ⊢
  have d1 : W1.cell? ⟨W.heap.size, 0, none⟩ = some (.int .i64 x1) := by simp [World.cell?, n1]
  have d2 : W1.cell? ⟨W.heap.size, 1, none⟩ = some (.string x2) := by simp [World.cell?, n1]
  have e1 : W1.cell? ⟨W.heap.size + 1, 0, none⟩ = some (.int .i64 y1) := by simp [World.cell?, n2]
  have e2 : W1.cell? ⟨W.heap.size + 1, 1, none⟩ = some (.string y2) := by simp [World.cell?, n2]
  clear n1 n2
  refine wp_region_still_tail 10 (by kernel_rfl) (by kernel_rfl) ?_
  simp only [List.take_succ_cons, List.take_zero, List.drop_succ_cons, List.drop_zero]
  iterate 4 still_step
  still_call (hi _)
  iterate 4 still_step
  still_call (ht _)
  refine wpStill_nil ?_
  change wpList _ _ _ _ _ W1.drew
  have hEnd : ∃ q os', (W1.alloc (.cells #[.int .i64 r1, .int .i64 r2] 3)).drew = grow (W.drewN q) os' := ⟨1, _, by rw [N3.out, alloc_eq_grow]; show grow (grow (W.drewN 1) _) _ = _; rw [grow_grow]⟩
  have HE := Lib.hid hEnd
  clear hEnd hi ht N3
  go_wp2_with (go_at_call 25; refine (OR.out _ _ (new_cells W1 _ _ 0) (new_cells W1 _ _ 1)).mono ?_; rintro e w' ⟨rfl, rfl⟩)
  refine bodyPost_ret (results_tmp rfl _ _ _) rfl ?_
  exact ⟨rfl, HE.out⟩
end Go.Proofs.Ythdmjbndfnolmaa
