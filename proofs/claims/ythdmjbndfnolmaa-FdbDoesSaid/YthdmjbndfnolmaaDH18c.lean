/- slices.AppendSeq at that iterator: a new row of all values. -/
import Derived.Test.YthdmjbndfnolmaaDH18b
namespace Go.Proofs.Ythdmjbndfnolmaa
open Go.RowKit Go.Shelf Go.ChangeMaps
open Go.Aq (add_plain)
set_option linter.unusedVariables false
attribute [local go_sem] Oper.semAt_some
def cellsVT (v : VT) : List Value := [.int .i64 v.1, .string v.2.1, .int .i64 v.2.2.1, .int .i64 v.2.2.2]
def flatVT (ys : List VT) : List Value := ys.flatMap cellsVT
theorem val_stops (n Bm bm clock : Nat) (zs : List ZT) (hn1 : 1 ≤ n) (w : World) (hB : w.heap[Bm]? = some (.cells #[.map (some bm)] 54 (0, 0))) (hm : w.heap[bm]? = some (.map (arr zs) clock)) (hn : (zs.map (·.1)).Nodup) (hc : ∀ z ∈ zs, z.1 < clock) :
    SeqStopsK Fence.wide n Try.prog 34 #[.pointer (some ⟨Bm, 0, none⟩)] (fun v : VT => #[vv v]) KeepsWalks (fun ys => ys.Perm (zs.map (·.2.2))) (fun _ => True) zs.length w := fun l J Jx W hW hJ _ hY h0 =>
  val1_in n l Bm bm clock zs hn1 J Jx W hJ hY ((hW.block _ (Array.getElem?_eq_some_iff.1 hB).1).trans hB) ((hW.block _ (Array.getElem?_eq_some_iff.1 hm).1).trans hm) hn hc h0
theorem cells_kept {X Y : World} {row : Option Nat} {b : Nat} {cs : Array Value} {t : TypeId} {fz : Nat × Nat} (h : X.heap[b]? = some (.cells cs t fz)) (hg : X.grownBy Y row) (hr : ∀ r, row = some r → ∃ o : Obj, X.heap[r]? = some o ∧ o.isCells = false) : Y.heap[b]? = some (.cells cs t fz) := by
  refine (hg.block b (Array.getElem?_eq_some_iff.1 h).1 fun e => ?_).trans h
  obtain ⟨o, ho, hc⟩ := hr b e.symm
  rw [h] at ho
  cases ho
  cases hc
theorem u30 : Try.prog.underlying 30 = some (.slice 44) := by kernel_rfl
theorem info44 : (Try.prog.info? 44).map (fun i => (i.zero, i.size, i.bytes)) = some (some (.agg #[.int .i64 0, .string ByteArray.empty, .int .i64 0, .int .i64 0]), 4, 40) := by kernel_rfl
set_option maxRecDepth 100000 in
set_option maxHeartbeats 2000000 in
theorem append_in (Bm bm clock : Nat) (zs : List ZT) (w : World) (hB : w.heap[Bm]? = some (.cells #[.map (some bm)] 54 (0, 0))) (hm : w.heap[bm]? = some (.map (arr zs) clock)) (hn : (zs.map (·.1)).Nodup) (hc : ∀ z ∈ zs, z.1 < clock) (hN : zs.length ≤ 1000000) :
    Calls Try.prog 38 #[.slice none 0 0, .func (.func 34) #[] #[.pointer (some ⟨Bm, 0, none⟩)]] w fun e w' => ∃ ys v, ys.Perm (zs.map (·.2.2)) ∧ e = .returned v ∧ w'.ownsRow w.heap.size 44 4 v ys.length (flatVT ys) ∧ Below w.heap.size w w' := by
  refine (callsIn_wide (n := 6)).1 ?_
  refine callsIn_of_wp_marks Try.func38 rfl trivial ?_ rfl
  simp only [Try.ntmps38, List.size_toArray, List.length_cons, List.length_nil, Nat.reduceAdd, Nat.reduceSub, Array.replicate_succ, Array.replicate_zero, List.push_toArray, List.append_toArray, List.nil_append, List.cons_append]
  gi_wp2
  have hbox := Boxed.new w 30 (.slice none 0 0)
  obtain ⟨W0, hW0⟩ : ∃ W0, w.alloc (.cells #[.slice none 0 0] 30) = W0 := ⟨_, rfl⟩
  have hsz : W0.heap.size = w.heap.size + 1 := by rw [← hW0]; simp
  have hB0 : Below w.heap.size w W0 := by rw [← hW0]; exact (Below.refl _ w).alloc (Nat.le_refl _) _
  have hBm : W0.heap[Bm]? = some (.cells #[.map (some bm)] 54 (0, 0)) := (hB0.block _ (Array.getElem?_eq_some_iff.1 hB).1).trans hB
  have hbm : W0.heap[bm]? = some (.map (arr zs) clock) := (hB0.block _ (Array.getElem?_eq_some_iff.1 hm).1).trans hm
  rw [hW0] at hbox ⊢
  clear hW0
  refine wpIn_rangeFunc_ownH rfl (by omega) (gf := 34) (lb := #[.pointer (some ⟨Bm, 0, none⟩)]) rfl trivial (enters_of Try.func34 (by kernel_rfl) rfl)
    (val_stops (6 - 1) Bm bm clock zs (by omega) W0 hBm hbm hn hc) walksK_t walksK_b (Below.refl _ _) (fun _ => rfl)
    (fun pre W => (∃ v, Boxed W w.heap.size 30 v ∧ W.ownsRow w.heap.size 44 4 v pre.length (flatVT pre) ∧ True) ∧ Below w.heap.size w W)
    (fun _ _ _ => False)
    (OwnFrom.and (Own.from (holdsRow_own w.heap.size w.heap.size 30 44 4 (fun pre : List VT => pre.length) (fun pre => flatVT pre) (fun _ _ => True)) _) (ownFrom_below (Nat.le_refl _) (by omega)))
    (fun _ _ _ _ _ hs _ _ => hs)
    ⟨⟨_, hbox, World.ownsRow_nil _ _ _ _, trivial⟩, hB0⟩
    (fun x a' W => ∃ Bx, w.heap.size < Bx ∧ W.heap[Bx]? = some (.cells #[.int .i64 x.1, .string x.2.1, .int .i64 x.2.2.1, .int .i64 x.2.2.2] 44 (0, 0)) ∧ a' = { tmps := #[.slice none 0 0, .func (.func 34) #[] #[.pointer (some ⟨Bm, 0, none⟩)], .pointer (some ⟨w.heap.size, 0, none⟩), undef, .slice none 0 0, .pointer (some ⟨Bx, 0, none⟩), .func (.func 34) #[] #[.pointer (some ⟨Bm, 0, none⟩)], vv x, undef, undef, undef, undef, undef], defers := [] })
    (fun x a' _ X Y row hs hg hr => by obtain ⟨Bx, h1, h2, h3⟩ := hs; exact ⟨Bx, h1, cells_kept h2 hg (fun r e => (hr r e).2), h3⟩)
    ?assign ?body ?done ?stop
  case assign =>
    rintro l pre x W K ⟨⟨v, hv, hrow, _⟩, hB1⟩ hK
    obtain ⟨x1, x2, x3, x4⟩ := x
    simp only [vv] at hK ⊢
    gi_wp2
    exact hK _ _ ((KeepsOthers.alloc _ _).from _) (KeepsWalks.alloc _ _) ⟨⟨v, hv.alloc _, hrow.alloc _, trivial⟩, hB1.alloc hB1.size _⟩ ⟨W.heap.size, hv.lt, (MapKept.heap_alloc W _).1, rfl⟩
  case body =>
    rintro l pre x a' W hl ⟨r, hr⟩ ⟨⟨v, hv, hrow, _⟩, hB1⟩ ⟨Bx, hBx, bX, rfl⟩ hlt
    obtain ⟨x1, x2, x3, x4⟩ := x
    simp only [vv] at bX ⊢
    have cv := hv.cell
    have c0 : W.cell? ⟨Bx, 0, none⟩ = some (.int .i64 x1) := cells_at bX 0
    have c1 : W.cell? ⟨Bx, 1, none⟩ = some (.string x2) := cells_at bX 1
    have c2 : W.cell? ⟨Bx, 2, none⟩ = some (.int .i64 x3) := cells_at bX 2
    have c3 : W.cell? ⟨Bx, 3, none⟩ = some (.int .i64 x4) := cells_at bX 3
    have cAll : ∀ (W : World) (o : Obj), (W.alloc o).heap[W.heap.size]? = some o := fun W o => (MapKept.heap_alloc W o).1
    obtain ⟨i0, hi, hz0, hz1, hz2⟩ := info_parts info44
    have CA := Lib.hid cAll
    have HX := Lib.hid bX
    clear cAll bX
    gi_wp2_with (gi_at_builtin; go_loud (refine wpListIn_append_own _ rfl _ _ 30 rfl w.heap.size 44 i0 _ 4 40 u30 hi hz0 hz1 hz2 rfl (by decide) _ _ _ rfl (hrow.alloc _) ⟨W.heap.size, 0, none⟩ 1 1 (cellsVT (x1, x2, x3, x4)) rfl rfl (fun j u hu => by rw [add_plain, Nat.zero_add]; rw [cells_at (CA.out _ _), ← Array.getElem?_toList]; exact hu) (by intro u hu; simp [cellsVT] at hu; rcases hu with rfl | rfl | rfl | rfl <;> rfl) (by unfold maxLen; omega) (by omega) (by have := hB1.size; simp; omega) ?_; intro v' w1 hown' hgrow _; obtain ⟨g', cap', rfl⟩ := ownsRow_succ hown'; obtain ⟨hv1, hv2, hr2, hk2, hb2⟩ := hv.appended (by decide) hrow hB1.size (Nat.le_refl _) hown' hgrow; have hc1 := hv1.cell; have hf1 := hv1.frozen))
    refine ⟨hk2.from _, ?_, ⟨⟨_, hv2, by have e : flatVT (pre ++ [(x1, x2, x3, x4)]) = flatVT pre ++ cellsVT (x1, x2, x3, x4) := by simp [flatVT]
                                         rw [e, List.length_append]; exact hr2, trivial⟩, hB1.trans hb2⟩⟩
    exact hk2.walks
  case done =>
    rintro D ys W hD hys ⟨⟨v, hv, hrow, _⟩, hB1⟩ hK
    have cv := hv.cell
    have HY := Lib.hid hys
    clear hys
    gi_wp2
    refine ⟨by simp, .inl ⟨_, _, rfl, run_takeDeferred hK, ?_⟩⟩
    exact ⟨_, results_tmp rfl _ _ _, ys, v, HY.out, rfl, ownsRow_putObj hrow _ hK rfl, hB1.trans (belowK_b (w := w) (Nat.le_refl _) W D _ _ (by omega) hK rfl rfl)⟩
  case stop =>
    rintro D c pre W _ _ h _
    exact h.elim
end Go.Proofs.Ythdmjbndfnolmaa
