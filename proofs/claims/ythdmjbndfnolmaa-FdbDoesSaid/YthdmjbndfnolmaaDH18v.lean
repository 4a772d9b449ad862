/- maps.Values and slices.Collect at an fdb's map, by walks. -/
import Derived.Test.YthdmjbndfnolmaaDH18w
import Derived.Test.YthdmjbndfnolmaaDH18d
namespace Go.Proofs.Ythdmjbndfnolmaa
open Go.RowKit Go.Shelf Go.ChangeMaps
set_option linter.unusedVariables false
set_option maxRecDepth 100000 in
theorem values_raw (bm : Nat) (w : World) : Calls Try.prog 23 #[.map (some bm)] w fun e w' => e = .returned (.func (.func 34) #[] #[.pointer (some ⟨w.heap.size, 0, none⟩)]) ∧ w' = w.alloc (.cells #[.map (some bm)] 54 (0, 0)) := by
  go_enter Try.func23, Try.ntmps23
  go_wp2
  refine bodyPost_ret (results_tmp rfl _ _ _) rfl ?_
  exact ⟨rfl, rfl⟩
set_option maxRecDepth 100000 in
theorem collect_raw (Bm bm clock : Nat) (zs : List ZT) (w : World) (hB : w.heap[Bm]? = some (.cells #[.map (some bm)] 54 (0, 0))) (hm : w.heap[bm]? = some (.map (arr zs) clock)) (hn : (zs.map (·.1)).Nodup) (hc : ∀ z ∈ zs, z.1 < clock) (hN : zs.length ≤ 1000000) :
    Calls Try.prog 32 #[.func (.func 34) #[] #[.pointer (some ⟨Bm, 0, none⟩)]] w fun e w' => ∃ ys v, ys.Perm (zs.map (·.2.2)) ∧ e = .returned v ∧ w'.ownsRow w.heap.size 44 4 v ys.length (flatVT ys) ∧ Below w.heap.size w w' := by
  have HA := Lib.hid (append_in Bm bm clock zs w hB hm hn hc hN)
  clear hB hm hn hc hN
  go_enter Try.func32, Try.ntmps32
  go_wp2_with (go_at_call 38; refine HA.out.mono ?_; rintro e w' ⟨ys, v, hp, rfl, hown, hB⟩)
  refine bodyPost_ret (results_tmp rfl _ _ _) rfl ?_
  exact ⟨ys, v, hp, rfl, hown, hB⟩
end Go.Proofs.Ythdmjbndfnolmaa
