/- maps.Clone at an fdb's map: a new map with the old entries; as a callee of the evaluator. -/
import Derived.Shelf.SlMaps.Clone
import Derived.Test.YthdmjbndfnolmaaDH18t
namespace Go.Proofs.Ythdmjbndfnolmaa
open Go.Aq Go.RowKit
set_option linter.unusedVariables false
set_option maxRecDepth 100000 in
set_option maxHeartbeats 2000000 in
theorem clone_raw (b : Nat) (es : Array MapEntry) (clock : Nat) (w : World) (hb : w.heap[b]? = some (.map es clock)) :
    Calls Try.prog 31 #[.map (some b)] w fun e w' => e = .returned (.map (some w.heap.size)) ∧ w' = w.alloc (.map es clock) := by
  have hq := fun w => run_eql_map_nil_sl (P := Try.prog) w 54 _ _ (some b) u54
  go_enter Try.func31, Try.ntmps31
  go_wp2
  rw [run_callFunc_extern Try.func37 (by kernel_rfl) (by kernel_rfl) (by kernel_rfl) (e := Extern.MapsClone.clone) (by kernel_rfl), run_maps_clone_sl w 54 hb]
  simp only [Result.andThen]
  rw [Oper.upon_value]
  go_wp2
  rw [run_typeAssert_map_sl _ 54 20 _ _ _ u54]
  simp only [Result.andThen]
  rw [Oper.upon_value]
  go_wp2
  go_ret
  exact ⟨rfl, rfl⟩
namespace F_maps_Clone
/-- maps.Clone as a callee: one more map, as the old one. -/
noncomputable def h {T : Type} : Hd T := fun args _ st K _ => match args with
  | [.mp j] => match lkp j st.H with
    | some (.map t ka va kl vl es) => K (.mp st.nx) (st.add (.map t ka va kl vl es))
    | _ => .no
  | _ => .no
theorem hd {T : Type} (k : Nat) : HdOk Try.prog 31 (h (T := T)) := by
  intro args sl st K Kp hne
  refine ⟨Try.call31, fun S w0 ν w hR hb => ?_⟩
  unfold h at hne ⊢
  split at hne
  · rename_i j
    split at hne
    · rename_i t ka va kl vl es hj
      obtain ⟨b, hb', ms, clock, hms, h2, h3, h4, h5⟩ := hR.sat _ _ hj
      have hden : denL ν [.mp j] = [.map (some b)] := by simp only [denL, den, hb']; rfl
      rw [hden]
      refine (clone_raw b ms clock w hms).mono ?_
      rintro e w' ⟨rfl, rfl⟩
      have hfr := hR.fresh (.map ms clock) (.map (some w.heap.size)) (.map t ka va kl vl es) rfl ⟨w.heap.size, upd_new, ms, clock, (MapKept.heap_alloc w _).1, h2, h3, h4, h5⟩ (fun c hc => by simpa [mineOf, blk] using hc.symm) rfl
      refine ⟨_, _, .mp st.nx, hfr, Step.add _ _ _ _ _ _, ?_, by simp [svLt, St.add], ?_⟩
      · simp [den, upd, mpV]
      · rfl
    · exact absurd rfl hne
  · exact absurd rfl hne
end F_maps_Clone
end Go.Proofs.Ythdmjbndfnolmaa
