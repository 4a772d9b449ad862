/- Held and maps.Clone as callees of the evaluator. -/
import Derived.Shelf.SlMaps.Clone
import Derived.Test.YtpfddjdkafjjfaaGreatDH15h
namespace Go.Proofs.YtpfddjdkafjjfaaGreat
open Go.Aq Go.RowKit
set_option linter.unusedVariables false
theorem flat_int : ∀ xs : List Int, Go.Aq.flat [.int .i64] xs = xs.map Go.encZ
  | [] => rfl
  | x :: xs => by
    rw [List.map_cons, ← flat_int xs]
    rfl
theorem rowSat_int {w : World} {base : Nat} {v : Value} {xs : List Int} (h : w.ownsRow base 3 1 v xs.length (xs.map Go.encZ)) :
    RowSat w v true 3 [.int .i64] xs ∧ ∀ b, mineOf v (.row true 3 [.int .i64] xs) = some b → base ≤ b := by
  rcases h.2 with ⟨rfl, h0⟩ | ⟨g, cap, cur, rfl, hg, hcell, h1, h2, h3, h4⟩
  · have hy : xs = [] := by
      have := h.1
      cases xs with
      | nil => rfl
      | cons y ys => rw [List.length_cons] at h0; omega
    subst hy
    exact ⟨.inl ⟨rfl, rfl⟩, fun b hb => by simp [mineOf] at hb⟩
  · refine ⟨.inr ⟨⟨g, 0, none⟩, cap, rfl, h1, (fun h => by cases h), fun _ => ⟨rfl, rfl, h2, cur, (0, 0), hcell, h3, ?_, by rw [flat_int]; exact h4⟩⟩, fun b hb => by simp only [mineOf, Option.some.injEq] at hb; omega⟩
    exact fun i _ h => by simp at h
namespace F_drvq_Queue_Held
noncomputable def h {T : Type} : Hd T := fun args _ st K _ => match args with
  | [.ptr j 0] => match lkp j st.H with
    | some (.cells _ [_, _, _, _, _, _, _, _, _, _, _, _, _, .mp m]) => match lkp m st.H with
      | some (.map _ false false [.int .i64] [.int .i64] es) => O.chk (heldOk es) (K (.osl st.nx) (st.add (.row true 3 [.int .i64] (heldL es))))
      | _ => .no
    | _ => .no
  | _ => .no
theorem hd {T : Type} (k : Nat) : HdOk Tryz.prog 57 (h (T := T)) := by
  intro args sl st K Kp hne
  refine ⟨Tryz.call57, fun S w0 ν w hR hb => ?_⟩
  unfold h at hne ⊢
  split at hne
  · rename_i j
    split at hne
    · rename_i t x0 x1 x2 x3 x4 x5 x6 x7 x8 x9 x10 x11 x12 m hj
      split at hne
      · rename_i t' es hm
        obtain ⟨b0, hb0, hc⟩ := hR.sat _ _ hj
        obtain ⟨bm, hbm, hs⟩ := hR.sat _ _ hm
        obtain ⟨hok, _⟩ := O.chk_ne rfl hne
        have hden : denL ν [.ptr j 0] = [.pointer (some ⟨b0, 0, none⟩)] := by simp only [denL, den, hb0]; rfl
        rw [hden]
        have c13 : w.cell? ⟨b0, 13, none⟩ = some (.map (some bm)) := by
          unfold World.cell?
          rw [hc]
          simp [denL, den, hbm, mpV]
        refine (held_raw b0 bm es w c13 hs hok).mono ?_
        rintro e w' ⟨v, rfl, hown, hB⟩
        obtain ⟨hrow, hge⟩ := rowSat_int hown
        have hR' : RelW S w0 (upd ν st.nx v) (st.add (.row true 3 [.int .i64] (heldL es))) w' := by
          refine hR.new (w' := w') ⟨hB.os, hB.tape, hB.output, hB.size⟩ v _ st.H st.dirty (fun j o' hj => hj) (fun j o' b hj hb => hB.block b (hoSat_lt (hR.sat j o' hj) b hb)) (fun b hb _ => hB.block b (Nat.lt_of_lt_of_le hb hR.size)) rfl ?_ ?_ ?_ ?_
          · exact ⟨by simp, by rw [upd_new]; exact hrow⟩
          · intro j o' b hj hb hb'
            have h1 := hoSat_lt (hR.sat j o' hj) b (mine_on hb)
            have h2 := hge b hb'
            omega
          · intro b hb
            exact .inr (Nat.le_trans hR.size (hge b hb))
          · intro b hb
            simp [seenOf] at hb
        refine ⟨_, _, .osl st.nx, hR', ⟨Nat.le_succ _, fun j hj => upd_old hj, id, hB.size, fun _ j hj => hB.block j hj⟩, ?_, by simp [svLt, St.add], ?_⟩
        · simp only [den, upd_new]
          exact (hdr_row (hrow.rowVal (by simp))).symm
        · rw [hok, O.chk_true]
      · exact absurd rfl hne
    · exact absurd rfl hne
  · exact absurd rfl hne
end F_drvq_Queue_Held
theorem u93 : Tryz.prog.underlying 76 = some (.map 3 3) := by kernel_rfl
set_option maxRecDepth 100000 in
set_option maxHeartbeats 2000000 in
theorem clone_raw (b : Nat) (es : Array MapEntry) (clock : Nat) (w : World) (hb : w.heap[b]? = some (.map es clock)) :
    Calls Tryz.prog 52 #[.map (some b)] w fun e w' => e = .returned (.map (some w.heap.size)) ∧ w' = w.alloc (.map es clock) := by
  have hq := fun w => run_eql_map_nil_sl (P := Tryz.prog) w 76 _ _ (some b) u93
  go_enter Tryz.func52, Tryz.ntmps52
  go_wp2
  rw [run_callFunc_extern Tryz.func73 (by kernel_rfl) (by kernel_rfl) (by kernel_rfl) (e := Extern.MapsClone.clone) (by kernel_rfl), run_maps_clone_sl w 76 hb]
  simp only [Result.andThen]
  rw [Oper.upon_value]
  go_wp2
  rw [run_typeAssert_map_sl _ 76 20 _ _ _ u93]
  simp only [Result.andThen]
  rw [Oper.upon_value]
  go_wp2
  go_ret
  exact ⟨rfl, rfl⟩
namespace F_maps_Clone
/-- maps.Clone as a callee: one more map, as the old one. -/
noncomputable def h {T : Type} : Hd T := fun args _ st K _ => match args with
  | [.mp j] => match lkp j st.H with
    | some (.map t ka va kl vl es) => K (.mp st.nx) (st.add (.map t ka va kl vl es))
    | _ => .no
  | _ => .no
theorem hd {T : Type} (k : Nat) : HdOk Tryz.prog 52 (h (T := T)) := by
  intro args sl st K Kp hne
  refine ⟨Tryz.call52, fun S w0 ν w hR hb => ?_⟩
  unfold h at hne ⊢
  split at hne
  · rename_i j
    split at hne
    · rename_i t ka va kl vl es hj
      obtain ⟨b, hb', ms, clock, hms, h2, h3, h4, h5⟩ := hR.sat _ _ hj
      have hden : denL ν [.mp j] = [.map (some b)] := by simp only [denL, den, hb']; rfl
      rw [hden]
      refine (clone_raw b ms clock w hms).mono ?_
      rintro e w' ⟨rfl, rfl⟩
      have hfr := hR.fresh (.map ms clock) (.map (some w.heap.size)) (.map t ka va kl vl es) rfl ⟨w.heap.size, upd_new, ms, clock, (MapKept.heap_alloc w _).1, h2, h3, h4, h5⟩ (fun c hc => by simpa [mineOf, blk] using hc.symm) rfl
      refine ⟨_, _, .mp st.nx, hfr, Step.add _ _ _ _ _ _, ?_, by simp [svLt, St.add], ?_⟩
      · simp [den, upd, mpV]
      · rfl
    · exact absurd rfl hne
  · exact absurd rfl hne
end F_maps_Clone
end Go.Proofs.YtpfddjdkafjjfaaGreat
