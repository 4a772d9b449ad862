/- The row of the law BridgeDoes, out of its plain function's law: whatever the input, it returns true, and the input reads as it did.
   Conditions: none but the row's own. -/
import Derived.Test.YtkihcmcaignmkaaGreatRows
import Derived.Test.YtkihcmcaignmkaaGreatDM7
import Derived.WalkKit
import Derived.ProofKit
import Derived.OpenShut
import Derived.ShutString
import Derived.ChangeOld
import Derived.Below
import Derived.SizedLaws
import Derived.Test.YtkihcmcaignmkaaGreatE5
import Derived.Carry
namespace Go.Proofs.YtkihcmcaignmkaaGreat.bridgeDoes
open Go.ChangeShapes Go.WideShapes Go.ChangeAt Go.RowKit
open Go.ChangeMaps (open_string shut_string)
open Go.Aq
set_option linter.unusedVariables false
theorem own : ownKnob Tryz.prog.godebug = none := by kernel_rfl
theorem laid : laidOutB Tryz.prog = true := by kernel_rfl
set_option maxRecDepth 100000 in
theorem lifted (os : Os) (started : os.Started) (H : Type) (enc : TypeId × Value → H) :
    ReturnsInHanded {} Tryz.checked os 3 .any (Rows.bridgeDoesSpec.pre6 enc Tryz.prog Tryz.f3 Rows.bridgeDoesRow.domain false) (Rows.bridgeDoesSpec.post enc Tryz.prog Tryz.f3 false true false false) := by
  refine returnsInHanded_of_change_sized (C := Tryz.checked) own started (by kernel_rfl) Tryz.func3
    (ChangeSpec.witness6 (enc := enc) (C := Tryz.checked) false ⟨#[], #[.agg #[.slice none 0 0, .int .i64 0, .int .i64 0, .int .i64 0, .slice none 0 0]], []⟩ 8 (by kernel_rfl) (by kernel_rfl) (by kernel_rfl) (by kernel_rfl)) ?_
  intro W base args ds gs before hval0 hW hcnd hsz0 _
  have hsz : (DataW.weightsEach Tryz.prog (Tryz.f3.params.toList ++ Rows.bridgeDoesSpec.plain.varTypes Tryz.prog) (ds ++ gs)).all (· ≤ reachBytes) = true := hsz0
  have hval : ∀ (j : Nat) t v, Tryz.f3.params[j]? = some t → args[j]? = some v → Value.okWide Tryz.prog W .any base t v := hval0
  have hW' := hW
  obtain ⟨p, q, hA0, hV, rfl, hfz, hnd⟩ := hW
  have hA : DataW.TrodAll enc Tryz.prog W 0 (fun _ => true) true Tryz.f3.params.toList args.toList ds p := hA0
  rw [Tryz.params3] at hA hval hsz
  obtain ⟨v0, vs0, d0, ds0, p0, q0, hargs, rfl, rfl, h0, r0⟩ := trodAll_cons hA
  obtain ⟨rfl, rfl, rfl⟩ := trodAll_nil r0
  obtain rfl : args = #[v0] := by cases args; simp_all
  obtain ⟨rfl, rfl⟩ := trodVars_none hV
  obtain ⟨a0, ra0, w0⟩ := open_sh (α := fun _ => .pointer none) (f := .cons (.tab false 58 (.cons (.leaf (.int .i64)) (.one (.row false 3 [.int .i64]) []))) (.cons (.leaf (.int .i64)) (.cons (.leaf (.int .i64)) (.cons (.leaf (.int .i64)) (.one (.row false 31 [.int .i64, .int .i64, .str]) []))))) ⟨_, Tryz.underlying25, ⟨rfl, by kernel_rfl, ⟨rfl, Tryz.underlying22, by kernel_rfl, by decide +kernel, _, Tryz.underlying58, ⟨rfl, by kernel_rfl, Tryz.underlying3, ⟨rfl, by kernel_rfl, ⟨rfl, Tryz.underlying32, by kernel_rfl, (fun h => by cases h), .leaf (.int .i64), rfl, Tryz.underlying3⟩⟩⟩⟩, ⟨rfl, by kernel_rfl, Tryz.underlying3, ⟨rfl, by kernel_rfl, Tryz.underlying3, ⟨rfl, by kernel_rfl, Tryz.underlying3, ⟨rfl, by kernel_rfl, ⟨rfl, Tryz.underlying23, by kernel_rfl, (fun h => by cases h), .agg (.cons (.leaf (.int .i64)) (.cons (.leaf (.int .i64)) (.one (.leaf .str) []))), rfl, ⟨_, Tryz.underlying31, ⟨rfl, by kernel_rfl, Tryz.underlying3, ⟨rfl, by kernel_rfl, Tryz.underlying3, ⟨rfl, by kernel_rfl, Tryz.underlying9⟩⟩⟩, by kernel_rfl⟩⟩⟩⟩⟩⟩⟩, by kernel_rfl⟩ (hval 0 25 v0 rfl rfl) h0
  clear hA0 hval0 hsz0 hsz
  obtain ⟨k, hk⟩ := Pure.BridgeDoes a0 w0
  refine ((F_aqueductlaw20_BridgeDoes.ok k).law (x := (a0)) hk (vs := [v0]) ⟨_, rfl, ra0⟩ rfl).mono fun e W' ⟨he, bel⟩ => ?_
  subst he
  exact ⟨_, rfl, _, _, _, [], _, [], hW', trodAll_mk1 (shut_bool Tryz.underlying4 _), (trodAll_cons_mk (Below.trod laid (by kernel_rfl) (by decide +kernel) h0 bel fun x hx => DataW.TrodAll.lt (show DataW.TrodAll enc Tryz.prog W 0 (fun _ => true) true [25] [v0] [d0] p0 from ⟨p0, [], h0, rfl, by simp⟩) x hx) trodAll_mk0), rfl, bel.frame _, fun h => by cases h⟩
theorem over : Rows.bridgeDoesRow.holds Tryz.pinned (OpenSpec.ofChange Rows.bridgeDoesSpec) :=
  OpenClaim.holds_of_wide 3 Tryz.f3 rfl rfl rfl rfl rfl rfl rfl ⟨rfl, rfl, rfl, rfl, rfl⟩ rfl rfl rfl rfl rfl (by kernel_rfl) Tryz.func3 (by kernel_rfl)
    (of_decide_eq_true (by kernel_rfl)) (by unfold Func.isWrapper; first | (rw [if_pos (by decide +kernel)]; kernel_rfl) | (rw [if_neg (by decide +kernel)]; exact ⟨rfl, rfl⟩))
    (fun os started H enc _ => lifted os started H enc)
theorem proved : Rows.BridgeDoesSaid := over
#print axioms proved
end Go.Proofs.YtkihcmcaignmkaaGreat.bridgeDoes
namespace Go.Proofs.YtkihcmcaignmkaaGreat
/-- The row, under a short name, for the claim. -/
theorem bridgeDoes_holds : Rows.BridgeDoesSaid := bridgeDoes.proved
end Go.Proofs.YtkihcmcaignmkaaGreat
