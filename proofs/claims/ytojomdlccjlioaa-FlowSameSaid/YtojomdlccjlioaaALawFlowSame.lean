/- The row of the law FlowSame, out of its plain function's law: whatever the input, it returns true, and the input reads as it did.
   Conditions: none but the row's own. -/
import Derived.Test.YtojomdlccjlioaaRows
import Derived.Test.YtojomdlccjlioaaAPureFlowSame
import Derived.WalkKit
import Derived.ProofKit
import Derived.OpenShut
import Derived.ShutString
import Derived.ChangeOld
import Derived.Below
import Derived.SizedLaws
import Derived.Test.YtojomdlccjlioaaV16
import Derived.Carry
namespace Go.Proofs.Ytojomdlccjlioaa.flowSame
open Go.ChangeShapes Go.WideShapes Go.ChangeAt Go.RowKit
open Go.ChangeMaps (open_string shut_string)
open Go.Aq
set_option linter.unusedVariables false
theorem own : ownKnob Try.prog.godebug = none := by kernel_rfl
theorem laid : laidOutB Try.prog = true := by kernel_rfl
set_option maxRecDepth 100000 in
theorem lifted (os : Os) (started : os.Started) (H : Type) (enc : TypeId × Value → H) :
    ReturnsInHanded {} Try.checked os 6 .any (Rows.flowSameSpec.pre6 enc Try.prog Try.f6 Rows.flowSameRow.domain false) (Rows.flowSameSpec.post enc Try.prog Try.f6 false true false false) := by
  refine returnsInHanded_of_change_sized (C := Try.checked) own started (by kernel_rfl) Try.func6
    (ChangeSpec.witness6 (enc := enc) (C := Try.checked) false ⟨#[], #[.agg #[.int .i64 0, .string ByteArray.empty, .string ByteArray.empty, .int .i64 0, .int .i64 0, .int .i64 0, .int .i64 0, .int .i64 0, .int .i64 0, .int .i64 0, .string ByteArray.empty, .string ByteArray.empty], .agg #[.int .i64 0, .int .i64 0, .int .u32 0, .int .u32 0, .int .i64 0, .int .i64 0, .int .i64 0, .string ByteArray.empty, .string ByteArray.empty, .bool false], .int .i64 0], []⟩ 8 (by kernel_rfl) (by kernel_rfl) (by kernel_rfl) (by kernel_rfl)) ?_
  intro W base args ds gs before hval0 hW hcnd hsz0 _
  have hsz : (DataW.weightsEach Try.prog (Try.f6.params.toList ++ Rows.flowSameSpec.plain.varTypes Try.prog) (ds ++ gs)).all (· ≤ reachBytes) = true := hsz0
  have hval : ∀ (j : Nat) t v, Try.f6.params[j]? = some t → args[j]? = some v → Value.okWide Try.prog W .any base t v := hval0
  have hW' := hW
  obtain ⟨p, q, hA0, hV, rfl, hfz, hnd⟩ := hW
  have hA : DataW.TrodAll enc Try.prog W 0 (fun _ => true) true Try.f6.params.toList args.toList ds p := hA0
  rw [Try.params6] at hA hval hsz
  obtain ⟨v0, vs0, d0, ds0, p0, q0, hargs, rfl, rfl, h0, r0⟩ := trodAll_cons hA
  obtain ⟨v1, vs1, d1, ds1, p1, q1, rfl, rfl, rfl, h1, r1⟩ := trodAll_cons r0
  obtain ⟨v2, vs2, d2, ds2, p2, q2, rfl, rfl, rfl, h2, r2⟩ := trodAll_cons r1
  obtain ⟨rfl, rfl, rfl⟩ := trodAll_nil r2
  obtain rfl : args = #[v0, v1, v2] := by cases args; simp_all
  obtain ⟨rfl, rfl⟩ := trodVars_none hV
  obtain ⟨a0, ra0, w0⟩ := open_agg (f := .cons (.leaf (.int .i64)) (.cons (.leaf .str) (.cons (.leaf .str) (.cons (.leaf (.int .i64)) (.cons (.leaf (.int .i64)) (.cons (.leaf (.int .i64)) (.cons (.leaf (.int .i64)) (.cons (.leaf (.int .i64)) (.cons (.leaf (.int .i64)) (.cons (.leaf (.int .i64)) (.cons (.leaf .str) (.one (.leaf .str))))))))))))) ⟨_, Try.underlying30, ⟨rfl, by kernel_rfl, Try.underlying3, ⟨rfl, by kernel_rfl, Try.underlying9, ⟨rfl, by kernel_rfl, Try.underlying9, ⟨rfl, by kernel_rfl, Try.underlying3, ⟨rfl, by kernel_rfl, Try.underlying3, ⟨rfl, by kernel_rfl, Try.underlying3, ⟨rfl, by kernel_rfl, Try.underlying3, ⟨rfl, by kernel_rfl, Try.underlying3, ⟨rfl, by kernel_rfl, Try.underlying3, ⟨rfl, by kernel_rfl, Try.underlying3, ⟨rfl, by kernel_rfl, Try.underlying9, ⟨rfl, by kernel_rfl, Try.underlying9⟩⟩⟩⟩⟩⟩⟩⟩⟩⟩⟩⟩, by kernel_rfl⟩ (hval 0 30 v0 rfl rfl) h0
  obtain ⟨a1, ra1, w1⟩ := open_agg (f := .cons (.leaf (.int .i64)) (.cons (.leaf (.int .i64)) (.cons (.leaf (.int .u32)) (.cons (.leaf (.int .u32)) (.cons (.leaf (.int .i64)) (.cons (.leaf (.int .i64)) (.cons (.leaf (.int .i64)) (.cons (.leaf .str) (.cons (.leaf .str) (.one (.leaf .bool))))))))))) ⟨_, Try.underlying33, ⟨rfl, by kernel_rfl, Try.underlying3, ⟨rfl, by kernel_rfl, Try.underlying3, ⟨rfl, by kernel_rfl, Try.underlying31, ⟨rfl, by kernel_rfl, Try.underlying31, ⟨rfl, by kernel_rfl, Try.underlying3, ⟨rfl, by kernel_rfl, Try.underlying3, ⟨rfl, by kernel_rfl, Try.underlying3, ⟨rfl, by kernel_rfl, Try.underlying9, ⟨rfl, by kernel_rfl, Try.underlying9, ⟨rfl, by kernel_rfl, Try.underlying4⟩⟩⟩⟩⟩⟩⟩⟩⟩⟩, by kernel_rfl⟩ (hval 1 33 v1 rfl rfl) h1
  obtain ⟨a2, rfl, rfl, rfl, w2⟩ := open_int Try.underlying3 (hval 2 3 v2 rfl rfl) h2
  clear hA0 hval0 hsz0 hsz
  obtain ⟨k, hk⟩ := Pure.FlowSame a0 a1 a2 w0 w1 w2
  refine ((F_aqueductlaw09_FlowSame.ok k).law (x := (a0, a1, a2)) hk (vs := [v0, v1, .int .i64 a2]) ⟨_, _, [], [], rfl, rfl, ra0, ⟨_, _, [], [], rfl, rfl, ra1, ⟨_, rfl, ⟨_, ⟨rfl, rfl⟩, rfl⟩⟩⟩⟩ rfl).mono fun e W' ⟨he, bel⟩ => ?_
  subst he
  exact ⟨_, rfl, _, _, _, [], _, [], hW', trodAll_mk1 (shut_bool Try.underlying4 _), (trodAll_cons_mk (Below.trod laid (by kernel_rfl) (by decide +kernel) h0 bel fun x hx => DataW.TrodAll.lt (show DataW.TrodAll enc Try.prog W 0 (fun _ => true) true [30] [v0] [d0] p0 from ⟨p0, [], h0, rfl, by simp⟩) x hx) (trodAll_cons_mk (Below.trod laid (by kernel_rfl) (by decide +kernel) h1 bel fun x hx => DataW.TrodAll.lt (show DataW.TrodAll enc Try.prog W 0 (fun _ => true) true [33] [v1] [d1] p1 from ⟨p1, [], h1, rfl, by simp⟩) x hx) (trodAll_cons_mk (shut_int Try.underlying3 w2) trodAll_mk0))), rfl, bel.frame _, fun h => by cases h⟩
theorem over : Rows.flowSameRow.holds Try.pinned (OpenSpec.ofChange Rows.flowSameSpec) :=
  OpenClaim.holds_of_wide 6 Try.f6 rfl rfl rfl rfl rfl rfl rfl ⟨rfl, rfl, rfl, rfl, rfl⟩ rfl rfl rfl rfl rfl (by kernel_rfl) Try.func6 (by kernel_rfl)
    (of_decide_eq_true (by kernel_rfl)) (by unfold Func.isWrapper; first | (rw [if_pos (by decide +kernel)]; kernel_rfl) | (rw [if_neg (by decide +kernel)]; exact ⟨rfl, rfl⟩))
    (fun os started H enc _ => lifted os started H enc)
theorem proved : Rows.FlowSameSaid := over
#print axioms proved
end Go.Proofs.Ytojomdlccjlioaa.flowSame
namespace Go.Proofs.Ytojomdlccjlioaa
/-- The row, under a short name, for the claim. -/
theorem flowSame_holds : Rows.FlowSameSaid := flowSame.proved
end Go.Proofs.Ytojomdlccjlioaa
