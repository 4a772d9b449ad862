/- The row of the law BridgeKnown, out of its plain function's law: whatever the input, it returns true, and the input reads as it did.
   Conditions: none but the row's own. -/
import Derived.Test.YtkihcmcaignmkaaRows
import Derived.Test.YtkihcmcaignmkaaKM11
import Derived.WalkKit
import Derived.ProofKit
import Derived.OpenShut
import Derived.ShutString
import Derived.ChangeOld
import Derived.Below
import Derived.SizedLaws
import Derived.Test.YtkihcmcaignmkaaKM5
import Derived.Carry
namespace Go.Proofs.Ytkihcmcaignmkaa.bridgeKnown
open Go.ChangeShapes Go.WideShapes Go.ChangeAt Go.RowKit
open Go.ChangeMaps (open_string shut_string)
open Go.Aq
set_option linter.unusedVariables false
theorem own : ownKnob Try.prog.godebug = none := by kernel_rfl
theorem laid : laidOutB Try.prog = true := by kernel_rfl
set_option maxRecDepth 100000 in
theorem lifted (os : Os) (started : os.Started) (H : Type) (enc : TypeId × Value → H) :
    ReturnsInHanded {} Try.checked os 4 .any (Rows.bridgeKnownSpec.pre6 enc Try.prog Try.f4 Rows.bridgeKnownRow.domain false) (Rows.bridgeKnownSpec.post enc Try.prog Try.f4 false true false false) := by
  refine returnsInHanded_of_change_sized (C := Try.checked) own started (by kernel_rfl) Try.func4
    (ChangeSpec.witness6 (enc := enc) (C := Try.checked) false ⟨#[], #[.int .i64 0, .slice none 0 0], []⟩ 8 (by kernel_rfl) (by kernel_rfl) (by kernel_rfl) (by kernel_rfl)) ?_
  intro W base args ds gs before hval0 hW hcnd hsz0 _
  have hsz : (DataW.weightsEach Try.prog (Try.f4.params.toList ++ Rows.bridgeKnownSpec.plain.varTypes Try.prog) (ds ++ gs)).all (· ≤ reachBytes) = true := hsz0
  have hval : ∀ (j : Nat) t v, Try.f4.params[j]? = some t → args[j]? = some v → Value.okWide Try.prog W .any base t v := hval0
  have hW' := hW
  obtain ⟨p, q, hA0, hV, rfl, hfz, hnd⟩ := hW
  have hA : DataW.TrodAll enc Try.prog W 0 (fun _ => true) true Try.f4.params.toList args.toList ds p := hA0
  rw [Try.params4] at hA hval hsz
  obtain ⟨v0, vs0, d0, ds0, p0, q0, hargs, rfl, rfl, h0, r0⟩ := trodAll_cons hA
  obtain ⟨v1, vs1, d1, ds1, p1, q1, rfl, rfl, rfl, h1, r1⟩ := trodAll_cons r0
  obtain ⟨rfl, rfl, rfl⟩ := trodAll_nil r1
  obtain rfl : args = #[v0, v1] := by cases args; simp_all
  obtain ⟨rfl, rfl⟩ := trodVars_none hV
  obtain ⟨a0, rfl, rfl, rfl, w0⟩ := open_int Try.underlying3 (hval 0 3 v0 rfl rfl) h0
  obtain ⟨a1, ra1, w1⟩ := open_rw (α := fun _ => .pointer none) (ls := [.int .i64, .int .i64, .str]) ⟨rfl, Try.underlying23, by kernel_rfl, (fun h => by cases h), .agg (.cons (.leaf (.int .i64)) (.cons (.leaf (.int .i64)) (.one (.leaf .str) []))), rfl, ⟨_, Try.underlying31, ⟨rfl, by kernel_rfl, Try.underlying3, ⟨rfl, by kernel_rfl, Try.underlying3, ⟨rfl, by kernel_rfl, Try.underlying9⟩⟩⟩, by kernel_rfl⟩⟩ (hval 1 23 v1 rfl rfl) h1
  clear hA0 hval0 hsz0 hsz
  obtain ⟨k, hk⟩ := Pure.BridgeKnown a0 a1 w0 w1
  refine ((F_aqueductlaw20_BridgeKnown.ok k).law (x := (a0, a1)) hk (vs := [.int .i64 a0, v1]) ⟨_, _, [], [], rfl, rfl, ⟨_, ⟨rfl, rfl⟩, rfl⟩, ⟨_, rfl, ra1⟩⟩ rfl).mono fun e W' ⟨he, bel⟩ => ?_
  subst he
  exact ⟨_, rfl, _, _, _, [], _, [], hW', trodAll_mk1 (shut_bool Try.underlying4 _), (trodAll_cons_mk (shut_int Try.underlying3 w0) (trodAll_cons_mk (Below.trod laid (by kernel_rfl) (by decide +kernel) h1 bel fun x hx => DataW.TrodAll.lt (show DataW.TrodAll enc Try.prog W 0 (fun _ => true) true [23] [v1] [d1] p1 from ⟨p1, [], h1, rfl, by simp⟩) x hx) trodAll_mk0)), rfl, bel.frame _, fun h => by cases h⟩
theorem over : Rows.bridgeKnownRow.holds Try.pinned (OpenSpec.ofChange Rows.bridgeKnownSpec) :=
  OpenClaim.holds_of_wide 4 Try.f4 rfl rfl rfl rfl rfl rfl rfl ⟨rfl, rfl, rfl, rfl, rfl⟩ rfl rfl rfl rfl rfl (by kernel_rfl) Try.func4 (by kernel_rfl)
    (of_decide_eq_true (by kernel_rfl)) (by unfold Func.isWrapper; first | (rw [if_pos (by decide +kernel)]; kernel_rfl) | (rw [if_neg (by decide +kernel)]; exact ⟨rfl, rfl⟩))
    (fun os started H enc _ => lifted os started H enc)
theorem proved : Rows.BridgeKnownSaid := over
#print axioms proved
end Go.Proofs.Ytkihcmcaignmkaa.bridgeKnown
namespace Go.Proofs.Ytkihcmcaignmkaa
/-- The row, under a short name, for the claim. -/
theorem bridgeKnown_holds : Rows.BridgeKnownSaid := bridgeKnown.proved
end Go.Proofs.Ytkihcmcaignmkaa
