/- What this seat's functions come to, as plain functions, each with the proof that the code does just that. Printed by a program of this repo (wip/gen2/gen.py). -/
import Derived.Test.YtojomdlccjlioaaAH03
namespace Go.Proofs.Ytojomdlccjlioaa
open Go.Aq
set_option linter.unusedVariables false
set_option maxRecDepth 100000
/-! ### aqueduct/flow.Hash: function 17 -/
noncomputable def F_flow_Hash.as : As := .some (.cons (.leaf .str) (.one (.agg (.cons (.leaf (.int .i64)) (.one (.leaf .str))))))
noncomputable def F_flow_Hash.rt : Rt := .tup (.cons (.leaf (.int .u32)) (.one (.leaf (.int .i64))))
noncomputable def F_flow_Hash.nt : Notes := ⟨[], [], [], [], []⟩
noncomputable def F_flow_Hash.cal0 {T : Type} (k : Nat) : List (FuncId × Hd T) := [(38, pureN F_toeplitz_Hash.as F_toeplitz_Hash.rt (fun (x : ByteArray × ByteArray) => F_toeplitz_Hash.S k x.1 x.2))]
theorem F_flow_Hash.cal0_ok {T : Type} (k : Nat) : HdsOk Try.prog (F_flow_Hash.cal0 (T := T) k) := ⟨F_toeplitz_Hash.hd k, trivial⟩
noncomputable def F_flow_Hash.cal {T : Type} (k : Nat) : List (FuncId × Hd T) := F_flow_Hash.cal0 k
theorem F_flow_Hash.cal_ok {T : Type} (k : Nat) : HdsOk Try.prog (F_flow_Hash.cal (T := T) k) := F_flow_Hash.cal0_ok k
noncomputable def F_flow_Hash.S (k : Nat) (a0 : ByteArray) (a1 : Int × ByteArray) : O (Int × Int) :=
  O.bind (F_toeplitz_Hash.S k a0 a1.2) fun r1 =>
  .ok r1
theorem F_flow_Hash.eq (k : Nat) (a0 : ByteArray) (a1 : Int × ByteArray) : evFn (T := Int × Int) tab (calOf (F_flow_Hash.cal k)) Go.Proofs.Try.f17 F_flow_Hash.nt k [.str a0, .agg [.int .i64 a1.1, .str a1.2]] [] ⟨0, false, []⟩ (fun v st => takeR F_flow_Hash.rt v st.H .ok) panK = F_flow_Hash.S k a0 a1 := by kernel_rfl
theorem F_flow_Hash.ok (k : Nat) : FnOk Try.prog 17 F_flow_Hash.as F_flow_Hash.rt (fun (x : ByteArray × (Int × ByteArray)) => F_flow_Hash.S k x.1 x.2) :=
  FnOk.of_ev tab_ok (calOf_ok (F_flow_Hash.cal_ok k)) mixed Try.func17 F_flow_Hash.nt k (fun _ => rfl) (fun (x : ByteArray × (Int × ByteArray)) => F_flow_Hash.eq k x.1 x.2)
theorem F_flow_Hash.hd {T : Type} (k : Nat) : HdOk Try.prog 17 (pureN (T := T) F_flow_Hash.as F_flow_Hash.rt (fun (x : ByteArray × (Int × ByteArray)) => F_flow_Hash.S k x.1 x.2)) :=
  pureN_ok rfl rfl (F_flow_Hash.ok k) Try.call17
end Go.Proofs.Ytojomdlccjlioaa
