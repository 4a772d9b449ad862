/- What this seat's functions come to, as plain functions, each with the proof that the code does just that. Printed by a program of this repo (wip/gen2/gen.py). -/
import Derived.Test.YtpfddjdkafjjfaaGreatDTab
namespace Go.Proofs.YtpfddjdkafjjfaaGreat
open Go.Aq
set_option linter.unusedVariables false
set_option maxRecDepth 100000
namespace F_gmem_New
/-! ### aqueduct/gmem.New: function 22 -/
noncomputable def ct : Ct := ⟨.some (.one (.leaf (.int .i64)) []), [], [⟨.tup (.pin (.nil) (.one (.leaf (.int .i64)) [])), [], []⟩, ⟨.tup (.pin (.ref 0) (.one (.leaf (.int .i64)) [])), [(95, .cons (.row true 5 [.int .u8]) (.cons (.leaf (.int .i64)) (.one (.row true 103 [.int .i64, .int .i64, .int .i64, .bool]) [])))], [.arg 0 0]⟩]⟩
noncomputable def nt : Notes := ⟨[], [], [], [], []⟩
noncomputable def cal0 {T : Type} (k : Nat) : List (FuncId × Hd T) := []
theorem cal0_ok {T : Type} (k : Nat) : HdsOk Tryz.prog (cal0 (T := T) k) := trivial
noncomputable def cal {T : Type} (k : Nat) : List (FuncId × Hd T) := cal0 k
theorem cal_ok {T : Type} (k : Nat) : HdsOk Tryz.prog (cal (T := T) k) := cal0_ok k
noncomputable def S (k : Nat) (a0 : Int) : O (Int ⊕ (Int × List Int × Int × (List (Int × Int × Int × Bool)))) :=
  O.cond (decide (a0 < (64 : Int))) (
   .ok (.inl (40 : Int))) (
   O.cond (decide (a0 > (1048576 : Int))) (
    .ok (.inl (40 : Int))) (
    O.chk (decide (0 ≤ a0 ∧ a0 = a0 ∧ a0 ≤ 1073741824)) (
     .ok (.inr ((0 : Int), ((List.replicate a0.toNat (0 : Int)), (0 : Int), []))))))
theorem eq (k : Nat) (a0 : Int) : evFn (T := Int ⊕ (Int × List Int × Int × (List (Int × Int × Int × Bool)))) tab (calOf (cal k)) Go.Proofs.Tryz.f22 nt k 0 [.int .i64 a0] [] ⟨0, false, []⟩ (fun v st => outK ct.ob (γ0 ct) ct.outs v st.H .ok) (fun e st => outP ct.ob (γ0 ct) ct.outs e st.H .ok) = S k a0 := by kernel_rfl
theorem ok (k : Nat) : FnOkC Tryz.prog 22 ct (fun (x : Int) (_ : Unit) => S k x) :=
  FnOkC.of_ev (C := ct) tab_ok rfl (calOf_ok (cal_ok k)) mixed Tryz.func22 nt k (fun _ _ => rfl) (fun (x : Int) (_ : Unit) => eq k x)
theorem hd {T : Type} (k : Nat) : HdOk Tryz.prog 22 (pureC (T := T) ct [] (fun (x : Int) (_ : Unit) => S k x)) :=
  pureC_ok rfl [] (ok k) Tryz.call22
end F_gmem_New
end Go.Proofs.YtpfddjdkafjjfaaGreat
