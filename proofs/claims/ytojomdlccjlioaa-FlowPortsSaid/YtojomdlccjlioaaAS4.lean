/- What this seat's functions come to, as plain functions, each with the proof that the code does just that. Printed by a program of this repo (wip/gen2/gen.py). -/
import Derived.Test.YtojomdlccjlioaaAS3
namespace Go.Proofs.Ytojomdlccjlioaa
open Go.Aq
set_option linter.unusedVariables false
set_option maxRecDepth 100000
/-! ### aqueduct/aqueductlaw09.FlowPorts: function 5 -/
noncomputable def F_aqueductlaw09_FlowPorts.as : As := .some (.cons (.agg (.cons (.leaf (.int .i64)) (.cons (.leaf .str) (.cons (.leaf .str) (.cons (.leaf (.int .i64)) (.cons (.leaf (.int .i64)) (.cons (.leaf (.int .i64)) (.cons (.leaf (.int .i64)) (.cons (.leaf (.int .i64)) (.cons (.leaf (.int .i64)) (.cons (.leaf (.int .i64)) (.cons (.leaf .str) (.one (.leaf .str)))))))))))))) (.cons (.agg (.cons (.leaf (.int .i64)) (.cons (.leaf (.int .i64)) (.cons (.leaf (.int .u32)) (.cons (.leaf (.int .u32)) (.cons (.leaf (.int .i64)) (.cons (.leaf (.int .i64)) (.cons (.leaf (.int .i64)) (.cons (.leaf .str) (.cons (.leaf .str) (.one (.leaf .bool)))))))))))) (.one (.agg (.cons (.leaf (.int .i64)) (.cons (.leaf (.int .i64)) (.cons (.leaf (.int .u32)) (.cons (.leaf (.int .u32)) (.cons (.leaf (.int .i64)) (.cons (.leaf (.int .i64)) (.cons (.leaf (.int .i64)) (.cons (.leaf .str) (.cons (.leaf .str) (.one (.leaf .bool)))))))))))))))
noncomputable def F_aqueductlaw09_FlowPorts.rt : Rt := .val (.leaf .bool)
noncomputable def F_aqueductlaw09_FlowPorts.nt : Notes := ⟨[], [], [], [], []⟩
noncomputable def F_aqueductlaw09_FlowPorts.cal0 {T : Type} (k : Nat) : List (FuncId × Hd T) := [(9, pureN F_aqueductlaw09_fixed.as F_aqueductlaw09_fixed.rt (fun (_ : Unit) => F_aqueductlaw09_fixed.S k)), (10, pureN F_flow_Of.as F_flow_Of.rt (fun (x : ByteArray) => F_flow_Of.S k x)), (13, pureN F_segment_Build.as F_segment_Build.rt (fun (x : (Int × ByteArray × ByteArray × Int × Int × Int × Int × Int × Int × Int × ByteArray × ByteArray) × (Int × Int × Int × Int × Int × Int × Int × ByteArray × ByteArray × Bool)) => F_segment_Build.S k x.1 x.2)), (14, pureN F_ip_Build.as F_ip_Build.rt (fun (x : Int × ByteArray × ByteArray × Int × Int × Int × Int × Int × Int × Int × ByteArray × ByteArray) => F_ip_Build.S k x)), (15, pureN F_aqueductlaw09_framed.as F_aqueductlaw09_framed.rt (fun (x : Int × ByteArray) => F_aqueductlaw09_framed.S k x.1 x.2))]
theorem F_aqueductlaw09_FlowPorts.cal0_ok {T : Type} (k : Nat) : HdsOk Try.prog (F_aqueductlaw09_FlowPorts.cal0 (T := T) k) := ⟨F_aqueductlaw09_fixed.hd k, F_flow_Of.hd k, F_segment_Build.hd k, F_ip_Build.hd k, F_aqueductlaw09_framed.hd k, trivial⟩
noncomputable def F_aqueductlaw09_FlowPorts.cal {T : Type} (k : Nat) : List (FuncId × Hd T) := F_aqueductlaw09_FlowPorts.cal0 k
theorem F_aqueductlaw09_FlowPorts.cal_ok {T : Type} (k : Nat) : HdsOk Try.prog (F_aqueductlaw09_FlowPorts.cal (T := T) k) := F_aqueductlaw09_FlowPorts.cal0_ok k
noncomputable def F_aqueductlaw09_FlowPorts.S (k : Nat) (a0 : Int × ByteArray × ByteArray × Int × Int × Int × Int × Int × Int × Int × ByteArray × ByteArray) (a1 : Int × Int × Int × Int × Int × Int × Int × ByteArray × ByteArray × Bool) (a2 : Int × Int × Int × Int × Int × Int × Int × ByteArray × ByteArray × Bool) : O Bool :=
  O.chk (decide (0 ≤ (min (ByteArray.size a1.2.2.2.2.2.2.2.2.1 : Int) (300 : Int)) ∧ (min (ByteArray.size a1.2.2.2.2.2.2.2.2.1 : Int) (300 : Int)) ≤ (ByteArray.size a1.2.2.2.2.2.2.2.2.1 : Int))) (
   O.chk (decide (0 ≤ (min (ByteArray.size a2.2.2.2.2.2.2.2.2.1 : Int) (300 : Int)) ∧ (min (ByteArray.size a2.2.2.2.2.2.2.2.2.1 : Int) (300 : Int)) ≤ (ByteArray.size a2.2.2.2.2.2.2.2.2.1 : Int))) (
    O.bind (F_segment_Build.S k (a0.1, a0.2.1, a0.2.2.1, a0.2.2.2.1, a0.2.2.2.2.1, a0.2.2.2.2.2.1, a0.2.2.2.2.2.2.1, a0.2.2.2.2.2.2.2.1, a0.2.2.2.2.2.2.2.2.1, a0.2.2.2.2.2.2.2.2.2.1, a0.2.2.2.2.2.2.2.2.2.2.1, (⟨#[]⟩ : ByteArray)) (a1.1, a1.2.1, a1.2.2.1, a1.2.2.2.1, a1.2.2.2.2.1, a1.2.2.2.2.2.1, a1.2.2.2.2.2.2.1, a1.2.2.2.2.2.2.2.1, (ByteArray.extract a1.2.2.2.2.2.2.2.2.1 0 (min (ByteArray.size a1.2.2.2.2.2.2.2.2.1 : Int) (300 : Int)).toNat), a1.2.2.2.2.2.2.2.2.2)) fun r3 =>
    O.bind (F_segment_Build.S k (a0.1, a0.2.1, a0.2.2.1, a0.2.2.2.1, a0.2.2.2.2.1, a0.2.2.2.2.2.1, a0.2.2.2.2.2.2.1, a0.2.2.2.2.2.2.2.1, a0.2.2.2.2.2.2.2.2.1, a0.2.2.2.2.2.2.2.2.2.1, a0.2.2.2.2.2.2.2.2.2.2.1, (⟨#[]⟩ : ByteArray)) (a2.1, a2.2.1, a2.2.2.1, a2.2.2.2.1, a2.2.2.2.2.1, a2.2.2.2.2.2.1, a2.2.2.2.2.2.2.1, a2.2.2.2.2.2.2.2.1, (ByteArray.extract a2.2.2.2.2.2.2.2.2.1 0 (min (ByteArray.size a2.2.2.2.2.2.2.2.2.1 : Int) (300 : Int)).toNat), a2.2.2.2.2.2.2.2.2.2)) fun r7 =>
    O.cond (decide (r3.2 ≠ (0 : Int))) (
     O.bind (F_aqueductlaw09_fixed.S k) fun r13 =>
     .ok r13) (
     O.cond (decide (r7.2 ≠ (0 : Int))) (
      O.bind (F_aqueductlaw09_fixed.S k) fun r15 =>
      .ok r15) (
      O.bind (F_ip_Build.S k (a0.1, a0.2.1, a0.2.2.1, a0.2.2.2.1, a0.2.2.2.2.1, a0.2.2.2.2.2.1, a0.2.2.2.2.2.2.1, a0.2.2.2.2.2.2.2.1, a0.2.2.2.2.2.2.2.2.1, a0.2.2.2.2.2.2.2.2.2.1, a0.2.2.2.2.2.2.2.2.2.2.1, r3.1)) fun r19 =>
      O.bind (F_ip_Build.S k (a0.1, a0.2.1, a0.2.2.1, a0.2.2.2.1, a0.2.2.2.2.1, a0.2.2.2.2.2.1, a0.2.2.2.2.2.2.1, a0.2.2.2.2.2.2.2.1, a0.2.2.2.2.2.2.2.2.1, a0.2.2.2.2.2.2.2.2.2.1, a0.2.2.2.2.2.2.2.2.2.2.1, r7.1)) fun r23 =>
      O.cond (decide (r19.2 ≠ (0 : Int))) (
       O.bind (F_aqueductlaw09_fixed.S k) fun r25 =>
       .ok r25) (
       O.cond (decide (r23.2 ≠ (0 : Int))) (
        O.bind (F_aqueductlaw09_fixed.S k) fun r27 =>
        .ok r27) (
        O.cond (decide (a0.1 = (6 : Int))) (
         O.cond (decide (a1.1 = a2.1)) (
          O.bind (F_aqueductlaw09_framed.S k (34525 : Int) r19.1) fun r29 =>
          O.bind (F_flow_Of.S k r29) fun r31 =>
          O.bind (F_aqueductlaw09_framed.S k (34525 : Int) r23.1) fun r33 =>
          O.bind (F_flow_Of.S k r33) fun r35 =>
          O.cond (decide ((decide (r31.1 = r35.1) && (decide (r31.2 = r35.2) && true)) = (decide (a1.2.1 = a2.2.1)))) (
           O.bind (F_aqueductlaw09_fixed.S k) fun r37 =>
           .ok r37) (
           .ok false)) (
          O.bind (F_aqueductlaw09_framed.S k (34525 : Int) r19.1) fun r39 =>
          O.bind (F_flow_Of.S k r39) fun r41 =>
          O.bind (F_aqueductlaw09_framed.S k (34525 : Int) r23.1) fun r43 =>
          O.bind (F_flow_Of.S k r43) fun r45 =>
          O.cond (decide ((decide (r41.1 = r45.1) && (decide (r41.2 = r45.2) && true)) = false)) (
           O.bind (F_aqueductlaw09_fixed.S k) fun r47 =>
           .ok r47) (
           .ok false))) (
         O.cond (decide (a1.1 = a2.1)) (
          O.bind (F_aqueductlaw09_framed.S k (2048 : Int) r19.1) fun r49 =>
          O.bind (F_flow_Of.S k r49) fun r51 =>
          O.bind (F_aqueductlaw09_framed.S k (2048 : Int) r23.1) fun r53 =>
          O.bind (F_flow_Of.S k r53) fun r55 =>
          O.cond (decide ((decide (r51.1 = r55.1) && (decide (r51.2 = r55.2) && true)) = (decide (a1.2.1 = a2.2.1)))) (
           O.bind (F_aqueductlaw09_fixed.S k) fun r57 =>
           .ok r57) (
           .ok false)) (
          O.bind (F_aqueductlaw09_framed.S k (2048 : Int) r19.1) fun r59 =>
          O.bind (F_flow_Of.S k r59) fun r61 =>
          O.bind (F_aqueductlaw09_framed.S k (2048 : Int) r23.1) fun r63 =>
          O.bind (F_flow_Of.S k r63) fun r65 =>
          O.cond (decide ((decide (r61.1 = r65.1) && (decide (r61.2 = r65.2) && true)) = false)) (
           O.bind (F_aqueductlaw09_fixed.S k) fun r67 =>
           .ok r67) (
           .ok false)))))))))
theorem F_aqueductlaw09_FlowPorts.eq (k : Nat) (a0 : Int × ByteArray × ByteArray × Int × Int × Int × Int × Int × Int × Int × ByteArray × ByteArray) (a1 : Int × Int × Int × Int × Int × Int × Int × ByteArray × ByteArray × Bool) (a2 : Int × Int × Int × Int × Int × Int × Int × ByteArray × ByteArray × Bool) : evFn (T := Bool) tab (calOf (F_aqueductlaw09_FlowPorts.cal k)) Go.Proofs.Try.f5 F_aqueductlaw09_FlowPorts.nt k [.agg [.int .i64 a0.1, .str a0.2.1, .str a0.2.2.1, .int .i64 a0.2.2.2.1, .int .i64 a0.2.2.2.2.1, .int .i64 a0.2.2.2.2.2.1, .int .i64 a0.2.2.2.2.2.2.1, .int .i64 a0.2.2.2.2.2.2.2.1, .int .i64 a0.2.2.2.2.2.2.2.2.1, .int .i64 a0.2.2.2.2.2.2.2.2.2.1, .str a0.2.2.2.2.2.2.2.2.2.2.1, .str a0.2.2.2.2.2.2.2.2.2.2.2], .agg [.int .i64 a1.1, .int .i64 a1.2.1, .int .u32 a1.2.2.1, .int .u32 a1.2.2.2.1, .int .i64 a1.2.2.2.2.1, .int .i64 a1.2.2.2.2.2.1, .int .i64 a1.2.2.2.2.2.2.1, .str a1.2.2.2.2.2.2.2.1, .str a1.2.2.2.2.2.2.2.2.1, .bool a1.2.2.2.2.2.2.2.2.2], .agg [.int .i64 a2.1, .int .i64 a2.2.1, .int .u32 a2.2.2.1, .int .u32 a2.2.2.2.1, .int .i64 a2.2.2.2.2.1, .int .i64 a2.2.2.2.2.2.1, .int .i64 a2.2.2.2.2.2.2.1, .str a2.2.2.2.2.2.2.2.1, .str a2.2.2.2.2.2.2.2.2.1, .bool a2.2.2.2.2.2.2.2.2.2]] [] ⟨0, false, []⟩ (fun v st => takeR F_aqueductlaw09_FlowPorts.rt v st.H .ok) panK = F_aqueductlaw09_FlowPorts.S k a0 a1 a2 := by kernel_rfl
theorem F_aqueductlaw09_FlowPorts.ok (k : Nat) : FnOk Try.prog 5 F_aqueductlaw09_FlowPorts.as F_aqueductlaw09_FlowPorts.rt (fun (x : (Int × ByteArray × ByteArray × Int × Int × Int × Int × Int × Int × Int × ByteArray × ByteArray) × (Int × Int × Int × Int × Int × Int × Int × ByteArray × ByteArray × Bool) × (Int × Int × Int × Int × Int × Int × Int × ByteArray × ByteArray × Bool)) => F_aqueductlaw09_FlowPorts.S k x.1 x.2.1 x.2.2) :=
  FnOk.of_ev tab_ok (calOf_ok (F_aqueductlaw09_FlowPorts.cal_ok k)) mixed Try.func5 F_aqueductlaw09_FlowPorts.nt k (fun _ => rfl) (fun (x : (Int × ByteArray × ByteArray × Int × Int × Int × Int × Int × Int × Int × ByteArray × ByteArray) × (Int × Int × Int × Int × Int × Int × Int × ByteArray × ByteArray × Bool) × (Int × Int × Int × Int × Int × Int × Int × ByteArray × ByteArray × Bool)) => F_aqueductlaw09_FlowPorts.eq k x.1 x.2.1 x.2.2)
theorem F_aqueductlaw09_FlowPorts.hd {T : Type} (k : Nat) : HdOk Try.prog 5 (pureN (T := T) F_aqueductlaw09_FlowPorts.as F_aqueductlaw09_FlowPorts.rt (fun (x : (Int × ByteArray × ByteArray × Int × Int × Int × Int × Int × Int × Int × ByteArray × ByteArray) × (Int × Int × Int × Int × Int × Int × Int × ByteArray × ByteArray × Bool) × (Int × Int × Int × Int × Int × Int × Int × ByteArray × ByteArray × Bool)) => F_aqueductlaw09_FlowPorts.S k x.1 x.2.1 x.2.2)) :=
  pureN_ok rfl rfl (F_aqueductlaw09_FlowPorts.ok k) Try.call5
/-! ### aqueduct/eth.Tag: function 16 -/
noncomputable def F_eth_Tag.as : As := .some (.cons (.leaf .str) (.one (.leaf (.int .i64))))
noncomputable def F_eth_Tag.rt : Rt := .tup (.cons (.leaf .str) (.one (.leaf (.int .i64))))
noncomputable def F_eth_Tag.nt : Notes := ⟨[], [], [], [], []⟩
noncomputable def F_eth_Tag.cal0 {T : Type} (k : Nat) : List (FuncId × Hd T) := [(21, pureN F_eth_Parse.as F_eth_Parse.rt (fun (x : ByteArray) => F_eth_Parse.S k x)), (37, pureN F_eth_Build.as F_eth_Build.rt (fun (x : ByteArray × ByteArray × Int × Int × Int × ByteArray) => F_eth_Build.S k x))]
theorem F_eth_Tag.cal0_ok {T : Type} (k : Nat) : HdsOk Try.prog (F_eth_Tag.cal0 (T := T) k) := ⟨F_eth_Parse.hd k, F_eth_Build.hd k, trivial⟩
noncomputable def F_eth_Tag.cal {T : Type} (k : Nat) : List (FuncId × Hd T) := F_eth_Tag.cal0 k
theorem F_eth_Tag.cal_ok {T : Type} (k : Nat) : HdsOk Try.prog (F_eth_Tag.cal (T := T) k) := F_eth_Tag.cal0_ok k
noncomputable def F_eth_Tag.S (k : Nat) (a0 : ByteArray) (a1 : Int) : O (ByteArray × Int) :=
  O.bind (F_eth_Parse.S k a0) fun r1 =>
  O.cond (decide (r1.2 ≠ (0 : Int))) (
   .ok ((⟨#[]⟩ : ByteArray), r1.2)) (
   O.cond (decide (a1 = (-1 : Int))) (
    O.bind (F_eth_Build.S k (r1.1.1, r1.1.2.1, a1, (0 : Int), r1.1.2.2.2.2.1, r1.1.2.2.2.2.2)) fun r3 =>
    .ok r3) (
    O.bind (F_eth_Build.S k (r1.1.1, r1.1.2.1, a1, r1.1.2.2.2.1, r1.1.2.2.2.2.1, r1.1.2.2.2.2.2)) fun r5 =>
    .ok r5))
theorem F_eth_Tag.eq (k : Nat) (a0 : ByteArray) (a1 : Int) : evFn (T := ByteArray × Int) tab (calOf (F_eth_Tag.cal k)) Go.Proofs.Try.f16 F_eth_Tag.nt k [.str a0, .int .i64 a1] [] ⟨0, false, []⟩ (fun v st => takeR F_eth_Tag.rt v st.H .ok) panK = F_eth_Tag.S k a0 a1 := by kernel_rfl
theorem F_eth_Tag.ok (k : Nat) : FnOk Try.prog 16 F_eth_Tag.as F_eth_Tag.rt (fun (x : ByteArray × Int) => F_eth_Tag.S k x.1 x.2) :=
  FnOk.of_ev tab_ok (calOf_ok (F_eth_Tag.cal_ok k)) mixed Try.func16 F_eth_Tag.nt k (fun _ => rfl) (fun (x : ByteArray × Int) => F_eth_Tag.eq k x.1 x.2)
theorem F_eth_Tag.hd {T : Type} (k : Nat) : HdOk Try.prog 16 (pureN (T := T) F_eth_Tag.as F_eth_Tag.rt (fun (x : ByteArray × Int) => F_eth_Tag.S k x.1 x.2)) :=
  pureN_ok rfl rfl (F_eth_Tag.ok k) Try.call16
/-! ### aqueduct/aqueductlaw09.FlowSame: function 6 -/
noncomputable def F_aqueductlaw09_FlowSame.as : As := .some (.cons (.agg (.cons (.leaf (.int .i64)) (.cons (.leaf .str) (.cons (.leaf .str) (.cons (.leaf (.int .i64)) (.cons (.leaf (.int .i64)) (.cons (.leaf (.int .i64)) (.cons (.leaf (.int .i64)) (.cons (.leaf (.int .i64)) (.cons (.leaf (.int .i64)) (.cons (.leaf (.int .i64)) (.cons (.leaf .str) (.one (.leaf .str)))))))))))))) (.cons (.agg (.cons (.leaf (.int .i64)) (.cons (.leaf (.int .i64)) (.cons (.leaf (.int .u32)) (.cons (.leaf (.int .u32)) (.cons (.leaf (.int .i64)) (.cons (.leaf (.int .i64)) (.cons (.leaf (.int .i64)) (.cons (.leaf .str) (.cons (.leaf .str) (.one (.leaf .bool)))))))))))) (.one (.leaf (.int .i64)))))
noncomputable def F_aqueductlaw09_FlowSame.rt : Rt := .val (.leaf .bool)
noncomputable def F_aqueductlaw09_FlowSame.nt : Notes := ⟨[], [(6, [2, 3, 7]), (10, [2, 3, 7, 9])], [(21, [0, 1, 2, 3, 4, 5, 6, 7, 8, 10, 9, 11, 12, 13, 14, 15, 18, 16, 17, 19, 20, 21, 22, 23, 24])], [], []⟩
noncomputable def F_aqueductlaw09_FlowSame.cal0 {T : Type} (k : Nat) : List (FuncId × Hd T) := [(9, pureN F_aqueductlaw09_fixed.as F_aqueductlaw09_fixed.rt (fun (_ : Unit) => F_aqueductlaw09_fixed.S k)), (10, pureN F_flow_Of.as F_flow_Of.rt (fun (x : ByteArray) => F_flow_Of.S k x)), (13, pureN F_segment_Build.as F_segment_Build.rt (fun (x : (Int × ByteArray × ByteArray × Int × Int × Int × Int × Int × Int × Int × ByteArray × ByteArray) × (Int × Int × Int × Int × Int × Int × Int × ByteArray × ByteArray × Bool)) => F_segment_Build.S k x.1 x.2)), (14, pureN F_ip_Build.as F_ip_Build.rt (fun (x : Int × ByteArray × ByteArray × Int × Int × Int × Int × Int × Int × Int × ByteArray × ByteArray) => F_ip_Build.S k x)), (15, pureN F_aqueductlaw09_framed.as F_aqueductlaw09_framed.rt (fun (x : Int × ByteArray) => F_aqueductlaw09_framed.S k x.1 x.2)), (16, pureN F_eth_Tag.as F_eth_Tag.rt (fun (x : ByteArray × Int) => F_eth_Tag.S k x.1 x.2))]
theorem F_aqueductlaw09_FlowSame.cal0_ok {T : Type} (k : Nat) : HdsOk Try.prog (F_aqueductlaw09_FlowSame.cal0 (T := T) k) := ⟨F_aqueductlaw09_fixed.hd k, F_flow_Of.hd k, F_segment_Build.hd k, F_ip_Build.hd k, F_aqueductlaw09_framed.hd k, F_eth_Tag.hd k, trivial⟩
noncomputable def F_aqueductlaw09_FlowSame.cal {T : Type} (k : Nat) : List (FuncId × Hd T) := F_aqueductlaw09_FlowSame.cal0 k
theorem F_aqueductlaw09_FlowSame.cal_ok {T : Type} (k : Nat) : HdsOk Try.prog (F_aqueductlaw09_FlowSame.cal (T := T) k) := F_aqueductlaw09_FlowSame.cal0_ok k
noncomputable def F_aqueductlaw09_FlowSame.j8_b (k : Nat) (a0 : Int × ByteArray × ByteArray × Int × Int × Int × Int × Int × Int × Int × ByteArray × ByteArray) (a2 : Int) (r3 : ByteArray × Int) (v13 : Int) : O Bool :=
  O.bind (F_ip_Build.S k (a0.1, a0.2.1, a0.2.2.1, a0.2.2.2.1, a0.2.2.2.2.1, a0.2.2.2.2.2.1, a0.2.2.2.2.2.2.1, a0.2.2.2.2.2.2.2.1, a0.2.2.2.2.2.2.2.2.1, a0.2.2.2.2.2.2.2.2.2.1, a0.2.2.2.2.2.2.2.2.2.2.1, r3.1)) fun r16 =>
  O.chk (decide (((ByteArray.size r3.1 + ByteArray.size (⟨#[109, 111, 114, 101]⟩ : ByteArray) : Nat) : Int) ≤ 9223372036854775807)) (
   O.bind (F_ip_Build.S k (a0.1, a0.2.1, a0.2.2.1, a0.2.2.2.1, (bXor .i64 a0.2.2.2.2.1 (1 : Int)), (bXor .i64 a0.2.2.2.2.2.1 (3 : Int)), a0.2.2.2.2.2.2.1, a0.2.2.2.2.2.2.2.1, a0.2.2.2.2.2.2.2.2.1, a0.2.2.2.2.2.2.2.2.2.1, a0.2.2.2.2.2.2.2.2.2.2.1, (r3.1 ++ (⟨#[109, 111, 114, 101]⟩ : ByteArray)))) fun r20 =>
   O.cond (decide (r16.2 ≠ (0 : Int))) (
    O.bind (F_aqueductlaw09_fixed.S k) fun r26 =>
    .ok r26) (
    O.cond (decide (r20.2 ≠ (0 : Int))) (
     O.bind (F_aqueductlaw09_fixed.S k) fun r28 =>
     .ok r28) (
     O.bind (F_aqueductlaw09_framed.S k v13 r16.1) fun r30 =>
     O.bind (F_eth_Tag.S k r30 (Int.tmod (bAnd .i64 a2 (65535 : Int)) (4095 : Int))) fun r32 =>
     O.bind (F_flow_Of.S k r30) fun r34 =>
     O.cond (decide (r32.2 = (0 : Int))) (
      O.cond (decide (r34.1 ≠ (0 : Int))) (
       O.bind (F_flow_Of.S k r32.1) fun r36 =>
       O.cond (decide (r36.1 = r34.1) && (decide (r36.2 = r34.2) && true)) (
        O.bind (F_aqueductlaw09_framed.S k v13 r20.1) fun r38 =>
        O.bind (F_flow_Of.S k r38) fun r40 =>
        O.cond (decide (r40.1 = r34.1) && (decide (r40.2 = r34.2) && true)) (
         O.bind (F_aqueductlaw09_fixed.S k) fun r42 =>
         .ok r42) (
         .ok false)) (
        .ok false)) (
       .ok false)) (
      .ok false))))
noncomputable def F_aqueductlaw09_FlowSame.j8 (k : Nat) (a0 : Int × ByteArray × ByteArray × Int × Int × Int × Int × Int × Int × Int × ByteArray × ByteArray) (a2 : Int) (r3 : ByteArray × Int) (v13 : Int) : O Bool := F_aqueductlaw09_FlowSame.j8_b k a0 a2 r3 v13
theorem F_aqueductlaw09_FlowSame.j8_eq (k : Nat) (a0 : Int × ByteArray × ByteArray × Int × Int × Int × Int × Int × Int × Int × ByteArray × ByteArray) (a2 : Int) (r3 : ByteArray × Int) (v13 : Int) : codeAt (T := Bool) tab (calOf (F_aqueductlaw09_FlowSame.cal k)) Go.Proofs.Try.f6.ntmps F_aqueductlaw09_FlowSame.nt k [] [.r, .r, .r, .r, .r, .r, .r, .r] (bodyOf Go.Proofs.Try.f6) (finK tab Go.Proofs.Try.f6.results.toList (fun v st => takeR F_aqueductlaw09_FlowSame.rt v st.H .ok) panK) ⟨[(2, .int .i64 a2), (3, .ptr 0 0), (7, .str r3.1), (9, .int .i64 v13)], [], 0, []⟩ ⟨1, true, [(0, .cells 30 [.int .i64 a0.1, .str a0.2.1, .str a0.2.2.1, .int .i64 a0.2.2.2.1, .int .i64 a0.2.2.2.2.1, .int .i64 a0.2.2.2.2.2.1, .int .i64 a0.2.2.2.2.2.2.1, .int .i64 a0.2.2.2.2.2.2.2.1, .int .i64 a0.2.2.2.2.2.2.2.2.1, .int .i64 a0.2.2.2.2.2.2.2.2.2.1, .str a0.2.2.2.2.2.2.2.2.2.2.1, .str r3.1])]⟩ = F_aqueductlaw09_FlowSame.j8 k a0 a2 r3 v13 := by
    have h : codeAt (T := Bool) tab (calOf (F_aqueductlaw09_FlowSame.cal k)) Go.Proofs.Try.f6.ntmps F_aqueductlaw09_FlowSame.nt k [] [.r, .r, .r, .r, .r, .r, .r, .r] (bodyOf Go.Proofs.Try.f6) (finK tab Go.Proofs.Try.f6.results.toList (fun v st => takeR F_aqueductlaw09_FlowSame.rt v st.H .ok) panK) ⟨[(2, .int .i64 a2), (3, .ptr 0 0), (7, .str r3.1), (9, .int .i64 v13)], [], 0, []⟩ ⟨1, true, [(0, .cells 30 [.int .i64 a0.1, .str a0.2.1, .str a0.2.2.1, .int .i64 a0.2.2.2.1, .int .i64 a0.2.2.2.2.1, .int .i64 a0.2.2.2.2.2.1, .int .i64 a0.2.2.2.2.2.2.1, .int .i64 a0.2.2.2.2.2.2.2.1, .int .i64 a0.2.2.2.2.2.2.2.2.1, .int .i64 a0.2.2.2.2.2.2.2.2.2.1, .str a0.2.2.2.2.2.2.2.2.2.2.1, .str r3.1])]⟩ = F_aqueductlaw09_FlowSame.j8_b k a0 a2 r3 v13 := (codeAt_eq _ _ _ _ _ _ _ _ _ _ _).trans (by show _ = _; kernel_rfl)
    exact h.trans (by rfl)
noncomputable def F_aqueductlaw09_FlowSame.j5_b (k : Nat) (a0 : Int × ByteArray × ByteArray × Int × Int × Int × Int × Int × Int × Int × ByteArray × ByteArray) (a2 : Int) (r3 : ByteArray × Int) (D_j8 : Int → O Bool) : O Bool :=
  O.cond (decide (a0.1 = (6 : Int))) (
   D_j8 (34525 : Int)) (
   D_j8 (2048 : Int))
noncomputable def F_aqueductlaw09_FlowSame.j5 (k : Nat) (a0 : Int × ByteArray × ByteArray × Int × Int × Int × Int × Int × Int × Int × ByteArray × ByteArray) (a2 : Int) (r3 : ByteArray × Int) : O Bool := F_aqueductlaw09_FlowSame.j5_b k a0 a2 r3 ((fun (v13 : Int) => F_aqueductlaw09_FlowSame.j8 k a0 a2 r3 v13))
theorem F_aqueductlaw09_FlowSame.j5_eq (k : Nat) (a0 : Int × ByteArray × ByteArray × Int × Int × Int × Int × Int × Int × Int × ByteArray × ByteArray) (a2 : Int) (r3 : ByteArray × Int) : codeAt (T := Bool) tab (calOf (F_aqueductlaw09_FlowSame.cal k)) Go.Proofs.Try.f6.ntmps F_aqueductlaw09_FlowSame.nt k [] [.r, .r, .r, .r, .r] (bodyOf Go.Proofs.Try.f6) (finK tab Go.Proofs.Try.f6.results.toList (fun v st => takeR F_aqueductlaw09_FlowSame.rt v st.H .ok) panK) ⟨[(2, .int .i64 a2), (3, .ptr 0 0), (7, .str r3.1)], [], 0, []⟩ ⟨1, true, [(0, .cells 30 [.int .i64 a0.1, .str a0.2.1, .str a0.2.2.1, .int .i64 a0.2.2.2.1, .int .i64 a0.2.2.2.2.1, .int .i64 a0.2.2.2.2.2.1, .int .i64 a0.2.2.2.2.2.2.1, .int .i64 a0.2.2.2.2.2.2.2.1, .int .i64 a0.2.2.2.2.2.2.2.2.1, .int .i64 a0.2.2.2.2.2.2.2.2.2.1, .str a0.2.2.2.2.2.2.2.2.2.2.1, .str (⟨#[]⟩ : ByteArray)])]⟩ = F_aqueductlaw09_FlowSame.j5 k a0 a2 r3 := by
    have e0 : (fun (v13 : Int) => codeAt (T := Bool) tab (calOf (F_aqueductlaw09_FlowSame.cal k)) Go.Proofs.Try.f6.ntmps F_aqueductlaw09_FlowSame.nt k [] [.r, .r, .r, .r, .r, .r, .r, .r] (bodyOf Go.Proofs.Try.f6) (finK tab Go.Proofs.Try.f6.results.toList (fun v st => takeR F_aqueductlaw09_FlowSame.rt v st.H .ok) panK) ⟨[(2, .int .i64 a2), (3, .ptr 0 0), (7, .str r3.1), (9, .int .i64 v13)], [], 0, []⟩ ⟨1, true, [(0, .cells 30 [.int .i64 a0.1, .str a0.2.1, .str a0.2.2.1, .int .i64 a0.2.2.2.1, .int .i64 a0.2.2.2.2.1, .int .i64 a0.2.2.2.2.2.1, .int .i64 a0.2.2.2.2.2.2.1, .int .i64 a0.2.2.2.2.2.2.2.1, .int .i64 a0.2.2.2.2.2.2.2.2.1, .int .i64 a0.2.2.2.2.2.2.2.2.2.1, .str a0.2.2.2.2.2.2.2.2.2.2.1, .str r3.1])]⟩) = (fun (v13 : Int) => F_aqueductlaw09_FlowSame.j8 k a0 a2 r3 v13) := by funext v13; exact F_aqueductlaw09_FlowSame.j8_eq k a0 a2 r3 v13
    have h : codeAt (T := Bool) tab (calOf (F_aqueductlaw09_FlowSame.cal k)) Go.Proofs.Try.f6.ntmps F_aqueductlaw09_FlowSame.nt k [] [.r, .r, .r, .r, .r] (bodyOf Go.Proofs.Try.f6) (finK tab Go.Proofs.Try.f6.results.toList (fun v st => takeR F_aqueductlaw09_FlowSame.rt v st.H .ok) panK) ⟨[(2, .int .i64 a2), (3, .ptr 0 0), (7, .str r3.1)], [], 0, []⟩ ⟨1, true, [(0, .cells 30 [.int .i64 a0.1, .str a0.2.1, .str a0.2.2.1, .int .i64 a0.2.2.2.1, .int .i64 a0.2.2.2.2.1, .int .i64 a0.2.2.2.2.2.1, .int .i64 a0.2.2.2.2.2.2.1, .int .i64 a0.2.2.2.2.2.2.2.1, .int .i64 a0.2.2.2.2.2.2.2.2.1, .int .i64 a0.2.2.2.2.2.2.2.2.2.1, .str a0.2.2.2.2.2.2.2.2.2.2.1, .str (⟨#[]⟩ : ByteArray)])]⟩ = F_aqueductlaw09_FlowSame.j5_b k a0 a2 r3 ((fun (v13 : Int) => codeAt (T := Bool) tab (calOf (F_aqueductlaw09_FlowSame.cal k)) Go.Proofs.Try.f6.ntmps F_aqueductlaw09_FlowSame.nt k [] [.r, .r, .r, .r, .r, .r, .r, .r] (bodyOf Go.Proofs.Try.f6) (finK tab Go.Proofs.Try.f6.results.toList (fun v st => takeR F_aqueductlaw09_FlowSame.rt v st.H .ok) panK) ⟨[(2, .int .i64 a2), (3, .ptr 0 0), (7, .str r3.1), (9, .int .i64 v13)], [], 0, []⟩ ⟨1, true, [(0, .cells 30 [.int .i64 a0.1, .str a0.2.1, .str a0.2.2.1, .int .i64 a0.2.2.2.1, .int .i64 a0.2.2.2.2.1, .int .i64 a0.2.2.2.2.2.1, .int .i64 a0.2.2.2.2.2.2.1, .int .i64 a0.2.2.2.2.2.2.2.1, .int .i64 a0.2.2.2.2.2.2.2.2.1, .int .i64 a0.2.2.2.2.2.2.2.2.2.1, .str a0.2.2.2.2.2.2.2.2.2.2.1, .str r3.1])]⟩)) := (codeAt_eq _ _ _ _ _ _ _ _ _ _ _).trans (by show _ = _; kernel_rfl)
    exact h.trans (by rw [e0]; rfl)
noncomputable def F_aqueductlaw09_FlowSame.top (k : Nat) (a0 : Int × ByteArray × ByteArray × Int × Int × Int × Int × Int × Int × Int × ByteArray × ByteArray) (a1 : Int × Int × Int × Int × Int × Int × Int × ByteArray × ByteArray × Bool) (a2 : Int) (D_j5 : (ByteArray × Int) → O Bool) : O Bool :=
  O.chk (decide (0 ≤ (min (ByteArray.size a1.2.2.2.2.2.2.2.2.1 : Int) (500 : Int)) ∧ (min (ByteArray.size a1.2.2.2.2.2.2.2.2.1 : Int) (500 : Int)) ≤ (ByteArray.size a1.2.2.2.2.2.2.2.2.1 : Int))) (
   O.bind (F_segment_Build.S k (a0.1, a0.2.1, a0.2.2.1, a0.2.2.2.1, a0.2.2.2.2.1, a0.2.2.2.2.2.1, a0.2.2.2.2.2.2.1, a0.2.2.2.2.2.2.2.1, a0.2.2.2.2.2.2.2.2.1, a0.2.2.2.2.2.2.2.2.2.1, a0.2.2.2.2.2.2.2.2.2.2.1, (⟨#[]⟩ : ByteArray)) (a1.1, a1.2.1, a1.2.2.1, a1.2.2.2.1, a1.2.2.2.2.1, a1.2.2.2.2.2.1, a1.2.2.2.2.2.2.1, a1.2.2.2.2.2.2.2.1, (ByteArray.extract a1.2.2.2.2.2.2.2.2.1 0 (min (ByteArray.size a1.2.2.2.2.2.2.2.2.1 : Int) (500 : Int)).toNat), a1.2.2.2.2.2.2.2.2.2)) fun r3 =>
   O.cond (decide (r3.2 ≠ (0 : Int))) (
    O.bind (F_aqueductlaw09_fixed.S k) fun r9 =>
    .ok r9) (
    O.cond (decide (a0.1 ≠ (4 : Int))) (
     O.cond (decide (a0.1 ≠ (6 : Int))) (
      O.bind (F_aqueductlaw09_fixed.S k) fun r11 =>
      .ok r11) (
      D_j5 r3)) (
     D_j5 r3)))
noncomputable def F_aqueductlaw09_FlowSame.S (k : Nat) (a0 : Int × ByteArray × ByteArray × Int × Int × Int × Int × Int × Int × Int × ByteArray × ByteArray) (a1 : Int × Int × Int × Int × Int × Int × Int × ByteArray × ByteArray × Bool) (a2 : Int) : O Bool := F_aqueductlaw09_FlowSame.top k a0 a1 a2 ((fun (r3 : ByteArray × Int) => F_aqueductlaw09_FlowSame.j5 k a0 a2 r3))
theorem F_aqueductlaw09_FlowSame.eq (k : Nat) (a0 : Int × ByteArray × ByteArray × Int × Int × Int × Int × Int × Int × Int × ByteArray × ByteArray) (a1 : Int × Int × Int × Int × Int × Int × Int × ByteArray × ByteArray × Bool) (a2 : Int) : evFn (T := Bool) tab (calOf (F_aqueductlaw09_FlowSame.cal k)) Go.Proofs.Try.f6 F_aqueductlaw09_FlowSame.nt k [.agg [.int .i64 a0.1, .str a0.2.1, .str a0.2.2.1, .int .i64 a0.2.2.2.1, .int .i64 a0.2.2.2.2.1, .int .i64 a0.2.2.2.2.2.1, .int .i64 a0.2.2.2.2.2.2.1, .int .i64 a0.2.2.2.2.2.2.2.1, .int .i64 a0.2.2.2.2.2.2.2.2.1, .int .i64 a0.2.2.2.2.2.2.2.2.2.1, .str a0.2.2.2.2.2.2.2.2.2.2.1, .str a0.2.2.2.2.2.2.2.2.2.2.2], .agg [.int .i64 a1.1, .int .i64 a1.2.1, .int .u32 a1.2.2.1, .int .u32 a1.2.2.2.1, .int .i64 a1.2.2.2.2.1, .int .i64 a1.2.2.2.2.2.1, .int .i64 a1.2.2.2.2.2.2.1, .str a1.2.2.2.2.2.2.2.1, .str a1.2.2.2.2.2.2.2.2.1, .bool a1.2.2.2.2.2.2.2.2.2], .int .i64 a2] [] ⟨0, false, []⟩ (fun v st => takeR F_aqueductlaw09_FlowSame.rt v st.H .ok) panK = F_aqueductlaw09_FlowSame.S k a0 a1 a2 := by
  have e0 : (fun (r3 : ByteArray × Int) => codeAt (T := Bool) tab (calOf (F_aqueductlaw09_FlowSame.cal k)) Go.Proofs.Try.f6.ntmps F_aqueductlaw09_FlowSame.nt k [] [.r, .r, .r, .r, .r] (bodyOf Go.Proofs.Try.f6) (finK tab Go.Proofs.Try.f6.results.toList (fun v st => takeR F_aqueductlaw09_FlowSame.rt v st.H .ok) panK) ⟨[(2, .int .i64 a2), (3, .ptr 0 0), (7, .str r3.1)], [], 0, []⟩ ⟨1, true, [(0, .cells 30 [.int .i64 a0.1, .str a0.2.1, .str a0.2.2.1, .int .i64 a0.2.2.2.1, .int .i64 a0.2.2.2.2.1, .int .i64 a0.2.2.2.2.2.1, .int .i64 a0.2.2.2.2.2.2.1, .int .i64 a0.2.2.2.2.2.2.2.1, .int .i64 a0.2.2.2.2.2.2.2.2.1, .int .i64 a0.2.2.2.2.2.2.2.2.2.1, .str a0.2.2.2.2.2.2.2.2.2.2.1, .str (⟨#[]⟩ : ByteArray)])]⟩) = (fun (r3 : ByteArray × Int) => F_aqueductlaw09_FlowSame.j5 k a0 a2 r3) := by funext r3; exact F_aqueductlaw09_FlowSame.j5_eq k a0 a2 r3
  have h : evFn (T := Bool) tab (calOf (F_aqueductlaw09_FlowSame.cal k)) Go.Proofs.Try.f6 F_aqueductlaw09_FlowSame.nt k [.agg [.int .i64 a0.1, .str a0.2.1, .str a0.2.2.1, .int .i64 a0.2.2.2.1, .int .i64 a0.2.2.2.2.1, .int .i64 a0.2.2.2.2.2.1, .int .i64 a0.2.2.2.2.2.2.1, .int .i64 a0.2.2.2.2.2.2.2.1, .int .i64 a0.2.2.2.2.2.2.2.2.1, .int .i64 a0.2.2.2.2.2.2.2.2.2.1, .str a0.2.2.2.2.2.2.2.2.2.2.1, .str a0.2.2.2.2.2.2.2.2.2.2.2], .agg [.int .i64 a1.1, .int .i64 a1.2.1, .int .u32 a1.2.2.1, .int .u32 a1.2.2.2.1, .int .i64 a1.2.2.2.2.1, .int .i64 a1.2.2.2.2.2.1, .int .i64 a1.2.2.2.2.2.2.1, .str a1.2.2.2.2.2.2.2.1, .str a1.2.2.2.2.2.2.2.2.1, .bool a1.2.2.2.2.2.2.2.2.2], .int .i64 a2] [] ⟨0, false, []⟩ (fun v st => takeR F_aqueductlaw09_FlowSame.rt v st.H .ok) panK = F_aqueductlaw09_FlowSame.top k a0 a1 a2 ((fun (r3 : ByteArray × Int) => codeAt (T := Bool) tab (calOf (F_aqueductlaw09_FlowSame.cal k)) Go.Proofs.Try.f6.ntmps F_aqueductlaw09_FlowSame.nt k [] [.r, .r, .r, .r, .r] (bodyOf Go.Proofs.Try.f6) (finK tab Go.Proofs.Try.f6.results.toList (fun v st => takeR F_aqueductlaw09_FlowSame.rt v st.H .ok) panK) ⟨[(2, .int .i64 a2), (3, .ptr 0 0), (7, .str r3.1)], [], 0, []⟩ ⟨1, true, [(0, .cells 30 [.int .i64 a0.1, .str a0.2.1, .str a0.2.2.1, .int .i64 a0.2.2.2.1, .int .i64 a0.2.2.2.2.1, .int .i64 a0.2.2.2.2.2.1, .int .i64 a0.2.2.2.2.2.2.1, .int .i64 a0.2.2.2.2.2.2.2.1, .int .i64 a0.2.2.2.2.2.2.2.2.1, .int .i64 a0.2.2.2.2.2.2.2.2.2.1, .str a0.2.2.2.2.2.2.2.2.2.2.1, .str (⟨#[]⟩ : ByteArray)])]⟩)) := by kernel_rfl
  exact h.trans (by rw [e0]; rfl)
theorem F_aqueductlaw09_FlowSame.ok (k : Nat) : FnOk Try.prog 6 F_aqueductlaw09_FlowSame.as F_aqueductlaw09_FlowSame.rt (fun (x : (Int × ByteArray × ByteArray × Int × Int × Int × Int × Int × Int × Int × ByteArray × ByteArray) × (Int × Int × Int × Int × Int × Int × Int × ByteArray × ByteArray × Bool) × Int) => F_aqueductlaw09_FlowSame.S k x.1 x.2.1 x.2.2) :=
  FnOk.of_ev tab_ok (calOf_ok (F_aqueductlaw09_FlowSame.cal_ok k)) mixed Try.func6 F_aqueductlaw09_FlowSame.nt k (fun _ => rfl) (fun (x : (Int × ByteArray × ByteArray × Int × Int × Int × Int × Int × Int × Int × ByteArray × ByteArray) × (Int × Int × Int × Int × Int × Int × Int × ByteArray × ByteArray × Bool) × Int) => F_aqueductlaw09_FlowSame.eq k x.1 x.2.1 x.2.2)
theorem F_aqueductlaw09_FlowSame.hd {T : Type} (k : Nat) : HdOk Try.prog 6 (pureN (T := T) F_aqueductlaw09_FlowSame.as F_aqueductlaw09_FlowSame.rt (fun (x : (Int × ByteArray × ByteArray × Int × Int × Int × Int × Int × Int × Int × ByteArray × ByteArray) × (Int × Int × Int × Int × Int × Int × Int × ByteArray × ByteArray × Bool) × Int) => F_aqueductlaw09_FlowSame.S k x.1 x.2.1 x.2.2)) :=
  pureN_ok rfl rfl (F_aqueductlaw09_FlowSame.ok k) Try.call6
/-! ### aqueduct/aqueductref09.Less: function 19 -/
noncomputable def F_aqueductref09_Less.as : As := .some (.one (.agg (.cons (.leaf (.int .i64)) (.one (.leaf .str)))))
noncomputable def F_aqueductref09_Less.rt : Rt := .val (.agg (.cons (.leaf (.int .i64)) (.one (.leaf .str))))
noncomputable def F_aqueductref09_Less.nt : Notes := ⟨[], [], [], [], []⟩
noncomputable def F_aqueductref09_Less.cal0 {T : Type} (k : Nat) : List (FuncId × Hd T) := []
theorem F_aqueductref09_Less.cal0_ok {T : Type} (k : Nat) : HdsOk Try.prog (F_aqueductref09_Less.cal0 (T := T) k) := trivial
noncomputable def F_aqueductref09_Less.cal {T : Type} (k : Nat) : List (FuncId × Hd T) := F_aqueductref09_Less.cal0 k
theorem F_aqueductref09_Less.cal_ok {T : Type} (k : Nat) : HdsOk Try.prog (F_aqueductref09_Less.cal (T := T) k) := F_aqueductref09_Less.cal0_ok k
noncomputable def F_aqueductref09_Less.S (k : Nat) (a0 : Int × ByteArray) : O (Int × ByteArray) :=
  O.cond (decide (a0.1 = (2 : Int))) (
   O.chk (decide (0 ≤ (min (ByteArray.size a0.2 : Int) (8 : Int)) ∧ (min (ByteArray.size a0.2 : Int) (8 : Int)) ≤ (ByteArray.size a0.2 : Int))) (
    .ok ((1 : Int), (ByteArray.extract a0.2 0 (min (ByteArray.size a0.2 : Int) (8 : Int)).toNat)))) (
   O.cond (decide (a0.1 = (3 : Int))) (
    O.chk (decide (0 ≤ (min (ByteArray.size a0.2 : Int) (8 : Int)) ∧ (min (ByteArray.size a0.2 : Int) (8 : Int)) ≤ (ByteArray.size a0.2 : Int))) (
     .ok ((1 : Int), (ByteArray.extract a0.2 0 (min (ByteArray.size a0.2 : Int) (8 : Int)).toNat)))) (
    O.cond (decide (a0.1 = (5 : Int))) (
     O.chk (decide (0 ≤ (min (ByteArray.size a0.2 : Int) (32 : Int)) ∧ (min (ByteArray.size a0.2 : Int) (32 : Int)) ≤ (ByteArray.size a0.2 : Int))) (
      .ok ((4 : Int), (ByteArray.extract a0.2 0 (min (ByteArray.size a0.2 : Int) (32 : Int)).toNat)))) (
     O.cond (decide (a0.1 = (6 : Int))) (
      O.chk (decide (0 ≤ (min (ByteArray.size a0.2 : Int) (32 : Int)) ∧ (min (ByteArray.size a0.2 : Int) (32 : Int)) ≤ (ByteArray.size a0.2 : Int))) (
       .ok ((4 : Int), (ByteArray.extract a0.2 0 (min (ByteArray.size a0.2 : Int) (32 : Int)).toNat)))) (
      .ok a0))))
theorem F_aqueductref09_Less.eq (k : Nat) (a0 : Int × ByteArray) : evFn (T := Int × ByteArray) tab (calOf (F_aqueductref09_Less.cal k)) Go.Proofs.Try.f19 F_aqueductref09_Less.nt k [.agg [.int .i64 a0.1, .str a0.2]] [] ⟨0, false, []⟩ (fun v st => takeR F_aqueductref09_Less.rt v st.H .ok) panK = F_aqueductref09_Less.S k a0 := by kernel_rfl
theorem F_aqueductref09_Less.ok (k : Nat) : FnOk Try.prog 19 F_aqueductref09_Less.as F_aqueductref09_Less.rt (fun (x : Int × ByteArray) => F_aqueductref09_Less.S k x) :=
  FnOk.of_ev tab_ok (calOf_ok (F_aqueductref09_Less.cal_ok k)) mixed Try.func19 F_aqueductref09_Less.nt k (fun _ => rfl) (fun (x : Int × ByteArray) => F_aqueductref09_Less.eq k x)
theorem F_aqueductref09_Less.hd {T : Type} (k : Nat) : HdOk Try.prog 19 (pureN (T := T) F_aqueductref09_Less.as F_aqueductref09_Less.rt (fun (x : Int × ByteArray) => F_aqueductref09_Less.S k x)) :=
  pureN_ok rfl rfl (F_aqueductref09_Less.ok k) Try.call19
/-! ### aqueduct/aqueductlaw09.FlowHash: function 7 -/
noncomputable def F_aqueductlaw09_FlowHash.as : As := .some (.cons (.leaf .str) (.one (.agg (.cons (.leaf (.int .i64)) (.one (.leaf .str))))))
noncomputable def F_aqueductlaw09_FlowHash.rt : Rt := .val (.leaf .bool)
noncomputable def F_aqueductlaw09_FlowHash.nt : Notes := ⟨[], [], [(4, [0, 1, 2, 4, 3, 5, 6, 7, 8, 9, 10, 11, 12, 13, 14, 15, 16, 17, 18])], [], []⟩
noncomputable def F_aqueductlaw09_FlowHash.cal0 {T : Type} (k : Nat) : List (FuncId × Hd T) := [(9, pureN F_aqueductlaw09_fixed.as F_aqueductlaw09_fixed.rt (fun (_ : Unit) => F_aqueductlaw09_fixed.S k)), (12, pureN F_flow_Less.as F_flow_Less.rt (fun (x : Int × ByteArray) => F_flow_Less.S k x)), (17, pureN F_flow_Hash.as F_flow_Hash.rt (fun (x : ByteArray × (Int × ByteArray)) => F_flow_Hash.S k x.1 x.2)), (18, pureN F_aqueductref03_Hash.as F_aqueductref03_Hash.rt (fun (x : ByteArray × ByteArray) => F_aqueductref03_Hash.S k x.1 x.2)), (19, pureN F_aqueductref09_Less.as F_aqueductref09_Less.rt (fun (x : Int × ByteArray) => F_aqueductref09_Less.S k x))]
theorem F_aqueductlaw09_FlowHash.cal0_ok {T : Type} (k : Nat) : HdsOk Try.prog (F_aqueductlaw09_FlowHash.cal0 (T := T) k) := ⟨F_aqueductlaw09_fixed.hd k, F_flow_Less.hd k, F_flow_Hash.hd k, F_aqueductref03_Hash.hd k, F_aqueductref09_Less.hd k, trivial⟩
noncomputable def F_aqueductlaw09_FlowHash.cal {T : Type} (k : Nat) : List (FuncId × Hd T) := F_aqueductlaw09_FlowHash.cal0 k
theorem F_aqueductlaw09_FlowHash.cal_ok {T : Type} (k : Nat) : HdsOk Try.prog (F_aqueductlaw09_FlowHash.cal (T := T) k) := F_aqueductlaw09_FlowHash.cal0_ok k
noncomputable def F_aqueductlaw09_FlowHash.S (k : Nat) (a0 : ByteArray) (a1 : Int × ByteArray) : O Bool :=
  O.chk (decide (0 ≤ (min (ByteArray.size a1.2 : Int) (100 : Int)) ∧ (min (ByteArray.size a1.2 : Int) (100 : Int)) ≤ (ByteArray.size a1.2 : Int))) (
   O.bind (F_flow_Hash.S k a0 (a1.1, (ByteArray.extract a1.2 0 (min (ByteArray.size a1.2 : Int) (100 : Int)).toNat))) fun r1 =>
   O.bind (F_aqueductref03_Hash.S k a0 (ByteArray.extract a1.2 0 (min (ByteArray.size a1.2 : Int) (100 : Int)).toNat)) fun r3 =>
   O.bind (F_aqueductlaw09_fixed.S k) fun r5 =>
   O.cond r5 (
    O.bind (F_flow_Less.S k (a1.1, (ByteArray.extract a1.2 0 (min (ByteArray.size a1.2 : Int) (100 : Int)).toNat))) fun r7 =>
    O.bind (F_aqueductref09_Less.S k (a1.1, (ByteArray.extract a1.2 0 (min (ByteArray.size a1.2 : Int) (100 : Int)).toNat))) fun r9 =>
    O.cond (decide (r7.1 = r9.1) && (decide (r7.2 = r9.2) && true)) (
     O.cond (decide (r1.1 = r3.1)) (
      .ok (decide (r1.2 = r3.2))) (
      .ok false)) (
     .ok false)) (
    .ok false))
theorem F_aqueductlaw09_FlowHash.eq (k : Nat) (a0 : ByteArray) (a1 : Int × ByteArray) : evFn (T := Bool) tab (calOf (F_aqueductlaw09_FlowHash.cal k)) Go.Proofs.Try.f7 F_aqueductlaw09_FlowHash.nt k [.str a0, .agg [.int .i64 a1.1, .str a1.2]] [] ⟨0, false, []⟩ (fun v st => takeR F_aqueductlaw09_FlowHash.rt v st.H .ok) panK = F_aqueductlaw09_FlowHash.S k a0 a1 := by kernel_rfl
theorem F_aqueductlaw09_FlowHash.ok (k : Nat) : FnOk Try.prog 7 F_aqueductlaw09_FlowHash.as F_aqueductlaw09_FlowHash.rt (fun (x : ByteArray × (Int × ByteArray)) => F_aqueductlaw09_FlowHash.S k x.1 x.2) :=
  FnOk.of_ev tab_ok (calOf_ok (F_aqueductlaw09_FlowHash.cal_ok k)) mixed Try.func7 F_aqueductlaw09_FlowHash.nt k (fun _ => rfl) (fun (x : ByteArray × (Int × ByteArray)) => F_aqueductlaw09_FlowHash.eq k x.1 x.2)
theorem F_aqueductlaw09_FlowHash.hd {T : Type} (k : Nat) : HdOk Try.prog 7 (pureN (T := T) F_aqueductlaw09_FlowHash.as F_aqueductlaw09_FlowHash.rt (fun (x : ByteArray × (Int × ByteArray)) => F_aqueductlaw09_FlowHash.S k x.1 x.2)) :=
  pureN_ok rfl rfl (F_aqueductlaw09_FlowHash.ok k) Try.call7
/-! ### aqueduct/aqueductlaw09.FlowLess: function 8 -/
noncomputable def F_aqueductlaw09_FlowLess.as : As := .some (.cons (.leaf .str) (.one (.agg (.cons (.leaf (.int .i64)) (.one (.leaf .str))))))
noncomputable def F_aqueductlaw09_FlowLess.rt : Rt := .val (.leaf .bool)
noncomputable def F_aqueductlaw09_FlowLess.nt : Notes := ⟨[], [], [(5, [0, 2, 1, 3, 4, 5, 6, 7, 8, 9, 10, 11, 12, 13, 14, 15, 16, 17])], [], []⟩
noncomputable def F_aqueductlaw09_FlowLess.cal0 {T : Type} (k : Nat) : List (FuncId × Hd T) := [(9, pureN F_aqueductlaw09_fixed.as F_aqueductlaw09_fixed.rt (fun (_ : Unit) => F_aqueductlaw09_fixed.S k)), (12, pureN F_flow_Less.as F_flow_Less.rt (fun (x : Int × ByteArray) => F_flow_Less.S k x)), (17, pureN F_flow_Hash.as F_flow_Hash.rt (fun (x : ByteArray × (Int × ByteArray)) => F_flow_Hash.S k x.1 x.2)), (18, pureN F_aqueductref03_Hash.as F_aqueductref03_Hash.rt (fun (x : ByteArray × ByteArray) => F_aqueductref03_Hash.S k x.1 x.2))]
theorem F_aqueductlaw09_FlowLess.cal0_ok {T : Type} (k : Nat) : HdsOk Try.prog (F_aqueductlaw09_FlowLess.cal0 (T := T) k) := ⟨F_aqueductlaw09_fixed.hd k, F_flow_Less.hd k, F_flow_Hash.hd k, F_aqueductref03_Hash.hd k, trivial⟩
noncomputable def F_aqueductlaw09_FlowLess.cal {T : Type} (k : Nat) : List (FuncId × Hd T) := F_aqueductlaw09_FlowLess.cal0 k
theorem F_aqueductlaw09_FlowLess.cal_ok {T : Type} (k : Nat) : HdsOk Try.prog (F_aqueductlaw09_FlowLess.cal (T := T) k) := F_aqueductlaw09_FlowLess.cal0_ok k
noncomputable def F_aqueductlaw09_FlowLess.S (k : Nat) (a0 : ByteArray) (a1 : Int × ByteArray) : O Bool :=
  O.chk (decide (0 ≤ (min (ByteArray.size a1.2 : Int) (60 : Int)) ∧ (min (ByteArray.size a1.2 : Int) (60 : Int)) ≤ (ByteArray.size a1.2 : Int))) (
   O.bind (F_flow_Less.S k (a1.1, (ByteArray.extract a1.2 0 (min (ByteArray.size a1.2 : Int) (60 : Int)).toNat))) fun r3 =>
   O.bind (F_flow_Hash.S k a0 r3) fun r5 =>
   O.chk (decide (0 ≤ (min (ByteArray.size (ByteArray.extract a1.2 0 (min (ByteArray.size a1.2 : Int) (60 : Int)).toNat) : Int) (ByteArray.size r3.2 : Int)) ∧ (min (ByteArray.size (ByteArray.extract a1.2 0 (min (ByteArray.size a1.2 : Int) (60 : Int)).toNat) : Int) (ByteArray.size r3.2 : Int)) ≤ (ByteArray.size (ByteArray.extract a1.2 0 (min (ByteArray.size a1.2 : Int) (60 : Int)).toNat) : Int))) (
    O.bind (F_aqueductref03_Hash.S k a0 (ByteArray.extract (ByteArray.extract a1.2 0 (min (ByteArray.size a1.2 : Int) (60 : Int)).toNat) 0 (min (ByteArray.size (ByteArray.extract a1.2 0 (min (ByteArray.size a1.2 : Int) (60 : Int)).toNat) : Int) (ByteArray.size r3.2 : Int)).toNat)) fun r7 =>
    O.bind (F_flow_Less.S k r3) fun r9 =>
    O.cond (decide (r9.1 = r3.1) && (decide (r9.2 = r3.2) && true)) (
     O.cond (decide (r5.2 = r7.2)) (
      O.cond (decide (r5.1 = r7.1)) (
       O.bind (F_aqueductlaw09_fixed.S k) fun r11 =>
       .ok r11) (
       .ok false)) (
      .ok false)) (
     .ok false)))
theorem F_aqueductlaw09_FlowLess.eq (k : Nat) (a0 : ByteArray) (a1 : Int × ByteArray) : evFn (T := Bool) tab (calOf (F_aqueductlaw09_FlowLess.cal k)) Go.Proofs.Try.f8 F_aqueductlaw09_FlowLess.nt k [.str a0, .agg [.int .i64 a1.1, .str a1.2]] [] ⟨0, false, []⟩ (fun v st => takeR F_aqueductlaw09_FlowLess.rt v st.H .ok) panK = F_aqueductlaw09_FlowLess.S k a0 a1 := by kernel_rfl
theorem F_aqueductlaw09_FlowLess.ok (k : Nat) : FnOk Try.prog 8 F_aqueductlaw09_FlowLess.as F_aqueductlaw09_FlowLess.rt (fun (x : ByteArray × (Int × ByteArray)) => F_aqueductlaw09_FlowLess.S k x.1 x.2) :=
  FnOk.of_ev tab_ok (calOf_ok (F_aqueductlaw09_FlowLess.cal_ok k)) mixed Try.func8 F_aqueductlaw09_FlowLess.nt k (fun _ => rfl) (fun (x : ByteArray × (Int × ByteArray)) => F_aqueductlaw09_FlowLess.eq k x.1 x.2)
theorem F_aqueductlaw09_FlowLess.hd {T : Type} (k : Nat) : HdOk Try.prog 8 (pureN (T := T) F_aqueductlaw09_FlowLess.as F_aqueductlaw09_FlowLess.rt (fun (x : ByteArray × (Int × ByteArray)) => F_aqueductlaw09_FlowLess.S k x.1 x.2)) :=
  pureN_ok rfl rfl (F_aqueductlaw09_FlowLess.ok k) Try.call8
end Go.Proofs.Ytojomdlccjlioaa
