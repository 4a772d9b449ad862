/- Texts of this proof, joined (1 of them): BS1.
   Conditions: none but those that stand at each theorem. -/
import Derived.Test.YtpfddjdkafjjfaaBM2
section
namespace Go.Proofs.Ytpfddjdkafjjfaa
open Go.Aq
set_option linter.unusedVariables false
set_option maxRecDepth 100000
namespace F_gmem_Memory_May
noncomputable def ct : Ct := ⟨.some (.pin (.ref 0) (.cons (.leaf (.int .i64)) (.one (.leaf (.int .i64)) []))), [(92, .cons (.row true 5 [.int .u8]) (.cons (.leaf (.int .i64)) (.one (.row true 121 [.int .i64, .int .i64, .int .i64, .bool]) [])))], [⟨.val (.leaf .bool), [], []⟩]⟩
noncomputable def nt : Notes := ⟨[], [], [], [], []⟩
noncomputable def cal0 {T : Type} (k : Nat) : List (FuncId × Hd T) := []
theorem cal0_ok {T : Type} (k : Nat) : HdsOk Try.prog (cal0 (T := T) k) := trivial
noncomputable def cal {T : Type} (k : Nat) : List (FuncId × Hd T) := cal0 k
theorem cal_ok {T : Type} (k : Nat) : HdsOk Try.prog (cal (T := T) k) := cal0_ok k
noncomputable def S (k : Nat) (a1 : Int) (a2 : Int) (g0 : List Int × Int × (List (Int × Int × Int × Bool))) : O Bool :=
  O.cond (decide (a1 ≥ (0 : Int))) (
   O.cond (decide (a2 ≥ (0 : Int))) (
    O.cond (decide (a2 ≤ (List.length g0.1 : Int))) (
     .ok (decide (a1 ≤ (IntKind.i64.wrap ((List.length g0.1 : Int) - a2))))) (
     .ok false)) (
    .ok false)) (
   .ok false)
theorem eq (k : Nat) (a1 : Int) (a2 : Int) (g0 : List Int × Int × (List (Int × Int × Int × Bool))) : evFn (T := Bool) tab (calOf (cal k)) Go.Proofs.Try.f45 nt k 1 [.ptr 0 0, .int .i64 a1, .int .i64 a2] [] ⟨3, false, [(0, .cells 92 [.osl 1, .int .i64 g0.2.1, .osl 2]), (2, .row true 121 [.int .i64, .int .i64, .int .i64, .bool] g0.2.2), (1, .row true 5 [.int .u8] g0.1)]⟩ (fun v st => ifb st.dirty .no (outK [] [] ct.outs v st .ok)) (fun e st => ifb st.dirty .no (outP [] [] ct.outs e st .ok)) = S k a1 a2 g0 := by kernel_rfl
theorem ok (k : Nat) : FnOkR Try.prog 45 ct (fun (x : Int × Int) (g : List Int × Int × (List (Int × Int × Int × Bool))) => S k x.1 x.2 g) :=
 FnOkR.of_ev (C := ct) tab_ok rfl (calOf_ok (cal_ok k)) mixed Try.func45 nt k (fun _ _ => rfl) (fun (x : Int × Int) (g : List Int × Int × (List (Int × Int × Int × Bool))) => eq k x.1 x.2 g)
theorem hd {T : Type} (k : Nat) : HdOk Try.prog 45 (pureR (T := T) ct [.arg 0 0] (fun (x : Int × Int) (g : List Int × Int × (List (Int × Int × Int × Bool))) => S k x.1 x.2 g)) :=
 pureR_ok rfl [.arg 0 0] (ok k) Try.call45
end F_gmem_Memory_May
namespace F_api_Access
noncomputable def ct : Ct := ⟨.some (.one (.row false 121 [.int .i64, .int .i64, .int .i64, .bool]) []), [], [⟨.val (.row true 121 [.int .i64, .int .i64, .int .i64, .bool]), [], []⟩]⟩
noncomputable def nt : Notes := ⟨[], [], [], [], []⟩
noncomputable def cal0 {T : Type} (k : Nat) : List (FuncId × Hd T) := []
theorem cal0_ok {T : Type} (k : Nat) : HdsOk Try.prog (cal0 (T := T) k) := trivial
noncomputable def cal {T : Type} (k : Nat) : List (FuncId × Hd T) := cal0 k
theorem cal_ok {T : Type} (k : Nat) : HdsOk Try.prog (cal (T := T) k) := cal0_ok k
noncomputable def S (k : Nat) (a0 : List (Int × Int × Int × Bool)) : O (List (Int × Int × Int × Bool)) :=
  O.cond (decide (0 < (List.length a0 : Int))) (
   O.cond false (
    .ok []) (
    O.chk (decide ((0 : Nat) + List.length a0 ≤ 1073741824)) (
     .ok ([] ++ a0)))) (
   O.same (
    O.cond true (
     .ok []) (
     O.chk (decide ((0 : Nat) + List.length a0 ≤ 1073741824)) (
      .ok ([] ++ a0)))) (
    O.cond false (
     .ok []) (
     O.chk (decide ((0 : Nat) + List.length a0 ≤ 1073741824)) (
      .ok ([] ++ a0)))))
theorem eq (k : Nat) (a0 : List (Int × Int × Int × Bool)) : evFn (T := List (Int × Int × Int × Bool)) tab (calOf (cal k)) Go.Proofs.Try.f50 nt k 0 [.osl 0] [] ⟨1, false, [(0, .row false 121 [.int .i64, .int .i64, .int .i64, .bool] a0)]⟩ (fun v st => outK ct.ob (γ0 ct) ct.outs v st .ok) (fun e st => outP ct.ob (γ0 ct) ct.outs e st .ok) = S k a0 := by kernel_rfl
theorem ok (k : Nat) : FnOkC Try.prog 50 ct (fun (x : List (Int × Int × Int × Bool)) (_ : Unit) => S k x) :=
 FnOkC.of_ev (C := ct) tab_ok rfl (calOf_ok (cal_ok k)) mixed Try.func50 nt k (fun _ _ => rfl) (fun (x : List (Int × Int × Int × Bool)) (_ : Unit) => eq k x)
theorem hd {T : Type} (k : Nat) : HdOk Try.prog 50 (pureC (T := T) ct [] (fun (x : List (Int × Int × Int × Bool)) (_ : Unit) => S k x)) :=
 pureC_ok rfl [] (ok k) Try.call50
end F_api_Access
namespace F_gmem_Memory_Write
noncomputable def ct : Ct := ⟨.some (.pin (.ref 0) (.cons (.leaf (.int .i64)) (.one (.leaf .str) []))), [(92, .cons (.row true 5 [.int .u8]) (.cons (.leaf (.int .i64)) (.one (.row true 121 [.int .i64, .int .i64, .int .i64, .bool]) [])))], [⟨.val (.leaf (.int .i64)), [], []⟩]⟩
noncomputable def nt : Notes := ⟨[], [], [], [], []⟩
noncomputable def cal0 {T : Type} (k : Nat) : List (FuncId × Hd T) := [(45, pureR F_gmem_Memory_May.ct [.arg 0 0] (fun (x : Int × Int) (g : List Int × Int × (List (Int × Int × Int × Bool))) => F_gmem_Memory_May.S k x.1 x.2 g)), (50, pureC F_api_Access.ct [] (fun (x : List (Int × Int × Int × Bool)) (_ : Unit) => F_api_Access.S k x))]
theorem cal0_ok {T : Type} (k : Nat) : HdsOk Try.prog (cal0 (T := T) k) := ⟨F_gmem_Memory_May.hd k, F_api_Access.hd k, trivial⟩
noncomputable def nt46 : Notes := ⟨[], [], [(1, [0, 1, 2, 3, 4, 5, 6, 7, 8, 9, 10, 11, 12, 13, 14, 15, 16, 17]), (3, [0, 1, 2, 3, 4, 5, 6, 7, 8, 9, 10, 11, 12, 13, 14, 15])], [], []⟩
noncomputable def cal1 {T : Type} (k : Nat) : List (FuncId × Hd T) := (46, inlH tab (calOf (cal0 k)) Go.Proofs.Try.f46 nt46 k) :: cal0 k
theorem cal1_ok {T : Type} (k : Nat) : HdsOk Try.prog (cal1 (T := T) k) := ⟨inlH_ok tab_ok (calOf_ok (cal0_ok k)) mixed Try.func46 nt46 k Try.call46, cal0_ok k⟩
noncomputable def cal {T : Type} (k : Nat) : List (FuncId × Hd T) := cal1 k
theorem cal_ok {T : Type} (k : Nat) : HdsOk Try.prog (cal (T := T) k) := cal1_ok k
noncomputable def S (k : Nat) (a1 : Int) (a2 : ByteArray) (g0 : List Int × Int × (List (Int × Int × Int × Bool))) : O (Int × List Int × Int × (List (Int × Int × Int × Bool))) :=
  O.bind (F_gmem_Memory_May.S k a1 (ByteArray.size a2 : Int) g0) fun r1 =>
  O.cond (!r1) (
   .ok ((41 : Int), g0)) (
   O.cond (decide ((ByteArray.size a2 : Int) = (0 : Int))) (
    O.chk (decide (0 ≤ a1 ∧ a1 ≤ (List.length g0.1 : Int)) && (decide (0 ≤ (List.length g0.1 : Int) ∧ (List.length g0.1 : Int) ≤ (List.length g0.1 : Int)))) (
     O.chk (posI [a1] && decide (0 ≤ ((List.length g0.1 : Int) - a1) ∧ sumI [a1] + ((List.length g0.1 : Int) - a1) ≤ (List.length g0.1 : Int))) (
      .ok ((0 : Int), ((putAt g0.1 (sumI [a1]) (List.take ((List.length g0.1 : Int) - a1).toNat (bytesOf a2))), g0.2.1, g0.2.2))))) (
    O.chk (decide (List.length g0.2.2 + List.length [(g0.2.1, a1, (ByteArray.size a2 : Int), true)] ≤ 1073741824)) (
     O.cond (decide ((List.length (g0.2.2 ++ [(g0.2.1, a1, (ByteArray.size a2 : Int), true)]) : Int) > (8192 : Int))) (
      O.chk (decide (0 ≤ (IntKind.i64.wrap ((List.length (g0.2.2 ++ [(g0.2.1, a1, (ByteArray.size a2 : Int), true)]) : Int) - (4096 : Int))) ∧ (IntKind.i64.wrap ((List.length (g0.2.2 ++ [(g0.2.1, a1, (ByteArray.size a2 : Int), true)]) : Int) - (4096 : Int))) ≤ (List.length (g0.2.2 ++ [(g0.2.1, a1, (ByteArray.size a2 : Int), true)]) : Int)) && (decide (0 ≤ (List.length (g0.2.2 ++ [(g0.2.1, a1, (ByteArray.size a2 : Int), true)]) : Int) ∧ (List.length (g0.2.2 ++ [(g0.2.1, a1, (ByteArray.size a2 : Int), true)]) : Int) ≤ (List.length (g0.2.2 ++ [(g0.2.1, a1, (ByteArray.size a2 : Int), true)]) : Int)))) (
       O.chk (posI [(IntKind.i64.wrap ((List.length (g0.2.2 ++ [(g0.2.1, a1, (ByteArray.size a2 : Int), true)]) : Int) - (4096 : Int)))] && decide (0 ≤ ((List.length (g0.2.2 ++ [(g0.2.1, a1, (ByteArray.size a2 : Int), true)]) : Int) - (IntKind.i64.wrap ((List.length (g0.2.2 ++ [(g0.2.1, a1, (ByteArray.size a2 : Int), true)]) : Int) - (4096 : Int)))) ∧ sumI [(IntKind.i64.wrap ((List.length (g0.2.2 ++ [(g0.2.1, a1, (ByteArray.size a2 : Int), true)]) : Int) - (4096 : Int)))] + ((List.length (g0.2.2 ++ [(g0.2.1, a1, (ByteArray.size a2 : Int), true)]) : Int) - (IntKind.i64.wrap ((List.length (g0.2.2 ++ [(g0.2.1, a1, (ByteArray.size a2 : Int), true)]) : Int) - (4096 : Int)))) ≤ (List.length (g0.2.2 ++ [(g0.2.1, a1, (ByteArray.size a2 : Int), true)]) : Int))) (
        O.bind (F_api_Access.S k (sub (g0.2.2 ++ [(g0.2.1, a1, (ByteArray.size a2 : Int), true)]) (sumI [(IntKind.i64.wrap ((List.length (g0.2.2 ++ [(g0.2.1, a1, (ByteArray.size a2 : Int), true)]) : Int) - (4096 : Int)))]) ((List.length (g0.2.2 ++ [(g0.2.1, a1, (ByteArray.size a2 : Int), true)]) : Int) - (IntKind.i64.wrap ((List.length (g0.2.2 ++ [(g0.2.1, a1, (ByteArray.size a2 : Int), true)]) : Int) - (4096 : Int)))))) fun r2 =>
        O.chk (decide (0 ≤ a1 ∧ a1 ≤ (List.length g0.1 : Int)) && (decide (0 ≤ (List.length g0.1 : Int) ∧ (List.length g0.1 : Int) ≤ (List.length g0.1 : Int)))) (
         O.chk (posI [a1] && decide (0 ≤ ((List.length g0.1 : Int) - a1) ∧ sumI [a1] + ((List.length g0.1 : Int) - a1) ≤ (List.length g0.1 : Int))) (
          .ok ((0 : Int), ((putAt g0.1 (sumI [a1]) (List.take ((List.length g0.1 : Int) - a1).toNat (bytesOf a2))), g0.2.1, r2))))))) (
      O.chk (decide (0 ≤ a1 ∧ a1 ≤ (List.length g0.1 : Int)) && (decide (0 ≤ (List.length g0.1 : Int) ∧ (List.length g0.1 : Int) ≤ (List.length g0.1 : Int)))) (
       O.chk (posI [a1] && decide (0 ≤ ((List.length g0.1 : Int) - a1) ∧ sumI [a1] + ((List.length g0.1 : Int) - a1) ≤ (List.length g0.1 : Int))) (
        .ok ((0 : Int), ((putAt g0.1 (sumI [a1]) (List.take ((List.length g0.1 : Int) - a1).toNat (bytesOf a2))), g0.2.1, (g0.2.2 ++ [(g0.2.1, a1, (ByteArray.size a2 : Int), true)])))))))))
theorem eq (k : Nat) (a1 : Int) (a2 : ByteArray) (g0 : List Int × Int × (List (Int × Int × Int × Bool))) : evFn (T := Int × List Int × Int × (List (Int × Int × Int × Bool))) tab (calOf (cal k)) Go.Proofs.Try.f16 nt k 1 [.ptr 0 0, .int .i64 a1, .str a2] [] ⟨3, false, [(0, .cells 92 [.osl 1, .int .i64 g0.2.1, .osl 2]), (2, .row true 121 [.int .i64, .int .i64, .int .i64, .bool] g0.2.2), (1, .row true 5 [.int .u8] g0.1)]⟩ (fun v st => outK ct.ob (γ0 ct) ct.outs v st .ok) (fun e st => outP ct.ob (γ0 ct) ct.outs e st .ok) = S k a1 a2 g0 := by kernel_rfl
theorem ok (k : Nat) : FnOkC Try.prog 16 ct (fun (x : Int × ByteArray) (g : List Int × Int × (List (Int × Int × Int × Bool))) => S k x.1 x.2 g) :=
 FnOkC.of_ev (C := ct) tab_ok rfl (calOf_ok (cal_ok k)) mixed Try.func16 nt k (fun _ _ => rfl) (fun (x : Int × ByteArray) (g : List Int × Int × (List (Int × Int × Int × Bool))) => eq k x.1 x.2 g)
theorem hd {T : Type} (k : Nat) : HdOk Try.prog 16 (pureC (T := T) ct [.arg 0 0] (fun (x : Int × ByteArray) (g : List Int × Int × (List (Int × Int × Int × Bool))) => S k x.1 x.2 g)) :=
 pureC_ok rfl [.arg 0 0] (ok k) Try.call16
end F_gmem_Memory_Write
namespace F_devq_Check
noncomputable def ct : Ct := ⟨.some (.pin (.ref 0) (.one (.agg (.cons (.leaf (.int .i64)) (.cons (.leaf (.int .i64)) (.cons (.leaf (.int .i64)) (.one (.leaf (.int .i64)) []))))) [])), [(92, .cons (.row true 5 [.int .u8]) (.cons (.leaf (.int .i64)) (.one (.row true 121 [.int .i64, .int .i64, .int .i64, .bool]) [])))], [⟨.val (.leaf (.int .i64)), [], []⟩]⟩
noncomputable def nt : Notes := ⟨[], [], [], [], []⟩
noncomputable def cal0 {T : Type} (k : Nat) : List (FuncId × Hd T) := [(45, pureR F_gmem_Memory_May.ct [.arg 0 0] (fun (x : Int × Int) (g : List Int × Int × (List (Int × Int × Int × Bool))) => F_gmem_Memory_May.S k x.1 x.2 g))]
theorem cal0_ok {T : Type} (k : Nat) : HdsOk Try.prog (cal0 (T := T) k) := ⟨F_gmem_Memory_May.hd k, trivial⟩
noncomputable def cal {T : Type} (k : Nat) : List (FuncId × Hd T) := cal0 k
theorem cal_ok {T : Type} (k : Nat) : HdsOk Try.prog (cal (T := T) k) := cal0_ok k
noncomputable def S (k : Nat) (a1 : Int × Int × Int × Int) (g0 : List Int × Int × (List (Int × Int × Int × Bool))) : O Int :=
  O.cond (decide (a1.2.1 < (1 : Int))) (
   .ok (140 : Int)) (
   O.cond (decide (a1.2.1 > (32768 : Int))) (
    .ok (140 : Int)) (
    O.cond (decide ((Int.tmod a1.1 (16 : Int)) ≠ (0 : Int))) (
     .ok (140 : Int)) (
     O.cond (decide ((Int.tmod a1.2.2.1 (4 : Int)) ≠ (0 : Int))) (
      .ok (140 : Int)) (
      O.cond (decide ((Int.tmod a1.2.2.2 (4 : Int)) ≠ (0 : Int))) (
       .ok (140 : Int)) (
       O.bind (F_gmem_Memory_May.S k a1.1 (IntKind.i64.wrap ((16 : Int) * a1.2.1)) g0) fun r1 =>
       O.cond (!r1) (
        .ok (140 : Int)) (
        O.bind (F_gmem_Memory_May.S k a1.2.2.1 (4 : Int) g0) fun r2 =>
        O.cond (!r2) (
         .ok (140 : Int)) (
         O.bind (F_gmem_Memory_May.S k a1.2.2.2 (4 : Int) g0) fun r3 =>
         O.cond (!r3) (
          .ok (140 : Int)) (
          .ok (0 : Int)))))))))
theorem eq (k : Nat) (a1 : Int × Int × Int × Int) (g0 : List Int × Int × (List (Int × Int × Int × Bool))) : evFn (T := Int) tab (calOf (cal k)) Go.Proofs.Try.f52 nt k 1 [.ptr 0 0, .agg [.int .i64 a1.1, .int .i64 a1.2.1, .int .i64 a1.2.2.1, .int .i64 a1.2.2.2]] [] ⟨3, false, [(0, .cells 92 [.osl 1, .int .i64 g0.2.1, .osl 2]), (2, .row true 121 [.int .i64, .int .i64, .int .i64, .bool] g0.2.2), (1, .row true 5 [.int .u8] g0.1)]⟩ (fun v st => ifb st.dirty .no (outK [] [] ct.outs v st .ok)) (fun e st => ifb st.dirty .no (outP [] [] ct.outs e st .ok)) = S k a1 g0 := by kernel_rfl
theorem ok (k : Nat) : FnOkR Try.prog 52 ct (fun (x : Int × Int × Int × Int) (g : List Int × Int × (List (Int × Int × Int × Bool))) => S k x g) :=
 FnOkR.of_ev (C := ct) tab_ok rfl (calOf_ok (cal_ok k)) mixed Try.func52 nt k (fun _ _ => rfl) (fun (x : Int × Int × Int × Int) (g : List Int × Int × (List (Int × Int × Int × Bool))) => eq k x g)
theorem hd {T : Type} (k : Nat) : HdOk Try.prog 52 (pureR (T := T) ct [.arg 0 0] (fun (x : Int × Int × Int × Int) (g : List Int × Int × (List (Int × Int × Int × Bool))) => S k x g)) :=
 pureR_ok rfl [.arg 0 0] (ok k) Try.call52
end F_devq_Check
namespace F_drvq_New
noncomputable def ct : Ct := ⟨.some (.pin (.ref 0) (.one (.agg (.cons (.leaf (.int .i64)) (.cons (.leaf (.int .i64)) (.cons (.leaf (.int .i64)) (.one (.leaf (.int .i64)) []))))) [])), [(92, .cons (.row true 5 [.int .u8]) (.cons (.leaf (.int .i64)) (.one (.row true 121 [.int .i64, .int .i64, .int .i64, .bool]) [])))], [⟨.tup (.pin (.nil) (.one (.leaf (.int .i64)) [])), [], []⟩, ⟨.tup (.pin (.ref 1) (.one (.leaf (.int .i64)) [])), [(95, .pin (.ref 0) (.cons (.agg (.cons (.leaf (.int .i64)) (.cons (.leaf (.int .i64)) (.cons (.leaf (.int .i64)) (.one (.leaf (.int .i64)) []))))) (.cons (.agg (.cons (.leaf (.int .i64)) (.one (.leaf .bool) []))) (.cons (.agg (.cons (.leaf (.int .i64)) (.one (.leaf .bool) []))) (.cons (.agg (.cons (.leaf (.int .i64)) (.one (.leaf .bool) []))) (.cons (.leaf (.int .i64)) (.cons (.leaf (.int .i64)) (.one (.map 93 false false [.int .i64] [.int .i64]) []))))))))], [.arg 0 0]⟩]⟩
noncomputable def nt : Notes := ⟨[], [], [(4, [0, 1, 2, 3, 4, 5, 6, 7]), (5, [0, 1, 2, 3, 4]), (6, [0, 1, 2, 3, 4])], [], []⟩
noncomputable def cal0 {T : Type} (k : Nat) : List (FuncId × Hd T) := [(16, pureC F_gmem_Memory_Write.ct [.arg 0 0] (fun (x : Int × ByteArray) (g : List Int × Int × TY1) => F_gmem_Memory_Write.S k x.1 x.2 g)), (52, pureR F_devq_Check.ct [.arg 0 0] (fun (x : Int × Int × Int × Int) (g : List Int × Int × TY1) => F_devq_Check.S k x g)), (53, pureC F_strings_Repeat.ct [] (fun (x : ByteArray × Int) (_ : Unit) => F_strings_Repeat.S k x.1 x.2))]
theorem cal0_ok {T : Type} (k : Nat) : HdsOk Try.prog (cal0 (T := T) k) := ⟨F_gmem_Memory_Write.hd k, F_devq_Check.hd k, F_strings_Repeat.hd k, trivial⟩
noncomputable def cal {T : Type} (k : Nat) : List (FuncId × Hd T) := cal0 k
theorem cal_ok {T : Type} (k : Nat) : HdsOk Try.prog (cal (T := T) k) := cal0_ok k
noncomputable def S (k : Nat) (a1 : Int × Int × Int × Int) (g0 : List Int × Int × TY1) : O ((Int × List Int × Int × TY1) ⊕ TY0) :=
  O.bind (F_devq_Check.S k a1 g0) fun r1 =>
  O.cond (decide (r1 ≠ (0 : Int))) (
   .ok (.inl (r1, g0))) (
   O.bind (F_strings_Repeat.S k (⟨#[0]⟩ : ByteArray) (IntKind.i64.wrap ((16 : Int) * a1.2.1))) fun r2 =>
   O.bind (F_gmem_Memory_Write.S k a1.1 r2 g0) fun r3 =>
   O.bind (F_strings_Repeat.S k (⟨#[0]⟩ : ByteArray) (4 : Int)) fun r4 =>
   O.bind (F_gmem_Memory_Write.S k a1.2.2.1 r4 r3.2) fun r5 =>
   O.bind (F_strings_Repeat.S k (⟨#[0]⟩ : ByteArray) (4 : Int)) fun r6 =>
   O.bind (F_gmem_Memory_Write.S k a1.2.2.2 r6 r5.2) fun r7 =>
   .ok (.inr ((0 : Int), (r7.2, (a1, ((0 : Int), true), ((0 : Int), true), ((0 : Int), true), (0 : Int), a1.2.1, [])))))
theorem eq (k : Nat) (a1 : Int × Int × Int × Int) (g0 : List Int × Int × TY1) : evFn (T := (Int × List Int × Int × TY1) ⊕ TY0) tab (calOf (cal k)) Go.Proofs.Try.f23 nt k 1 [.ptr 0 0, .agg [.int .i64 a1.1, .int .i64 a1.2.1, .int .i64 a1.2.2.1, .int .i64 a1.2.2.2]] [] ⟨3, false, [(0, .cells 92 [.osl 1, .int .i64 g0.2.1, .osl 2]), (2, .row true 121 [.int .i64, .int .i64, .int .i64, .bool] g0.2.2), (1, .row true 5 [.int .u8] g0.1)]⟩ (fun v st => outK ct.ob (γ0 ct) ct.outs v st .ok) (fun e st => outP ct.ob (γ0 ct) ct.outs e st .ok) = S k a1 g0 := by kernel_rfl
theorem ok (k : Nat) : FnOkC Try.prog 23 ct (fun (x : Int × Int × Int × Int) (g : List Int × Int × TY1) => S k x g) :=
 FnOkC.of_ev (C := ct) tab_ok rfl (calOf_ok (cal_ok k)) mixed Try.func23 nt k (fun _ _ => rfl) (fun (x : Int × Int × Int × Int) (g : List Int × Int × TY1) => eq k x g)
theorem hd {T : Type} (k : Nat) : HdOk Try.prog 23 (pureC (T := T) ct [.arg 0 0] (fun (x : Int × Int × Int × Int) (g : List Int × Int × TY1) => S k x g)) :=
 pureC_ok rfl [.arg 0 0] (ok k) Try.call23
end F_drvq_New
end Go.Proofs.Ytpfddjdkafjjfaa
end
